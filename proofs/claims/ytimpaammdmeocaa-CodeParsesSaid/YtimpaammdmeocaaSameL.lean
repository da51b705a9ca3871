/- Configurations: one is the same as itself, wherever it lies. Conditions: none. -/
import Derived.Test.YtimpaammdmeocaaCfgV
import Derived.Test.YtimpaammdmeocaaSameM
import Derived.Test.YtimpaammdmeocaaSbW
namespace Go.Proofs.Ytimpaammdmeocaa
open Go Go.Sb
set_option linter.unusedSimpArgs false
set_option linter.unusedVariables false
set_option linter.unusedVariables false
section
variable {h0 h : Hp} {R L : List As} {C : PCfg} {sm sc se st sl sm' sc' se' st' sl' : Sl} {ts ts' : List (PTask × Sl)}
def fewLens (C : PCfg) : Prop := C.mail.length ≤ 1000 ∧ C.counts.length ≤ 1000 ∧ C.ceils.length ≤ 1000 ∧ C.lines.length ≤ 1000 ∧ C.tasks.length ≤ 1000 ∧ ∀ t ∈ C.tasks, t.ops.length ≤ 1000
theorem same4 {a b : Sl} {xs : List Int} (hl : xs.length ≤ 1000) (ha : RdI h0.size h0 .i64 a xs) (hb : RdI h0.size h0 .i64 b xs) (hs : Sep h0 h L) : ∀ (d k : Nat), k + d = xs.length → K_signalboxref07_same_4 a b (a.n : Int) (k : Int) h (fun v h' => v = .bool true ∧ h' = h)
  | 0, k, hk => by
    have hn := ha.n
    apply S_signalboxref07_same_4
    unfold B_signalboxref07_same_4
    refine mIf_neg (by simp; omega) ?_
    exact ⟨rfl, rfl⟩
  | d + 1, k, hk => by
    have ih := same4 hl ha hb hs d (k + 1)
    have hn := ha.n
    have hkl : k < xs.length := by omega
    apply S_signalboxref07_same_4
    unfold B_signalboxref07_same_4
    refine mIf_pos (by simp; omega) ?_
    refine hs.argIn ha hkl ?_
    refine hs.argIn hb hkl ?_
    refine mIf_neg (by simp) ?_
    rw [wrapS k (by omega)]
    exact ih (by omega)
theorem same_s {a b : Sl} {xs : List Int} (hl : xs.length ≤ 1000) (ha : RdI h0.size h0 .i64 a xs) (hb : RdI h0.size h0 .i64 b xs) (hs : Sep h0 h L) : N_signalboxref07_same a b h (fun v h' => v = .bool true ∧ h' = h) := by
  apply S_signalboxref07_same
  unfold B_signalboxref07_same
  refine mIf_neg (by rw [ha.n, hb.n]; simp) ?_
  exact same4 hl ha hb hs xs.length 0 (Nat.zero_add _)
theorem Same10 (hl : ts.length ≤ 1000) {t : PTask} {o o' : Sl} (hol : t.ops.length ≤ 1000) (ho : RdE h0.size h0 encO 3 o t.ops) (ho' : RdE h0.size h0 encO 3 o' t.ops) {c c' x y k : Nat} (hk : k < ts.length)
    (next : ∀ h, Sep h0 h (aBlk c (cfgC C sm sc se st sl) :: aBlk c' (cfgC C sm' sc' se' st' sl') :: R) → K_signalboxref07_Same_4 ⟨c, 0, none⟩ ⟨c', 0, none⟩ (st.n : Int) ((k + 1 : Nat) : Int) h (fun v h' => v = .bool true ∧ Sep h0 h' R)) : ∀ (d j : Nat) (h : Hp), j + d = t.ops.length →
    Sep h0 h (aBlk x (tskC t o) :: aBlk y (tskC t o') :: aBlk c (cfgC C sm sc se st sl) :: aBlk c' (cfgC C sm' sc' se' st' sl') :: R) →
    K_signalboxref07_Same_10 ⟨c, 0, none⟩ ⟨c', 0, none⟩ ⟨x, 0, none⟩ ⟨y, 0, none⟩ (st.n : Int) (k : Int) (o.n : Int) (j : Int) h (fun v h' => v = .bool true ∧ Sep h0 h' R)
  | 0, j, h, hj, hs => by
    have hn := ho.n
    apply S_signalboxref07_Same_10
    unfold B_signalboxref07_Same_10
    refine mIf_neg (by simp; omega) ?_
    rw [wrapS k (by omega)]
    exact next h hs.drop.drop
  | d + 1, j, h, hj, hs => by
    have ih := Same10 hl hol ho ho' (x := x) (y := y) hk next d (j + 1)
    have hn := ho.n
    have hjl : j < t.ops.length := by omega
    apply S_signalboxref07_Same_10
    unfold B_signalboxref07_Same_10
    refine mIf_pos (by simp; omega) ?_
    (refine Sep.ldL hs 0 rfl rfl ?_; simp only [add_mk, Nat.zero_add, Bool.and_true]; refine Sep.argEn hs ho (by first | omega | (simp only [List.length_set, List.length_map, List.length_replicate, List.length_append, List.length_cons, List.length_nil, List.length_reverse, List.length_range]; omega) | (simp; omega)) fun aa haa => ?_; refine Arg.ldI0 haa rfl ?_; refine Arg.ldI haa rfl ?_; refine Arg.ldI haa rfl ?_; refine Sep.ldL hs 1 rfl rfl ?_; simp only; refine Sep.argEn hs ho' (by first | omega | (simp only [List.length_set, List.length_map, List.length_replicate, List.length_append, List.length_cons, List.length_nil, List.length_reverse, List.length_range]; omega) | (simp; omega)) fun aa_1 haa_1 => ?_; refine Arg.ldI0 haa_1 rfl ?_; refine Arg.ldI haa_1 rfl ?_; refine Arg.ldI haa_1 rfl ?_)
    refine mIf_neg (by simp) ?_
    rw [wrapS j (by omega)]
    exact ih h (by omega) hs
theorem Same7 (hl : ts.length ≤ 1000) {t : PTask} {o o' : Sl} (hol : t.ops.length ≤ 1000) (ho : RdE h0.size h0 encO 3 o t.ops) (ho' : RdE h0.size h0 encO 3 o' t.ops) {c c' x y k : Nat} (hk : k < ts.length)
    (next : ∀ h, Sep h0 h (aBlk c (cfgC C sm sc se st sl) :: aBlk c' (cfgC C sm' sc' se' st' sl') :: R) → K_signalboxref07_Same_4 ⟨c, 0, none⟩ ⟨c', 0, none⟩ (st.n : Int) ((k + 1 : Nat) : Int) h (fun v h' => v = .bool true ∧ Sep h0 h' R))
    (hs : Sep h0 h (aBlk x (tskC t o) :: aBlk y (tskC t o') :: aBlk c (cfgC C sm sc se st sl) :: aBlk c' (cfgC C sm' sc' se' st' sl') :: R)) :
    K_signalboxref07_Same_7 ⟨c, 0, none⟩ ⟨c', 0, none⟩ ⟨x, 0, none⟩ ⟨y, 0, none⟩ (st.n : Int) (k : Int) h (fun v h' => v = .bool true ∧ Sep h0 h' R) := by
  apply S_signalboxref07_Same_7
  unfold B_signalboxref07_Same_7
  have e : ∀ z : Int, (z != z) = false := fun z => by simp
  (refine Sep.ldI hs 0 rfl rfl ?_; refine Sep.ldI hs 1 rfl rfl ?_; simp only [add_mk, Nat.zero_add, mBind_ap])
  rw [e]; (simp only [mIf_false]; refine Sep.ldI hs 0 rfl rfl ?_; refine Sep.ldI hs 1 rfl rfl ?_; rw [mRet_ap]; simp only)
  rw [e]; (simp only [mIf_false]; refine Sep.ldI hs 0 rfl rfl ?_; refine Sep.ldI hs 1 rfl rfl ?_; rw [mRet_ap]; simp only)
  rw [e]; (simp only [mIf_false]; refine Sep.ldI hs 0 rfl rfl ?_; refine Sep.ldI hs 1 rfl rfl ?_; rw [mRet_ap]; simp only)
  rw [e]; (simp only [mIf_false]; refine Sep.ldI hs 0 rfl rfl ?_; refine Sep.ldI hs 1 rfl rfl ?_; rw [mRet_ap]; simp only)
  rw [e]; (simp only [mIf_false]; refine Sep.ldI hs 0 rfl rfl ?_; refine Sep.ldI hs 1 rfl rfl ?_; rw [mRet_ap]; simp only)
  rw [e]; (simp only [mIf_false]; refine Sep.ldL hs 0 rfl rfl ?_; refine Sep.ldL hs 1 rfl rfl ?_; rw [mRet_ap]; simp only)
  rw [ho.n, ho'.n, e]; (simp only [mIf_false]; refine Sep.ldL hs 0 rfl rfl ?_; simp only)
  exact Same10 hl hol ho ho' hk next t.ops.length 0 h (Nat.zero_add _) hs
theorem RdE.ixA {X α : Type} {enc : X → List Value} {sz : Nat} {s : Sl} {xs : List X} {K : Addr → M α} {Q : α → Hp → Prop} (hr : RdE h0.size h0 enc sz s xs) (hs : Sep h0 h L) {j : Nat} (hj : j < xs.length) (hk : ∀ a, (∀ h L, Sep h0 h L → Arg h enc (xs[j]'hj) a) → K a h Q) : mIdx s (j : Int) sz K h Q := by
  obtain ⟨a, e1, e2, e3⟩ := hr.at_ j _ (List.getElem?_eq_getElem hj)
  refine ⟨a, e1, by omega, by rw [hr.n]; omega, ?_⟩
  rw [Int.toNat_natCast]
  exact hk _ fun h L hs => ⟨fun i v hv => by rw [hs.under.cell (by rw [add_block, add_block]; exact e2)]; exact e3 i v hv⟩
theorem ld7 {a : Addr} {p : PTask × Sl} {K : Int → Int → Int → Int → Int → Int → Sl → M Value} {Q : Value → Hp → Prop} (ha : Arg h encT p a) (hK : K p.1.pr p.1.th p.1.pe p.1.de p.1.fr p.1.fl p.2 h Q) : mLdT7 a K h Q := by
  unfold mLdT7
  refine ha.ldI0 rfl ?_
  refine ha.ldI (j := 1) rfl ?_
  refine ha.ldI (j := 2) rfl ?_
  refine ha.ldI (j := 3) rfl ?_
  refine ha.ldI (j := 4) rfl ?_
  refine ha.ldI (j := 5) rfl ?_
  refine ha.ldL (j := 6) rfl ?_
  exact hK
theorem new7 {K : Addr → M Value} {Q : Value → Hp → Prop} (hs : Sep h0 h L) (hK : ∀ b h, Sep h0 h (aBlk b (tskC ⟨0, 0, 0, 0, 0, 0, []⟩ ⟨none, 0, 0⟩) :: L) → K ⟨b, 0, none⟩ h Q) : mNewT7 K h Q := by
  unfold mNewT7
  exact Sep.new hs fun b h hs => hK b h hs
theorem st7 {b : Nat} {k : Nat} {t t' : PTask} {o o' : Sl} {K : M Value} {Q : Value → Hp → Prop} (hs : Sep h0 h L) (hk : L[k]? = some (aBlk b (tskC t o))) (hK : ∀ h, Sep h0 h (L.set k (aBlk b (tskC t' o'))) → K h Q) : mStT7 ⟨b, 0, none⟩ t'.pr t'.th t'.pe t'.de t'.fr t'.fl o' K h Q := by
  have hlt := (List.getElem?_eq_some_iff.1 hk).1
  unfold mStT7
  simp only [add_mk, Nat.zero_add]
  refine hs.st k hk rfl rfl fun h hs => ?_
  refine hs.st k (by rw [List.getElem?_set_self (by simpa using hlt)]) rfl rfl fun h hs => ?_
  refine hs.st k (by rw [List.getElem?_set_self (by simpa using hlt)]) rfl rfl fun h hs => ?_
  refine hs.st k (by rw [List.getElem?_set_self (by simpa using hlt)]) rfl rfl fun h hs => ?_
  refine hs.st k (by rw [List.getElem?_set_self (by simpa using hlt)]) rfl rfl fun h hs => ?_
  refine hs.st k (by rw [List.getElem?_set_self (by simpa using hlt)]) rfl rfl fun h hs => ?_
  refine hs.st k (by rw [List.getElem?_set_self (by simpa using hlt)]) rfl rfl fun h hs => ?_
  simp only [List.set_set] at hs
  exact hK h hs
set_option maxHeartbeats 1600000 in
theorem Same4 (hc : CRd h0 C sm sc se st sl ts) (hc' : CRd h0 C sm' sc' se' st' sl' ts') (hl : ts.length ≤ 1000) (hol : ∀ t ∈ C.tasks, t.ops.length ≤ 1000) {c c' : Nat} : ∀ (d k : Nat) (h : Hp), k + d = ts.length →
    Sep h0 h (aBlk c (cfgC C sm sc se st sl) :: aBlk c' (cfgC C sm' sc' se' st' sl') :: R) →
    K_signalboxref07_Same_4 ⟨c, 0, none⟩ ⟨c', 0, none⟩ (st.n : Int) (k : Int) h (fun v h' => v = .bool true ∧ Sep h0 h' R)
  | 0, k, h, hk, hs => by
    have hn := hc.rows.n
    apply S_signalboxref07_Same_4
    unfold B_signalboxref07_Same_4
    refine mIf_neg (by simp; omega) ?_
    exact ⟨rfl, hs.drop.drop⟩
  | d + 1, k, h, hk, hs => by
    have ih := Same4 hc hc' hl hol (c := c) (c' := c') d (k + 1)
    have hn := hc.rows.n
    have hkl : k < ts.length := by omega
    have hkl' : k < ts'.length := by have := hc.len; have := hc'.len; omega
    have hops := hc.ops _ (List.getElem_mem hkl)
    have hops' := hc'.ops _ (List.getElem_mem hkl')
    have htk := hc.at hkl
    have htk' := hc'.at hkl'
    have ha : ∀ h, Sep h0 h R → True := fun _ _ => trivial
    have hrw := hc.rows
    have hrw' := hc'.rows
    have het : (ts'[k]'hkl').1 = (ts[k]'hkl).1 := by rw [htk] at htk'; exact (Option.some.inj htk').symm
    have tol := hol _ (List.mem_of_getElem? htk)
    have ix : ∀ h {K : Addr → M Value} {Q : Value → Hp → Prop} {L : List As}, Sep h0 h L → (∀ a, (∀ h L, Sep h0 h L → Arg h encT (ts[k]'hkl) a) → K a h Q) → mIdx st (k : Int) 7 K h Q := fun h K Q L hs hk => RdE.ixA hrw hs hkl hk
    have ix' : ∀ h {K : Addr → M Value} {Q : Value → Hp → Prop} {L : List As}, Sep h0 h L → (∀ a, (∀ h L, Sep h0 h L → Arg h encT (ts'[k]'hkl') a) → K a h Q) → mIdx st' (k : Int) 7 K h Q := fun h K Q L hs hk => RdE.ixA hrw' hs hkl' hk
    clear htk htk' ha hrw hrw'
    generalize ts[k]'hkl = p at *
    generalize ts'[k]'hkl' = p' at *
    obtain ⟨t, o⟩ := p
    obtain ⟨t', o'⟩ := p'
    simp only at het hops hops' tol
    subst het
    have fin : ∀ h x y, Sep h0 h (aBlk x (tskC t' o) :: aBlk y (tskC t' o') :: aBlk c (cfgC C sm sc se st sl) :: aBlk c' (cfgC C sm' sc' se' st' sl') :: R) →
        K_signalboxref07_Same_7 ⟨c, 0, none⟩ ⟨c', 0, none⟩ ⟨x, 0, none⟩ ⟨y, 0, none⟩ (st.n : Int) (k : Int) h (fun v h' => v = .bool true ∧ Sep h0 h' R) := by
      intro h x y hs
      exact Same7 hl tol hops.1 hops'.1 hkl (fun h hs => ih h (by omega) hs) hs
    apply S_signalboxref07_Same_4
    unfold B_signalboxref07_Same_4
    refine mIf_pos (by simp; omega) ?_
    simp only [add_mk, Nat.zero_add]
    repeat' (first | with_reducible refine mAnd_intro ?_ ?_ | with_reducible refine ld7 (ha _ _ hs) ?_ | with_reducible refine ld7 (ha' _ _ hs) ?_ | with_reducible refine new7 hs fun b h hs => ?_ | with_reducible refine ix h hs fun a ha => ?_ | with_reducible refine ix' h hs fun a' ha' => ?_ | with_reducible refine hs.ldL 0 rfl rfl ?_ | with_reducible refine hs.ldL 1 rfl rfl ?_ | with_reducible refine hs.ldL 2 rfl rfl ?_ | with_reducible refine hs.ldL 3 rfl rfl ?_ | (with_reducible refine st7 (t' := t') (o' := o) (k := 0) hs rfl fun h hs => ?_; simp only [List.set_cons_zero, List.set_cons_succ] at hs) | (with_reducible refine st7 (t' := t') (o' := o) (k := 1) hs rfl fun h hs => ?_; simp only [List.set_cons_zero, List.set_cons_succ] at hs) | (with_reducible refine st7 (t' := t') (o' := o') (k := 0) hs rfl fun h hs => ?_; simp only [List.set_cons_zero, List.set_cons_succ] at hs) | (with_reducible refine st7 (t' := t') (o' := o') (k := 1) hs rfl fun h hs => ?_; simp only [List.set_cons_zero, List.set_cons_succ] at hs))
    all_goals first | exact fin h _ _ hs | exact fin h _ _ hs.swap
theorem Same_s (hc : CRd h0 C sm sc se st sl ts) (hc' : CRd h0 C sm' sc' se' st' sl' ts') (hl : fewLens C) (hs : Sep h0 h R) :
    N_signalboxref07_Same C.sets C.ways C.hit C.miss sm C.groups sc se st sl C.sets C.ways C.hit C.miss sm' C.groups sc' se' st' sl' h (fun v h' => v = .bool true ∧ Sep h0 h' R) := by
  obtain ⟨n1, n2, n3, n4, n5, n6⟩ := hc.len
  obtain ⟨m1, m2, m3, m4, m5, m6⟩ := hc'.len
  apply S_signalboxref07_Same
  unfold B_signalboxref07_Same
  refine Sep.new hs fun c h hs => ?_
  refine Sep.new hs fun c' h hs => ?_
  simp only [List.toList_toArray] at hs
  have hs : Sep h0 h (aBlk c' (cfgC C sm' sc' se' st' sl') :: aBlk c (cfgC C sm sc se st sl) :: R) := hs
  have e : ∀ z : Int, (z != z) = false := fun z => by simp
  have e' : ∀ z : Int, (z == z) = true := fun z => by simp
  (refine Sep.ldI hs 1 rfl rfl ?_; refine Sep.ldI hs 1 rfl rfl ?_; refine Sep.ldI hs 1 rfl rfl ?_; refine Sep.ldI hs 1 rfl rfl ?_; refine Sep.ldI hs 0 rfl rfl ?_; refine Sep.ldI hs 0 rfl rfl ?_; refine Sep.ldI hs 0 rfl rfl ?_; refine Sep.ldI hs 0 rfl rfl ?_; simp only [Bool.and_true, add_mk, Nat.zero_add, mBind_ap])
  simp only [e', Bool.true_and, Bool.not_true]
  (simp only [mIf_false]; refine Sep.ldI hs 1 rfl rfl ?_; refine Sep.ldI hs 0 rfl rfl ?_; rw [mRet_ap])
  rw [e]; (simp only [mIf_false]; refine Sep.ldL hs 1 rfl rfl ?_; refine Sep.ldL hs 0 rfl rfl ?_; simp only [mBind_ap])
  refine (same_s hl.1 hc.mail hc'.mail hs).mono ?_
  rintro v h ⟨rfl, rfl⟩
  (simp only [unB_bool, Bool.not_true]; rw [mRet_ap]; simp only [mIf_false]; refine Sep.ldL hs 1 rfl rfl ?_; refine Sep.ldL hs 0 rfl rfl ?_; simp only [mBind_ap])
  refine (same_s hl.2.1 hc.counts hc'.counts hs).mono ?_
  rintro v h ⟨rfl, rfl⟩
  (simp only [unB_bool, Bool.not_true]; rw [mRet_ap]; simp only [mIf_false]; refine Sep.ldL hs 1 rfl rfl ?_; refine Sep.ldL hs 0 rfl rfl ?_; simp only [mBind_ap])
  refine (same_s hl.2.2.1 hc.ceils hc'.ceils hs).mono ?_
  rintro v h ⟨rfl, rfl⟩
  (simp only [unB_bool, Bool.not_true]; rw [mRet_ap]; simp only [mIf_false]; refine Sep.ldL hs 1 rfl rfl ?_; refine Sep.ldL hs 0 rfl rfl ?_; simp only [mBind_ap])
  refine (same_s hl.2.2.2.1 hc.lines hc'.lines hs).mono ?_
  rintro v h ⟨rfl, rfl⟩
  (simp only [unB_bool, Bool.not_true]; rw [mRet_ap]; simp only [mIf_false]; refine Sep.ldL hs 1 rfl rfl ?_; refine Sep.ldL hs 0 rfl rfl ?_; rw [mRet_ap])
  rw [n5, m5, e]
  (simp only [mIf_false]; refine Sep.ldL hs 1 rfl rfl ?_)
  exact Same4 hc hc' (by have := hl.2.2.2.2.1; omega) hl.2.2.2.2.2 ts.length 0 h (Nat.zero_add _) hs.swap
end
end Go.Proofs.Ytimpaammdmeocaa
