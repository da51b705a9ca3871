/- The tasks by priority, the greatest first: ref07.Order. Conditions: none. -/
import Derived.Test.YtimpaammdmeocaaRdyS
import Derived.Test.YtimpaammdmeocaaSbW
namespace Go.Proofs.Ytimpaammdmeocaa
open Go Go.Sb
set_option linter.unusedSimpArgs false
set_option linter.unusedVariables false
/-- a task's priority -/
def prA (C : PCfg) (i : Nat) : Int := ((C.tasks[i]?).map (·.pr)).getD 0
/-- the first k tasks, sorted -/
structure OrdOk (C : PCfg) (k : Nat) (l : List Nat) : Prop where
  len : l.length = k
  mem : ∀ i, i ∈ l ↔ i < k
  sorted : l.Pairwise fun i j => prA C i ≥ prA C j
theorem OrdOk.ins {C : PCfg} {k a : Nat} {l : List Nat} (ho : OrdOk C k l) (h1 : ∀ i ∈ l.take a, prA C i ≥ prA C k) (h2 : ∀ j, l[a]? = some j → prA C j < prA C k) : OrdOk C (k + 1) (l.take a ++ k :: l.drop a) := by
  have hrest : ∀ j ∈ l.drop a, prA C k ≥ prA C j := by
    cases hd : l.drop a with
    | nil => intro j hj; cases hj
    | cons x r =>
      have hx : l[a]? = some x := by
        have : (l.drop a)[0]? = some x := by rw [hd]; rfl
        rw [List.getElem?_drop] at this
        simpa using this
      have h3 := h2 x hx
      have hp := ho.sorted.drop (i := a)
      rw [hd] at hp
      intro j hj
      rcases List.mem_cons.1 hj with rfl | hj
      · omega
      · have := List.rel_of_pairwise_cons hp hj
        omega
  have hsp := List.take_append_drop a l
  refine ⟨?_, ?_, ?_⟩
  · have := congrArg List.length hsp
    rw [List.length_append, ho.len] at this
    rw [List.length_append, List.length_cons]
    omega
  · intro i
    have hm := ho.mem i
    rw [← hsp, List.mem_append] at hm
    rw [List.mem_append, List.mem_cons]
    constructor
    · rintro (h | rfl | h)
      · have := hm.1 (.inl h); omega
      · omega
      · have := hm.1 (.inr h); omega
    · intro h
      by_cases e : i = k
      · exact .inr (.inl e)
      · rcases hm.2 (by omega) with h | h
        · exact .inl h
        · exact .inr (.inr h)
  · have hs := ho.sorted
    rw [← hsp] at hs
    obtain ⟨p1, p2, p3⟩ := List.pairwise_append.1 hs
    refine List.pairwise_append.2 ⟨p1, List.pairwise_cons.2 ⟨hrest, p2⟩, fun x hx y hy => ?_⟩
    rcases List.mem_cons.1 hy with rfl | hy
    · exact h1 x hx
    · exact p3 x hx y hy
section
variable {h0 h : Hp} {R : List As} {b : Nat} {C : PCfg} {sm sc se st sl : Sl} {ts : List (PTask × Sl)}
/-- what Order gives -/
abbrev OrdQ (h0 : Hp) (C : PCfg) (R : List As) : Value → Hp → Prop := fun v h' => ∃ (o : Sl) (l : List Nat), v = .slice o.p o.n o.c ∧ OrdOk C C.tasks.length l ∧ Sep h0 h' (aRow encI 1 o (l.map Int.ofNat) :: R)
theorem sep_dropL {L : List As} : ∀ X : List As, Sep h0 h (X ++ L) → Sep h0 h L
  | [], hs => hs
  | _ :: X, hs => sep_dropL X (Sep.drop hs)
theorem one1 (ys : List Int) : ∀ v ∈ ys.flatMap encI, v.oneCell' = true := fun v hv => by
  obtain ⟨z, _, hz⟩ := List.mem_flatMap.1 hv
  simp only [List.mem_singleton] at hz
  subst hz; rfl
theorem ord_pr {k : Nat} (hc : CRd h0 C sm sc se st sl ts) (hk : k < ts.length) : prA C k = (ts[k]).1.pr := by
  unfold prA
  rw [hc.at hk]; rfl
theorem Ord6 (hc : CRd h0 C sm sc se st sl ts) (hfew : ts.length ≤ 20) {c x5 k : Nat} {o : Sl} {l : List Nat} (hk : k < ts.length) (ho : OrdOk C k l) {Q : Value → Hp → Prop} {rest : List Value}
    (next : ∀ (o : Sl) (l : List Nat) (h : Hp), OrdOk C (k + 1) l → Sep h0 h (aRow encI 1 o (l.map Int.ofNat) :: aBlk c (cfgC C sm sc se st sl) :: R) → K_signalboxref07_Order_3 ⟨c, 0, none⟩ o st (ts.length : Int) ((k + 1 : Nat) : Int) h Q) : ∀ (d a : Nat) (h : Hp), a + d = k → (∀ i ∈ l.take a, prA C i ≥ prA C k) →
    Sep h0 h (aBlk x5 (.int .i64 (ts[k]).1.pr :: rest) :: aRow encI 1 o (l.map Int.ofNat) :: aBlk c (cfgC C sm sc se st sl) :: R) →
    K_signalboxref07_Order_6 ⟨c, 0, none⟩ o (k : Int) ⟨x5, 0, none⟩ (a : Int) st (ts.length : Int) (k : Int) h Q := by
  have hlen := ho.len
  have app : ∀ (a : Nat) (h : Hp), a ≤ k → (∀ i ∈ l.take a, prA C i ≥ prA C k) → (∀ j, l[a]? = some j → prA C j < prA C k) → Sep h0 h (aBlk x5 (.int .i64 (ts[k]).1.pr :: rest) :: aRow encI 1 o (l.map Int.ofNat) :: aBlk c (cfgC C sm sc se st sl) :: R) →
      (mSlc o 1 (0 : Int) (a : Int) (o.c : Int) fun (x38 : Sl) =>
    mSlc o 1 (a : Int) (o.n : Int) (o.c : Int) fun (x45 : Sl) =>
    mAnd (
      mNew #[] 3 fun (x35_25 : Addr) =>
      mAnd (
        mApp 3 1 8 #[.int .i64 (0 : Int)] ⟨(some x35_25), 0, 0⟩ x38 fun (x39_30 : Sl) =>
        mNew #[.int .i64 (k : Int)] 3 fun (x41_31 : Addr) =>
        mApp 3 1 8 #[.int .i64 (0 : Int)] x39_30 ⟨(some x41_31), 1, 1⟩ fun (x42_32 : Sl) =>
        mApp 3 1 8 #[.int .i64 (0 : Int)] x42_32 x45 fun (x46_33 : Sl) =>
        K_signalboxref07_Order_3 ⟨c, 0, none⟩ x46_33 st (ts.length : Int) (IntKind.i64.wrap ((k : Int) + (1 : Int)))) (
        mNew #[.int .i64 (k : Int)] 3 fun (x41_26 : Addr) =>
        mApp 3 1 8 #[.int .i64 (0 : Int)] ⟨(some x35_25), 0, 0⟩ x38 fun (x39_27 : Sl) =>
        mApp 3 1 8 #[.int .i64 (0 : Int)] x39_27 ⟨(some x41_26), 1, 1⟩ fun (x42_28 : Sl) =>
        mApp 3 1 8 #[.int .i64 (0 : Int)] x42_28 x45 fun (x46_29 : Sl) =>
        K_signalboxref07_Order_3 ⟨c, 0, none⟩ x46_29 st (ts.length : Int) (IntKind.i64.wrap ((k : Int) + (1 : Int))))) (
      mNew #[.int .i64 (k : Int)] 3 fun (x41 : Addr) =>
      mNew #[] 3 fun (x35 : Addr) =>
      mApp 3 1 8 #[.int .i64 (0 : Int)] ⟨(some x35), 0, 0⟩ x38 fun (x39 : Sl) =>
      mApp 3 1 8 #[.int .i64 (0 : Int)] x39 ⟨(some x41), 1, 1⟩ fun (x42 : Sl) =>
      mApp 3 1 8 #[.int .i64 (0 : Int)] x42 x45 fun (x46 : Sl) =>
      K_signalboxref07_Order_3 ⟨c, 0, none⟩ x46 st (ts.length : Int) (IntKind.i64.wrap ((k : Int) + (1 : Int))))) h Q := by
    intro a h hak h1 h2 hs
    have hon := hs.rowLen 1 rfl
    have hoc := hs.rowCap 1 rfl
    rw [List.length_map] at hon
    refine vslc (by omega) (by omega) (by omega) (by omega) fun x38 hv1 hn1 hc1 => ?_
    refine vslc (by omega) (by omega) (by omega) (by omega) fun x45 hv2 hn2 hc2 => ?_
    simp only [Int.toNat_natCast, Int.toNat_zero] at hv1 hn1 hc1 hv2 hn2 hc2
    have fin : ∀ (x35 x41 : Nat) (h : Hp) (x42 : Sl) (X : List As), (Sep h0 h (aRow encI 1 x42 ((l.take a).map Int.ofNat ++ [(k : Int)]) :: aRow encI 1 o (l.map Int.ofNat) :: aBlk c (cfgC C sm sc se st sl) :: (R ++ X))) → mApp 3 1 8 #[.int .i64 (0 : Int)] x42 x45 (fun (x46 : Sl) => K_signalboxref07_Order_3 ⟨c, 0, none⟩ x46 st (ts.length : Int) (IntKind.i64.wrap ((k : Int) + (1 : Int)))) h Q := by
      intro x35 x41 h x42 X hs
      have hcl := hs.vcells 1 (x := x45) (m := x45.n) rfl (fun _ => rfl) hv2 (Nat.le_refl _) (by rw [List.length_map]; omega)
      refine hs.app_ 0 _ rfl (fun _ => rfl) hcl (by rw [List.length_take, List.length_drop, List.length_map]; omega) (one1 _) rfl (by omega) (by simp only [List.length_append, List.length_map, List.length_take, List.length_drop, List.length_singleton]; omega) fun s' h hn hs => ?_
      simp only [List.set_cons_zero] at hs
      rw [wrapS _ (by omega)]
      refine next s' (l.take a ++ k :: l.drop a) h (ho.ins h1 h2) ?_
      have e : (l.take a).map Int.ofNat ++ [(k : Int)] ++ ((l.map Int.ofNat).drop a).take x45.n = (l.take a ++ k :: l.drop a).map Int.ofNat := by
        rw [List.take_of_length_le (l := (l.map Int.ofNat).drop a) (by rw [List.length_drop, List.length_map]; omega), List.map_append, List.map_cons, List.append_assoc, List.map_drop]
        rfl
      rw [e] at hs
      have hs : Sep h0 h (aRow encI 1 o (l.map Int.ofNat) :: aRow encI 1 s' ((l.take a ++ k :: l.drop a).map Int.ofNat) :: aBlk c (cfgC C sm sc se st sl) :: (R ++ X)) := hs.swap
      have hs := hs.drop
      have hs : Sep h0 h (X ++ (aRow encI 1 s' ((l.take a ++ k :: l.drop a).map Int.ofNat) :: aBlk c (cfgC C sm sc se st sl) :: R)) := hs.perm (by
        have : (aRow encI 1 s' ((l.take a ++ k :: l.drop a).map Int.ofNat) :: aBlk c (cfgC C sm sc se st sl) :: (R ++ X)) = (aRow encI 1 s' ((l.take a ++ k :: l.drop a).map Int.ofNat) :: aBlk c (cfgC C sm sc se st sl) :: R) ++ X := rfl
        rw [this]
        exact List.perm_append_comm)
      exact sep_dropL X hs
    have row0 : ∀ (x35 : Nat) (h : Hp) (L : List As) (i : Nat) (K : Sl → M Value), L[0]? = some (aBlk x35 []) → L[i]? = some (aRow encI 1 o (l.map Int.ofNat)) → 0 < i → Sep h0 h L → (∀ (s : Sl) (h : Hp), Sep h0 h (L.set 0 (aRow encI 1 s ((l.take a).map Int.ofNat))) → K s h Q) → mApp 3 1 8 #[.int .i64 (0 : Int)] ⟨(some ⟨x35, 0, none⟩), 0, 0⟩ x38 K h Q := by
      intro x35 h L i K h0' hi hip hs hK
      have hs1 := Blk.row (enc := encI) (sz := 1) (xs := []) hs 0 h0' rfl (n := 0) rfl
      have hl0 : 0 < L.length := by
        rcases L with _ | ⟨x, L⟩
        · simp at h0'
        · simp
      have hcl := hs.vcells i (x := x38) (m := x38.n) hi (fun _ => rfl) hv1 (Nat.le_refl _) (by rw [List.length_map]; omega)
      refine hs1.app_ 0 _ (List.getElem?_set_self hl0) (fun _ => rfl) hcl (by rw [List.length_take, List.length_drop, List.length_map]; omega) (one1 _) rfl (by omega) (by simp only [List.length_nil, List.length_map, List.length_take, List.length_drop]; omega) fun s' h hn hs => ?_
      rw [List.set_set, List.nil_append, List.drop_zero, show x38.n = a by omega, ← List.map_take] at hs
      exact hK s' h hs
    refine mAnd_intro ?_ ?_
    · refine Sep.new hs fun x35 h hs => ?_
      simp only [List.toList_toArray] at hs
      refine mAnd_intro ?_ ?_
      · refine row0 x35 h _ 2 _ rfl rfl (by omega) hs fun s h hs => ?_
        simp only [List.set_cons_zero] at hs
        refine Sep.new hs fun x41 h hs => ?_
        simp only [List.toList_toArray] at hs
        refine Sep.app1 hs 1 0 (k : Int) rfl rfl (fun _ => rfl) (by simp [Value.oneCell']) rfl (by omega) (by simp only [List.length_map, List.length_take]; omega) fun s' h hn hs => ?_
        simp only [List.set_cons_zero, List.set_cons_succ] at hs
        have hs : Sep h0 h (aRow encI 1 s' ((l.take a).map Int.ofNat ++ [(k : Int)]) :: aRow encI 1 o (l.map Int.ofNat) :: aBlk c (cfgC C sm sc se st sl) :: R) := (hs.drop.reT 4 [1, 0, 2, 3] rfl (by simp)).drop
        exact fin x35 x41 h s' [] (by simpa using hs)
      · refine Sep.new hs fun x41 h hs => ?_
        simp only [List.toList_toArray] at hs
        have hs : Sep h0 h (aBlk x35 [] :: aBlk x41 [.int .i64 (k : Int)] :: aBlk x5 (.int .i64 (ts[k]).1.pr :: rest) :: aRow encI 1 o (l.map Int.ofNat) :: aBlk c (cfgC C sm sc se st sl) :: R) := hs.swap
        refine row0 x35 h _ 3 _ rfl rfl (by omega) hs fun s h hs => ?_
        simp only [List.set_cons_zero] at hs
        refine Sep.app1 hs 0 1 (k : Int) rfl rfl (fun _ => rfl) (by simp [Value.oneCell']) rfl (by omega) (by simp only [List.length_map, List.length_take]; omega) fun s' h hn hs => ?_
        simp only [List.set_cons_zero, List.set_cons_succ] at hs
        have hs : Sep h0 h (aRow encI 1 s' ((l.take a).map Int.ofNat ++ [(k : Int)]) :: aRow encI 1 o (l.map Int.ofNat) :: aBlk c (cfgC C sm sc se st sl) :: R) := (hs.reT 5 [1, 2, 0, 3, 4] rfl (by simp)).drop.drop
        exact fin x35 x41 h s' [] (by simpa using hs)
    · refine Sep.new hs fun x41 h hs => ?_
      simp only [List.toList_toArray] at hs
      refine Sep.new hs fun x35 h hs => ?_
      simp only [List.toList_toArray] at hs
      refine row0 x35 h _ 3 _ rfl rfl (by omega) hs fun s h hs => ?_
      simp only [List.set_cons_zero] at hs
      refine Sep.app1 hs 0 1 (k : Int) rfl rfl (fun _ => rfl) (by simp [Value.oneCell']) rfl (by omega) (by simp only [List.length_map, List.length_take]; omega) fun s' h hn hs => ?_
      simp only [List.set_cons_zero, List.set_cons_succ] at hs
      have hs : Sep h0 h (aRow encI 1 s' ((l.take a).map Int.ofNat ++ [(k : Int)]) :: aRow encI 1 o (l.map Int.ofNat) :: aBlk c (cfgC C sm sc se st sl) :: R) := (hs.reT 5 [1, 2, 0, 3, 4] rfl (by simp)).drop.drop
      exact fin x35 x41 h s' [] (by simpa using hs)
  intro d
  induction d with
  | zero =>
    intro a h had h1 hs
    have hon := hs.rowLen 1 rfl
    rw [List.length_map] at hon
    apply S_signalboxref07_Order_6
    unfold B_signalboxref07_Order_6
    rw [mBind_ap]
    refine mIf_neg (by simp; omega) ?_
    rw [mRet_ap]
    refine mIf_neg rfl ?_
    exact app a h (by omega) h1 (fun j hj => by have := (List.getElem?_eq_some_iff.1 hj).1; omega) hs
  | succ d ih =>
    intro a h had h1 hs
    have hon := hs.rowLen 1 rfl
    rw [List.length_map] at hon
    have hal : a < l.length := by omega
    have hmem := (ho.mem l[a]).1 (List.getElem_mem hal)
    apply S_signalboxref07_Order_6
    unfold B_signalboxref07_Order_6
    rw [mBind_ap]
    refine mIf_pos (by simp; omega) ?_
    simp only [add_mk, Nat.zero_add]
    refine Sep.ldL hs 2 rfl rfl ?_
    refine Sep.idx hs 1 rfl (by omega) (by rw [List.length_map]; omega) fun aa haa => ?_
    rw [Int.toNat_natCast] at haa
    refine hs.ild 1 rfl haa (by rw [List.length_map]; omega) ?_
    rw [List.getElem_map]
    have hrow := hc.rows
    refine hrow.ix hs (j := l[a]) (by omega) fun ax hax => ?_
    refine Arg.ldI0 hax rfl ?_
    refine Sep.ldI hs 0 rfl rfl ?_
    rw [mRet_ap]
    have e1 := ord_pr hc hk
    have e2 := ord_pr hc (show l[a] < ts.length by omega)
    refine mIf_dec (fun hcc => ?_) (fun hcc => ?_)
    · rw [wrapS _ (by omega)]
      refine ih (a + 1) h (by omega) ?_ hs
      intro i hi
      rw [← List.take_append_getElem hal, List.mem_append, List.mem_singleton] at hi
      rcases hi with hi | rfl
      · exact h1 i hi
      · omega
    · refine app a h (by omega) h1 (fun j hj => ?_) hs
      rw [List.getElem?_eq_getElem hal] at hj
      cases hj
      omega
theorem Ord3 (hc : CRd h0 C sm sc se st sl ts) (hfew : ts.length ≤ 20) {c : Nat} : ∀ (d k : Nat) (o : Sl) (l : List Nat) (h : Hp), k + d = ts.length → OrdOk C k l → Sep h0 h (aRow encI 1 o (l.map Int.ofNat) :: aBlk c (cfgC C sm sc se st sl) :: R) →
    K_signalboxref07_Order_3 ⟨c, 0, none⟩ o st (ts.length : Int) (k : Int) h (OrdQ h0 C R)
  | 0, k, o, l, h, hkd, ho, hs => by
    have hln := hc.len.2.2.2.2.2
    apply S_signalboxref07_Order_3
    unfold B_signalboxref07_Order_3
    refine mIf_neg (by simp; omega) ?_
    refine ⟨o, l, rfl, ?_, hs.swap.drop⟩
    rw [← hln, show ts.length = k by omega]
    exact ho
  | d + 1, k, o, l, h, hkd, ho, hs => by
    have ih := Ord3 hc hfew (c := c) d (k + 1)
    have hkl : k < ts.length := by omega
    have hrow := hc.rows
    apply S_signalboxref07_Order_3
    unfold B_signalboxref07_Order_3
    refine mIf_pos (by simp; omega) ?_
    refine hrow.ix hs hkl fun a ha => ?_
    (refine Arg.ldI0 ha rfl ?_; refine Arg.ldI ha rfl ?_; refine Arg.ldI ha rfl ?_; refine Arg.ldI ha rfl ?_; refine Arg.ldI ha rfl ?_; refine Arg.ldI ha rfl ?_; refine Arg.ldL ha rfl ?_; (refine Sep.new hs fun nb h hs => ?_; try simp only [List.toList_toArray] at hs); (refine Sep.st hs 0 rfl rfl rfl fun h hs => ?_; simp only [List.set_cons_zero, List.set_cons_succ] at hs); (refine Sep.st hs 0 rfl rfl rfl fun h hs => ?_; simp only [List.set_cons_zero, List.set_cons_succ] at hs); (refine Sep.st hs 0 rfl rfl rfl fun h hs => ?_; simp only [List.set_cons_zero, List.set_cons_succ] at hs); (refine Sep.st hs 0 rfl rfl rfl fun h hs => ?_; simp only [List.set_cons_zero, List.set_cons_succ] at hs); (refine Sep.st hs 0 rfl rfl rfl fun h hs => ?_; simp only [List.set_cons_zero, List.set_cons_succ] at hs); (refine Sep.st hs 0 rfl rfl rfl fun h hs => ?_; simp only [List.set_cons_zero, List.set_cons_succ] at hs); (refine Sep.st hs 0 rfl rfl rfl fun h hs => ?_; simp only [List.set_cons_zero, List.set_cons_succ] at hs))
    exact Ord6 hc hfew hkl ho (fun o l h ho hs => ih o l h (by omega) ho hs) k 0 h (by omega) (by simp) hs
theorem Order_s (hc : CRd h0 C sm sc se st sl ts) (hfew : ts.length ≤ 20) (hs : Sep h0 h R) : N_signalboxref07_Order C.sets C.ways C.hit C.miss sm C.groups sc se st sl h (OrdQ h0 C R) := by
  apply S_signalboxref07_Order
  unfold B_signalboxref07_Order
  ((refine Sep.new hs fun nb h hs => ?_; try simp only [List.toList_toArray] at hs); refine Sep.ldL hs 0 rfl rfl ?_)
  have hs : Sep h0 h (aBlk nb (cfgC C sm sc se st sl) :: R) := hs
  rw [hc.rows.n]
  exact Ord3 hc hfew ts.length 0 _ [] h (by omega) ⟨rfl, by simp, .nil⟩ (hs.nilRow encI 1)
end
end Go.Proofs.Ytimpaammdmeocaa
