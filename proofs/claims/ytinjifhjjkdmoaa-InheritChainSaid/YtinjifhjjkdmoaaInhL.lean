/- Priorities that are handed on: the table in memory, and what each call answers. Conditions: none. -/
import Derived.Test.YtinjifhjjkdmoaaInhM
import Derived.Test.YtinjifhjjkdmoaaSbW
import Derived.Test.YtinjifhjjkdmoaaSbX
import Derived.Test.YtinjifhjjkdmoaaSbY
namespace Go.Proofs.Ytinjifhjjkdmoaa
open Go Go.Sb
set_option linter.unusedSimpArgs false
set_option linter.unusedVariables false
abbrev encI : Int → List Value := fun z => [.int .i64 z]
abbrev encP : Int × Int → List Value := fun p => [.int .i64 p.1, .int .i64 p.2]
abbrev encH : Int × Sl → List Value := fun x => [.int .i64 x.1, .slice x.2.p x.2.n x.2.c]
theorem encP_one (x : Int × Int) : ∀ v ∈ encP x, v.oneCell' = true := by
  intro v hv
  simp only [List.mem_cons, List.not_mem_nil, or_false] at hv
  rcases hv with rfl | rfl <;> rfl
theorem encH_one (x : Int × Sl) : ∀ v ∈ encH x, v.oneCell' = true := by
  intro v hv
  simp only [List.mem_cons, List.not_mem_nil, or_false] at hv
  rcases hv with rfl | rfl <;> rfl
def fH (x : Int × Sl) (y : Int × List Int) : As := aStar (aPure (x.1 = y.1)) (aRow encI 1 x.2 y.2)
abbrev tX (tb : Nat) (ps ts : Sl) (ss : List (Int × Sl)) (P : List (Int × Int)) (T : List (Int × List Int)) (R : List As) : List As :=
  aAll (List.zipWith fH ss T) :: aBlk tb [.slice ps.p ps.n ps.c, .slice ts.p ts.n ts.c] :: aRow encP 2 ps P :: aRow encH 2 ts ss :: R
/-- a table: parties, and things -/
def Tab (h0 h : Hp) (tb : Nat) (P : List (Int × Int)) (T : List (Int × List Int)) (R : List As) : Prop := ∃ (ps ts : Sl) (ss : List (Int × Sl)), ss.length = T.length ∧ Sep h0 h (tX tb ps ts ss P T R)
/-- values that may be -/
structure TOkI (P : List (Int × Int)) (T : List (Int × List Int)) : Prop where
  pl : P.length ≤ 64
  tl : T.length ≤ 64
  w : ∀ t ∈ T, ∀ z ∈ t.2, 0 ≤ z ∧ z ≤ 1000
  ql : ∀ t ∈ T, t.2.length ≤ 64
section
variable {h0 h : Hp} {R : List As} {tb : Nat} {P : List (Int × Int)} {T : List (Int × List Int)} {ps ts : Sl} {ss : List (Int × Sl)}
/-- a thing's queue, to read -/
theorem rdQ (hs : Sep h0 h (tX tb ps ts ss P T R)) (hl : ss.length = T.length) {j : Nat} (hj : j < T.length) (hw : ∀ z ∈ T[j].2, -9223372036854775808 ≤ z ∧ z ≤ 9223372036854775807) : (ss[j]'(by omega)).1 = T[j].1 ∧ RdI h.size h .i64 (ss[j]'(by omega)).2 T[j].2 := by
  have h1 := Sep.alls.1 hs
  have hk : (List.zipWith fH ss T ++ (aBlk tb [.slice ps.p ps.n ps.c, .slice ts.p ts.n ts.c] :: aRow encP 2 ps P :: aRow encH 2 ts ss :: R))[j]? = some (fH (ss[j]'(by omega)) T[j]) := by
    rw [List.getElem?_append_left (by simp; omega)]
    simp [List.getElem?_zipWith, hj, show j < ss.length by omega]
  have h2 := h1.at j hk
  unfold fH at h2
  rw [Sep.star, Sep.pure] at h2
  refine ⟨h2.1, h2.2.rowI 0 rfl fun z hz => ?_⟩
  rw [show IntKind.i64.min = -9223372036854775808 by decide, show IntKind.i64.max = 9223372036854775807 by decide]
  exact hw z hz
/-- a thing is opened -/
theorem opQ (hs : Sep h0 h (tX tb ps ts ss P T R)) (hl : ss.length = T.length) {j : Nat} (hj : j < T.length) : (ss[j]'(by omega)).1 = T[j].1 ∧
    Sep h0 h (aRow encI 1 (ss[j]'(by omega)).2 T[j].2 :: aBlk tb [.slice ps.p ps.n ps.c, .slice ts.p ts.n ts.c] :: aRow encP 2 ps P :: aRow encH 2 ts ss :: aAll ((List.zipWith fH ss T).eraseIdx j) :: R) := by
  have h1 := Sep.alls.1 hs
  have hk : (List.zipWith fH ss T ++ (aBlk tb [.slice ps.p ps.n ps.c, .slice ts.p ts.n ts.c] :: aRow encP 2 ps P :: aRow encH 2 ts ss :: R))[j]? = some (fH (ss[j]'(by omega)) T[j]) := by
    rw [List.getElem?_append_left (by simp; omega)]
    simp [List.getElem?_zipWith, hj, show j < ss.length by omega]
  have h2 := h1.at j hk
  rw [List.eraseIdx_append_of_lt_length (by simp; omega)] at h2
  unfold fH at h2
  rw [Sep.star, Sep.pure] at h2
  refine ⟨h2.1, ?_⟩
  have h3 := h2.2
  have h4 : Sep h0 h ((List.zipWith fH ss T).eraseIdx j ++ (aRow encI 1 (ss[j]'(by omega)).2 T[j].2 :: aBlk tb [.slice ps.p ps.n ps.c, .slice ts.p ts.n ts.c] :: aRow encP 2 ps P :: aRow encH 2 ts ss :: R)) := h3.perm List.perm_middle.symm
  have h5 := Sep.alls.2 h4
  exact h5.reT 5 [1, 2, 3, 4, 0] rfl (by simp)
/-- and shut, with what it is now -/
theorem clQ {j : Nat} {x : Int × Sl} {y : Int × List Int} (hl : ss.length = T.length) (hj : j < T.length) (hx : x.1 = y.1)
    (hs : Sep h0 h (aRow encI 1 x.2 y.2 :: aBlk tb [.slice ps.p ps.n ps.c, .slice ts.p ts.n ts.c] :: aRow encP 2 ps P :: aRow encH 2 ts (ss.set j x) :: aAll ((List.zipWith fH ss T).eraseIdx j) :: R)) : Sep h0 h (tX tb ps ts (ss.set j x) P (T.set j y) R) := by
  have h1 : Sep h0 h (fH x y :: aBlk tb [.slice ps.p ps.n ps.c, .slice ts.p ts.n ts.c] :: aRow encP 2 ps P :: aRow encH 2 ts (ss.set j x) :: aAll ((List.zipWith fH ss T).eraseIdx j) :: R) := by
    unfold fH
    rw [Sep.star, Sep.pure]
    exact ⟨hx, hs⟩
  have h2 := h1.reT 5 [4, 0, 1, 2, 3] rfl (by simp)
  have h3 := Sep.alls.1 h2
  refine Sep.alls.2 ?_
  have h4 : Sep h0 h (fH x y :: ((List.zipWith fH ss T).eraseIdx j ++ (aBlk tb [.slice ps.p ps.n ps.c, .slice ts.p ts.n ts.c] :: aRow encP 2 ps P :: aRow encH 2 ts (ss.set j x) :: R))) := h3.perm List.perm_middle
  refine h4.perm ?_
  have e : List.zipWith fH (ss.set j x) (T.set j y) = (List.zipWith fH ss T).set j (fH x y) := by
    apply List.ext_getElem?
    intro i
    rw [List.getElem?_zipWith, List.getElem?_set, List.getElem?_set, List.getElem?_set]
    by_cases hij : j = i
    · subst hij
      simp [hj, hl]
    · simp [hij, List.getElem?_zipWith]
  rw [e, ← List.cons_append]
  exact (set_perm (x := fH x y) j (List.zipWith fH ss T) (by simp; omega)).append_right _
/-! reading -/
theorem is_s {p x : Nat} (hp : p < P.length) (hx : x < T.length) (hl : ss.length = T.length) (hs : Sep h0 h (tX tb ps ts ss P T R)) : N_inherit_Table_is (some ⟨tb, 0, none⟩) (p : Int) (x : Int) h (fun v h' => v = .int .i64 0 ∧ h' = h) := by
  have hpn := hs.rowLen 2 rfl
  have htn := hs.rowLen 3 rfl
  apply S_inherit_Table_is
  unfold B_inherit_Table_is
  refine mIf_neg rfl ?_
  rw [mBind_ap]
  refine mIf_neg (by simp) ?_
  rw [mNil_some]
  refine hs.ldL 1 rfl rfl ?_
  rw [mRet_ap, mBind_ap]
  refine mIf_neg (by simp; omega) ?_
  rw [mNil_some, add_mk]
  refine hs.ldL 1 rfl rfl ?_
  rw [mRet_ap]
  refine mIf_neg (by simp; omega) ?_
  exact ⟨rfl, rfl⟩
/-- who waits for whom, over things -/
inductive Ch (P : List (Int × Int)) (T : List (Int × List Int)) (p : Int) : Int → Bool → Prop
  | out : Ch P T p (-1) false
  | hit (x : Nat) (hx : x < T.length) : T[x].1 = p → Ch P T p x true
  | free (x : Nat) (hx : x < T.length) : T[x].1 ≠ p → T[x].1 = -1 → Ch P T p x false
  | step (x g : Nat) (hx : x < T.length) (hg : g < P.length) (b : Bool) : T[x].1 = (g : Int) → (g : Int) ≠ p → Ch P T p P[g].2 b → Ch P T p x b
theorem chain1 {p x : Int} {b : Bool} (hl : ss.length = T.length) (hs : Sep h0 h (tX tb ps ts ss P T R)) (hf : ∀ j (hj : j < T.length), (ss[j]'(by omega)).1 = T[j].1) (hc : Ch P T p x b) : K_inherit_Table_chain_1 (some ⟨tb, 0, none⟩) x p h (fun v h' => v = .bool b ∧ h' = h) := by
  induction hc with
  | out =>
    apply S_inherit_Table_chain_1
    unfold B_inherit_Table_chain_1
    refine mIf_neg rfl ?_
    exact ⟨rfl, rfl⟩
  | hit x hx h1 =>
    apply S_inherit_Table_chain_1
    unfold B_inherit_Table_chain_1
    refine mIf_pos (by simp) ?_
    rw [mNil_some, add_mk]
    refine hs.ldL 1 rfl rfl ?_
    refine hs.idx 3 rfl (by omega) (by omega) fun a ha => ?_
    simp only [Int.toNat_natCast] at ha
    refine hs.rldI0 3 rfl (fun _ => rfl) ha (List.getElem?_eq_getElem (by omega)) rfl ?_
    rw [hf x hx]
    refine mIf_pos (by simpa using h1) ?_
    exact ⟨rfl, rfl⟩
  | free x hx h1 h2 =>
    apply S_inherit_Table_chain_1
    unfold B_inherit_Table_chain_1
    refine mIf_pos (by simp) ?_
    rw [mNil_some, add_mk]
    refine hs.ldL 1 rfl rfl ?_
    refine hs.idx 3 rfl (by omega) (by omega) fun a ha => ?_
    simp only [Int.toNat_natCast] at ha
    refine hs.rldI0 3 rfl (fun _ => rfl) ha (List.getElem?_eq_getElem (by omega)) rfl ?_
    rw [hf x hx]
    refine mIf_neg (by simpa using h1) ?_
    refine mIf_pos (by simpa using h2) ?_
    exact ⟨rfl, rfl⟩
  | step x g hx hg b h1 h2 _ ih =>
    apply S_inherit_Table_chain_1
    unfold B_inherit_Table_chain_1
    refine mIf_pos (by simp) ?_
    rw [mNil_some, add_mk]
    refine hs.ldL 1 rfl rfl ?_
    refine hs.idx 3 rfl (by omega) (by omega) fun a ha => ?_
    simp only [Int.toNat_natCast] at ha
    refine hs.rldI0 3 rfl (fun _ => rfl) ha (List.getElem?_eq_getElem (by omega)) rfl ?_
    rw [hf x hx, h1]
    refine mIf_neg (by simpa using h2) ?_
    refine mIf_neg (by simp) ?_
    rw [mNil_some]
    refine hs.ldL 1 rfl rfl ?_
    refine hs.idx 2 rfl (by omega) (by omega) fun a2 ha2 => ?_
    simp only [Int.toNat_natCast] at ha2
    refine hs.rldI 2 (j := 1) rfl (fun _ => rfl) ha2 (List.getElem?_eq_getElem hg) rfl ?_
    exact ih
theorem chain_s {p x : Int} {b : Bool} (hl : ss.length = T.length) (hs : Sep h0 h (tX tb ps ts ss P T R)) (hf : ∀ j (hj : j < T.length), (ss[j]'(by omega)).1 = T[j].1) (hc : Ch P T p x b) : N_inherit_Table_chain (some ⟨tb, 0, none⟩) x p h (fun v h' => v = .bool b ∧ h' = h) := by
  apply S_inherit_Table_chain
  unfold B_inherit_Table_chain
  exact chain1 hl hs hf hc
/-! priorities -/
def prF (P : List (Int × Int)) (T : List (Int × List Int)) : Nat → Int → Int
  | 0, _ => 0
  | f + 1, p => T.foldl (fun n t => if t.1 = p then t.2.foldl (fun n w => if prF P T f w > n then prF P T f w else n) n else n) ((P[p.toNat]?.getD (0, 0)).1)
def PrOk (P : List (Int × Int)) (T : List (Int × List Int)) : Nat → Int → Prop
  | 0, _ => False
  | f + 1, p => 0 ≤ p ∧ p < P.length ∧ ∀ t ∈ T, t.1 = p → ∀ w ∈ t.2, PrOk P T f w
def PriC (h0 : Hp) (R : List As) (tb : Nat) (ps ts : Sl) (ss : List (Int × Sl)) (P : List (Int × Int)) (T : List (Int × List Int)) (f : Nat) : Prop :=
  ∀ (h : Hp) (w : Int), PrOk P T f w → Sep h0 h (tX tb ps ts ss P T R) → N_inherit_Table_priority (some ⟨tb, 0, none⟩) w h (fun v h' => v = .int .i64 (prF P T f w) ∧ Sep h0 h' (tX tb ps ts ss P T R))
theorem pri7 {f : Nat} {p : Int} {j : Nat} {n : Int} (hok : TOkI P T) (hl : ss.length = T.length) (hj : j < T.length) (hpr : ∀ w ∈ T[j].2, PrOk P T f w) (ihP : PriC h0 R tb ps ts ss P T f) (Q : Value → Hp → Prop)
    (next : ∀ h, Sep h0 h (tX tb ps ts ss P T R) → K_inherit_Table_priority_3 (some ⟨tb, 0, none⟩) p (T[j].2.foldl (fun n w => if prF P T f w > n then prF P T f w else n) n) ts (ts.n : Int) (IntKind.i64.wrap ((j : Int) + 1)) h Q) :
    ∀ (e k : Nat) (m : Int) (h : Hp), k + e = T[j].2.length → (T[j].2.drop k).foldl (fun n w => if prF P T f w > n then prF P T f w else n) m = T[j].2.foldl (fun n w => if prF P T f w > n then prF P T f w else n) n → Sep h0 h (tX tb ps ts ss P T R) →
      K_inherit_Table_priority_7 (some ⟨tb, 0, none⟩) p m ts (ts.n : Int) (j : Int) (ss[j]'(by omega)).2 ((ss[j]'(by omega)).2.n : Int) (k : Int) h Q
  | 0, k, m, h, hk, hm, hs => by
    have hq := (rdQ hs hl hj (fun z hz => by have := hok.w _ (List.getElem_mem hj) z hz; omega)).2.n
    apply S_inherit_Table_priority_7
    unfold B_inherit_Table_priority_7
    refine mIf_neg (by simp; omega) ?_
    rw [List.drop_of_length_le (by omega)] at hm
    have hm : m = _ := hm
    rw [hm]
    exact next h hs
  | e + 1, k, m, h, hk, hm, hs => by
    have ih := pri7 hok hl hj hpr ihP Q next e (k + 1)
    have hq := (rdQ hs hl hj (fun z hz => by have := hok.w _ (List.getElem_mem hj) z hz; omega)).2
    have hqn := hq.n
    have hql := hok.ql _ (List.getElem_mem hj)
    have hkl : k < T[j].2.length := by omega
    rw [List.drop_eq_getElem_cons hkl, List.foldl_cons] at hm
    apply S_inherit_Table_priority_7
    unfold B_inherit_Table_priority_7
    refine mIf_pos (by simp; omega) ?_
    refine hq.ix hkl ?_
    rw [mBind_ap]
    refine (ihP h T[j].2[k] (hpr _ (List.getElem_mem hkl)) hs).mono ?_
    rintro v h ⟨rfl, hs⟩
    simp only [unI_int]
    rw [wrap64 ((k : Int) + 1) (by omega), show ((k : Int) + 1) = ((k + 1 : Nat) : Int) by omega]
    exact ih _ h (by omega) hm hs
theorem pri3 {f : Nat} {p : Int} {n : Int} (hok : TOkI P T) (hl : ss.length = T.length) (hpr : ∀ t ∈ T, t.1 = p → ∀ w ∈ t.2, PrOk P T f w) (ihP : PriC h0 R tb ps ts ss P T f) :
    ∀ (e j : Nat) (m : Int) (h : Hp), j + e = T.length → (T.drop j).foldl (fun n t => if t.1 = p then t.2.foldl (fun n w => if prF P T f w > n then prF P T f w else n) n else n) m = n → Sep h0 h (tX tb ps ts ss P T R) →
      K_inherit_Table_priority_3 (some ⟨tb, 0, none⟩) p m ts (ts.n : Int) (j : Int) h (fun v h' => v = .int .i64 n ∧ Sep h0 h' (tX tb ps ts ss P T R))
  | 0, j, m, h, hj, hm, hs => by
    have htn := hs.rowLen 3 rfl
    apply S_inherit_Table_priority_3
    unfold B_inherit_Table_priority_3
    refine mIf_neg (by simp; omega) ?_
    rw [List.drop_of_length_le (by omega)] at hm
    have hm : m = n := hm
    exact ⟨by rw [hm], hs⟩
  | e + 1, j, m, h, hj, hm, hs => by
    have ih := pri3 (n := n) hok hl hpr ihP e (j + 1)
    have htn := hs.rowLen 3 rfl
    have hjl : j < T.length := by omega
    have htl := hok.tl
    have hq := rdQ hs hl hjl (fun z hz => by have := hok.w _ (List.getElem_mem hjl) z hz; omega)
    rw [List.drop_eq_getElem_cons hjl, List.foldl_cons] at hm
    have hjw : IntKind.i64.wrap ((j : Int) + 1) = ((j + 1 : Nat) : Int) := by rw [wrap64 _ (by omega)]; omega
    apply S_inherit_Table_priority_3
    unfold B_inherit_Table_priority_3
    refine mIf_pos (by simp; omega) ?_
    refine hs.idx 3 rfl (by omega) (by omega) fun a ha => ?_
    simp only [Int.toNat_natCast] at ha
    refine hs.rldI0 3 rfl (fun _ => rfl) ha (List.getElem?_eq_getElem (by omega)) rfl ?_
    refine hs.rldL 3 (j := 1) rfl (fun _ => rfl) ha (List.getElem?_eq_getElem (by omega)) rfl ?_
    refine Sep.new hs fun nb h hs => ?_
    refine hs.st 0 rfl rfl rfl fun h hs => ?_
    rw [add_mk]
    refine hs.st 0 rfl rfl rfl fun h hs => ?_
    refine hs.ldI 0 rfl rfl ?_
    rw [hq.1]
    have hs' : Sep h0 h (aBlk nb [.int .i64 (ss[j]'(by omega)).1, .slice (ss[j]'(by omega)).2.p (ss[j]'(by omega)).2.n (ss[j]'(by omega)).2.c] :: tX tb ps ts ss P T R) := hs
    refine mIf_intro (fun hc => ?_) (fun hc => ?_)
    · rw [if_neg (by simpa using hc)] at hm
      rw [hjw]
      exact ih m h (by omega) hm hs.drop
    · have hc' : T[j].1 = p := by simpa using hc
      rw [if_pos hc'] at hm
      refine hs'.ldL 0 rfl rfl ?_
      refine pri7 (n := m) hok hl hjl (hpr _ (List.getElem_mem hjl) hc') ihP _ (fun h hs => ?_) T[j].2.length 0 m h (Nat.zero_add _) rfl hs.drop
      rw [hjw]
      exact ih _ h (by omega) hm hs
theorem pri_s (hok : TOkI P T) (hl : ss.length = T.length) : ∀ f, PriC h0 R tb ps ts ss P T f
  | 0 => fun h w hp hs => hp.elim
  | f + 1 => fun h w hp hs => by
    obtain ⟨h1, h2, h3⟩ := hp
    have hpn := hs.rowLen 2 rfl
    apply S_inherit_Table_priority
    unfold B_inherit_Table_priority
    rw [mNil_some]
    refine hs.ldL 1 rfl rfl ?_
    refine hs.idx 2 rfl h1 (by omega) fun a ha => ?_
    refine hs.rldI0 2 rfl (fun _ => rfl) ha (List.getElem?_eq_getElem (by omega)) rfl ?_
    rw [mNil_some, add_mk]
    refine hs.ldL 1 rfl rfl ?_
    refine pri3 hok hl h3 (pri_s hok hl f) T.length 0 _ h (Nat.zero_add _) ?_ hs
    rw [List.drop_zero]
    have e : (P[w.toNat]?.getD (0, 0)).1 = (P[w.toNat]'(by omega)).1 := by rw [List.getElem?_eq_getElem (by omega)]; rfl
    show _ = T.foldl (fun n t => if t.1 = w then t.2.foldl (fun n w => if prF P T f w > n then prF P T f w else n) n else n) ((P[w.toNat]?.getD (0, 0)).1)
    rw [e]
end
end Go.Proofs.Ytinjifhjjkdmoaa
