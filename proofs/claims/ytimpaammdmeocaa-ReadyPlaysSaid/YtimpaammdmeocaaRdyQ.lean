/- What is ready: what each call answers, over what is owned. Conditions: none. -/
import Derived.Test.YtimpaammdmeocaaRdyB
import Derived.Test.YtimpaammdmeocaaSbW
namespace Go.Proofs.Ytimpaammdmeocaa
open Go Go.Sb
set_option linter.unusedSimpArgs false
set_option linter.unusedVariables false
/-- a task's queue: its priority, the next number, and what waits -/
structure PQ where
  pr : Int
  nx : Int
  q : List PJob
abbrev encH (x : Int × Int × Nat) : List Value := [.int .i64 x.1, .int .i64 x.2.1, .pointer (some ⟨x.2.2, 0, none⟩)]
def fH (x : Int × Int × Nat) (y : PQ) : As := aStar (aPure (x.1 = y.pr ∧ x.2.1 = y.nx)) (aJobs x.2.2 y.q)
/-- the map tells each priority's queue, the band which queues are not empty -/
structure RInv (ys : List PQ) (f : Int → Option Value) (w : Nat) : Prop where
  wlt : w < 2 ^ 64
  pr : ∀ (i : Nat) (y : PQ), ys[i]? = some y → 0 ≤ y.pr ∧ y.pr < 64 ∧ f y.pr = some (.int .i64 (i : Int))
  jobs : ∀ (i : Nat) (y : PQ), ys[i]? = some y → ∀ x ∈ y.q, x.t = (i : Int)
  bit : ∀ p : Nat, w.testBit p = true ↔ ∃ (i : Nat) (y : PQ), ys[i]? = some y ∧ y.pr = (p : Int) ∧ y.q ≠ []
  few : ys.length ≤ 64
def aReady (b : Nat) (ys : List PQ) : As := aEx fun t : Sl × Nat × (Int → Option Value) × Nat × Nat × Nat =>
  aStar (aPure (RInv ys t.2.2.1 t.2.2.2.2.2)) (aStar (aBlk b [.slice t.1.p t.1.n t.1.c, .map (some t.2.1), .pointer (some ⟨t.2.2.2.2.1, 0, none⟩)])
    (aStar (aMap t.2.1 .i64 t.2.2.1 t.2.2.2.1) (aStar (aBlk t.2.2.2.2.1 (bnd t.2.2.2.2.2)) (aHR encH 3 fH t.1 ys))))
/-- the greatest that waits -/
structure IsTop (ys : List PQ) (i : Nat) (y : PQ) : Prop where
  at_ : ys[i]? = some y
  ne : y.q ≠ []
  top : ∀ (j : Nat) (z : PQ), ys[j]? = some z → z.q ≠ [] → z.pr ≤ y.pr
theorem RInv.inj {ys : List PQ} {f : Int → Option Value} {w : Nat} (hr : RInv ys f w) {i j : Nat} {y z : PQ} (hi : ys[i]? = some y) (hj : ys[j]? = some z) (he : y.pr = z.pr) : i = j := by
  have h1 := (hr.pr i y hi).2.2
  have h2 := (hr.pr j z hj).2.2
  rw [he, h2] at h1
  simp at h1
  omega
theorem RInv.put {ys : List PQ} {f : Int → Option Value} {w : Nat} (hr : RInv ys f w) {i : Nat} {y : PQ} (hi : ys[i]? = some y) (x : PJob) (hx : x.t = (i : Int)) (nx : Int) {p : Nat} (hp : y.pr = (p : Int)) : RInv (ys.set i ⟨y.pr, nx, y.q ++ [x]⟩) f (w ||| 2 ^ p) := by
  have hil := (List.getElem?_eq_some_iff.1 hi).1
  have hpl := hr.pr i y hi
  have hget : ∀ (j : Nat) (z : PQ), (ys.set i ⟨y.pr, nx, y.q ++ [x]⟩)[j]? = some z → (j = i ∧ z = ⟨y.pr, nx, y.q ++ [x]⟩) ∨ (j ≠ i ∧ ys[j]? = some z) := by
    intro j z hj
    rw [List.getElem?_set] at hj
    split at hj
    · rename_i e; subst e
      exact .inl ⟨rfl, by simpa using hj.symm⟩
    · exact .inr ⟨fun e => by subst e; contradiction, hj⟩
  refine ⟨Nat.or_lt_two_pow hr.wlt (Nat.pow_lt_pow_right (by omega) (by omega)), ?_, ?_, ?_, by rw [List.length_set]; exact hr.few⟩
  · intro j z hj
    rcases hget j z hj with ⟨rfl, rfl⟩ | ⟨_, hj⟩
    · exact hpl
    · exact hr.pr j z hj
  · intro j z hj
    rcases hget j z hj with ⟨rfl, rfl⟩ | ⟨_, hj⟩
    · intro x' hx'
      rcases List.mem_append.1 hx' with h | h
      · exact hr.jobs j y hi x' h
      · rw [List.mem_singleton.1 h]; exact hx
    · exact hr.jobs j z hj
  · intro p'
    rw [Nat.testBit_or, Nat.testBit_two_pow, Bool.or_eq_true, hr.bit]
    constructor
    · rintro (⟨j, z, hj, e1, e2⟩ | h)
      · by_cases e : j = i
        · subst e
          rw [hi] at hj; cases hj
          exact ⟨j, _, List.getElem?_set_self hil, e1, by simp⟩
        · exact ⟨j, z, by rw [List.getElem?_set_ne (fun h => e h.symm)]; exact hj, e1, e2⟩
      · have e : p = p' := by simpa using h
        subst e
        exact ⟨i, _, List.getElem?_set_self hil, hp, by simp⟩
    · rintro ⟨j, z, hj, e1, e2⟩
      rcases hget j z hj with ⟨rfl, rfl⟩ | ⟨_, hj⟩
      · right
        simp only at e1
        simp; omega
      · exact .inl ⟨j, z, hj, e1, e2⟩
theorem RInv.num {ys : List PQ} {f : Int → Option Value} {w : Nat} (hr : RInv ys f w) {i : Nat} {y : PQ} (hi : ys[i]? = some y) (nx : Int) : RInv (ys.set i ⟨y.pr, nx, y.q⟩) f w := by
  have hil := (List.getElem?_eq_some_iff.1 hi).1
  have hget : ∀ (j : Nat) (z : PQ), (ys.set i ⟨y.pr, nx, y.q⟩)[j]? = some z → ∃ z', ys[j]? = some z' ∧ z.pr = z'.pr ∧ z.q = z'.q := by
    intro j z hj
    rw [List.getElem?_set] at hj
    split at hj
    · rename_i e; subst e
      cases hj
      exact ⟨y, hi, rfl, rfl⟩
    · exact ⟨z, hj, rfl, rfl⟩
  refine ⟨hr.wlt, ?_, ?_, ?_, by rw [List.length_set]; exact hr.few⟩
  · intro j z hj
    obtain ⟨z', h1, h2, h3⟩ := hget j z hj
    rw [h2]; exact hr.pr j z' h1
  · intro j z hj
    obtain ⟨z', h1, h2, h3⟩ := hget j z hj
    rw [h3]; exact hr.jobs j z' h1
  · intro p
    rw [hr.bit]
    constructor
    · rintro ⟨j, z, hj, e1, e2⟩
      by_cases e : j = i
      · subst e
        rw [hi] at hj; cases hj
        exact ⟨j, _, List.getElem?_set_self hil, e1, e2⟩
      · exact ⟨j, z, by rw [List.getElem?_set_ne (fun h => e h.symm)]; exact hj, e1, e2⟩
    · rintro ⟨j, z, hj, e1, e2⟩
      obtain ⟨z', h1, h2, h3⟩ := hget j z hj
      exact ⟨j, z', h1, by rw [← h2]; exact e1, by rw [← h3]; exact e2⟩
theorem RInv.take {ys : List PQ} {f : Int → Option Value} {w : Nat} (hr : RInv ys f w) {i : Nat} {y : PQ} (hi : ys[i]? = some y) {x : PJob} {q : List PJob} (hq : y.q = x :: q) {p : Nat} (hp : y.pr = (p : Int)) : RInv (ys.set i ⟨y.pr, y.nx, q⟩) f (if q.length = 0 then offN w (2 ^ p) else w) := by
  have hil := (List.getElem?_eq_some_iff.1 hi).1
  have hpl := hr.pr i y hi
  have hget : ∀ (j : Nat) (z : PQ), (ys.set i ⟨y.pr, y.nx, q⟩)[j]? = some z → (j = i ∧ z = ⟨y.pr, y.nx, q⟩) ∨ (j ≠ i ∧ ys[j]? = some z) := by
    intro j z hj
    rw [List.getElem?_set] at hj
    split at hj
    · rename_i e; subst e
      exact .inl ⟨rfl, by simpa using hj.symm⟩
    · exact .inr ⟨fun e => by subst e; contradiction, hj⟩
  refine ⟨?_, ?_, ?_, ?_, by rw [List.length_set]; exact hr.few⟩
  · split
    · exact offN_lt
    · exact hr.wlt
  · intro j z hj
    rcases hget j z hj with ⟨rfl, rfl⟩ | ⟨_, hj⟩
    · exact hpl
    · exact hr.pr j z hj
  · intro j z hj
    rcases hget j z hj with ⟨rfl, rfl⟩ | ⟨_, hj⟩
    · intro x' hx'
      exact hr.jobs j y hi x' (by rw [hq]; exact List.mem_cons_of_mem _ hx')
    · exact hr.jobs j z hj
  · intro p'
    constructor
    · intro h
      have h' : w.testBit p' = true ∧ (q.length = 0 → p' ≠ p) := by
        split at h
        · rw [testBit_off (by omega)] at h
          simp only [Bool.and_eq_true, decide_eq_true_eq] at h
          exact ⟨h.1.1, fun _ => h.1.2⟩
        · exact ⟨h, fun e => by contradiction⟩
      obtain ⟨j, z, hj, e1, e2⟩ := (hr.bit p').1 h'.1
      by_cases e : j = i
      · subst e
        rw [hi] at hj; cases hj
        refine ⟨j, _, List.getElem?_set_self hil, e1, fun hz => ?_⟩
        simp only at hz
        exact h'.2 (by rw [hz]; rfl) (by omega)
      · exact ⟨j, z, by rw [List.getElem?_set_ne (fun h => e h.symm)]; exact hj, e1, e2⟩
    · rintro ⟨j, z, hj, e1, e2⟩
      rcases hget j z hj with ⟨rfl, rfl⟩ | ⟨hne, hj⟩
      · simp only at e1 e2
        rw [if_neg (by intro e; exact e2 (List.length_eq_zero_iff.1 e))]
        exact (hr.bit p').2 ⟨j, y, hi, e1, by rw [hq]; simp⟩
      · have h1 := (hr.bit p').2 ⟨j, z, hj, e1, e2⟩
        have h2 := hr.pr j z hj
        split
        · rw [testBit_off (by omega), h1]
          have : p' ≠ p := fun e => hne (hr.inj hj hi (by omega))
          simp [this]; omega
        · exact h1
section
variable {h0 h : Hp} {R : List As} {b : Nat} {ys : List PQ}
theorem fH_iff {x : Int × Int × Nat} {y : PQ} : Sep h0 h (fH x y :: R) ↔ (x.1 = y.pr ∧ x.2.1 = y.nx) ∧ Sep h0 h (aJobs x.2.2 y.q :: R) := by
  unfold fH
  rw [Sep.star, Sep.pure]
theorem aReady_iff : Sep h0 h (aReady b ys :: R) ↔ ∃ (s : Sl) (m : Nat) (f : Int → Option Value) (n bb w : Nat), RInv ys f w ∧ Sep h0 h (aBlk b [.slice s.p s.n s.c, .map (some m), .pointer (some ⟨bb, 0, none⟩)] :: aMap m .i64 f n :: aBlk bb (bnd w) :: aHR encH 3 fH s ys :: R) := by
  unfold aReady
  rw [Sep.ex]
  constructor
  · rintro ⟨⟨s, m, f, n, bb, w⟩, hs⟩
    rw [Sep.star, Sep.pure, Sep.star] at hs
    refine ⟨s, m, f, n, bb, w, hs.1, ?_⟩
    have h1 := (hs.2.swap)
    rw [Sep.star] at h1
    have h2 : Sep h0 h (aStar (aBlk bb (bnd w)) (aHR encH 3 fH s ys) :: aBlk b [.slice s.p s.n s.c, .map (some m), .pointer (some ⟨bb, 0, none⟩)] :: aMap m .i64 f n :: R) := h1.reT 3 [1, 2, 0] rfl (by simp)
    rw [Sep.star] at h2
    exact h2.reT 4 [2, 3, 0, 1] rfl (by simp)
  · rintro ⟨s, m, f, n, bb, w, hr, hs⟩
    refine ⟨⟨s, m, f, n, bb, w⟩, ?_⟩
    rw [Sep.star, Sep.pure, Sep.star]
    refine ⟨hr, Sep.swap ?_⟩
    rw [Sep.star]
    have h2 : Sep h0 h (aBlk bb (bnd w) :: aHR encH 3 fH s ys :: aBlk b [.slice s.p s.n s.c, .map (some m), .pointer (some ⟨bb, 0, none⟩)] :: aMap m .i64 f n :: R) := hs.reT 4 [2, 3, 0, 1] rfl (by simp)
    rw [← Sep.star] at h2
    exact h2.reT 3 [2, 0, 1] rfl (by simp)
/-- the parts, with queue i taken out -/
theorem rOpen (hs : Sep h0 h (aReady b ys :: R)) {i : Nat} {y : PQ} (hi : ys[i]? = some y) : ∃ (s : Sl) (m : Nat) (f : Int → Option Value) (n bb w rb : Nat) (ss : List (Int × Int × Nat)), RInv ys f w ∧ ss.length = ys.length ∧ ss[i]? = some (y.pr, y.nx, rb) ∧
    Sep h0 h (aJobs rb y.q :: aRow encH 3 s ss :: aBlk b [.slice s.p s.n s.c, .map (some m), .pointer (some ⟨bb, 0, none⟩)] :: aMap m .i64 f n :: aBlk bb (bnd w) :: aAll ((List.zipWith fH ss ys).eraseIdx i) :: R) := by
  obtain ⟨hil, hie⟩ := List.getElem?_eq_some_iff.1 hi
  obtain ⟨s, m, f, n, bb, w, hr, hs⟩ := aReady_iff.1 hs
  have hs := (hs.reT 4 [3, 0, 1, 2] rfl (by simp) : Sep h0 h (aHR encH 3 fH s ys :: aBlk b [.slice s.p s.n s.c, .map (some m), .pointer (some ⟨bb, 0, none⟩)] :: aMap m .i64 f n :: aBlk bb (bnd w) :: R))
  obtain ⟨ss, hl, hs⟩ := hs.hOpen i hil
  rw [hie] at hs
  obtain ⟨⟨e1, e2⟩, hs⟩ := fH_iff.1 hs
  refine ⟨s, m, f, n, bb, w, (ss[i]'(by omega)).2.2, ss, hr, hl, ?_, hs.reT 6 [0, 1, 3, 4, 5, 2] rfl (by simp)⟩
  rw [List.getElem?_eq_getElem (by omega), ← e1, ← e2]
theorem rClose {s : Sl} {m n bb w rb i : Nat} {f : Int → Option Value} {ss : List (Int × Int × Nat)} {y : PQ} (hl : ss.length = ys.length) (hil : i < ys.length) (hr : RInv (ys.set i y) f w)
    (hs : Sep h0 h (aJobs rb y.q :: aRow encH 3 s (ss.set i (y.pr, y.nx, rb)) :: aBlk b [.slice s.p s.n s.c, .map (some m), .pointer (some ⟨bb, 0, none⟩)] :: aMap m .i64 f n :: aBlk bb (bnd w) :: aAll ((List.zipWith fH ss ys).eraseIdx i) :: R)) : Sep h0 h (aReady b (ys.set i y) :: R) := by
  refine aReady_iff.2 ⟨s, m, f, n, bb, w, hr, ?_⟩
  have h1 : Sep h0 h (aHR encH 3 fH s (ys.set i y) :: aBlk b [.slice s.p s.n s.c, .map (some m), .pointer (some ⟨bb, 0, none⟩)] :: aMap m .i64 f n :: aBlk bb (bnd w) :: R) :=
    Sep.hClose (x := (y.pr, y.nx, rb)) (ss := ss) (fH_iff.2 ⟨⟨rfl, rfl⟩, (hs.reT 6 [0, 1, 5, 2, 3, 4] rfl (by simp) : Sep h0 h (aJobs rb y.q :: aRow encH 3 s (ss.set i (y.pr, y.nx, rb)) :: aAll ((List.zipWith fH ss ys).eraseIdx i) :: aBlk b [.slice s.p s.n s.c, .map (some m), .pointer (some ⟨bb, 0, none⟩)] :: aMap m .i64 f n :: aBlk bb (bnd w) :: R))⟩) hl hil
  exact h1.reT 4 [1, 2, 3, 0] rfl (by simp)
theorem hrow_some {s : Sl} {ss : List (Int × Int × Nat)} {j : Nat} {L : List As} (hs : Sep h0 h L) (k : Nat) (hk : L[k]? = some (aRow encH 3 s ss)) (hj : j < ss.length) : ∃ a, At s a j 3 := by
  have h1 : mIdx (α := Unit) s (j : Int) 3 (fun a _ _ => At s a j 3) h (fun _ _ => True) := hs.idx k hk (by omega) (by omega) fun a ha => by rw [Int.toNat_natCast] at ha; exact ha
  obtain ⟨_, _, a, _, ha⟩ := h1
  exact ⟨_, ha⟩
theorem at_ok {s : Sl} {ss : List (Int × Int × Nat)} {L : List As} {X Y : Value} {i : Nat} (hs : Sep h0 h L) (k1 k2 : Nat) (hk1 : L[k1]? = some (aBlk b [.slice s.p s.n s.c, X, Y])) (hk2 : L[k2]? = some (aRow encH 3 s ss)) (hi : i < ss.length) :
    ∃ a, At s a i 3 ∧ N_ready_Ready_at (some ⟨b, 0, none⟩) (i : Int) h (fun v h' => v = .pointer (some a) ∧ h' = h) := by
  have hln := hs.rowLen k2 hk2
  obtain ⟨a, ha⟩ := hrow_some hs k2 hk2 hi
  refine ⟨a, ha, ?_⟩
  apply S_ready_Ready_at
  unfold B_ready_Ready_at
  rw [mBind_ap]
  refine mIf_neg (by simp) ?_
  simp only [mNil_some]
  refine Sep.ldL hs k1 hk1 rfl ?_
  rw [mRet_ap]
  refine mIf_neg (by simp; omega) ?_
  refine Sep.ldL hs k1 hk1 rfl ?_
  refine hs.idx k2 hk2 (by omega) (by omega) fun a' ha' => ?_
  rw [Int.toNat_natCast] at ha'
  obtain ⟨p, e1, e2⟩ := ha
  obtain ⟨p', e1', e2'⟩ := ha'
  rw [e1] at e1'
  cases e1'
  rw [e2, e2']
  exact ⟨rfl, rfl⟩
theorem at_nil (i : Int) : N_ready_Ready_at none i h (fun v h' => v = .pointer none ∧ h' = h) := by
  apply S_ready_Ready_at
  unfold B_ready_Ready_at
  rw [mBind_ap]
  refine mIf_pos (by simp) ?_
  rw [mRet_ap]
  exact mIf_pos rfl ⟨rfl, rfl⟩
theorem at_no (hs : Sep h0 h (aReady b ys :: R)) {i : Int} (hi : i < 0 ∨ (ys.length : Int) ≤ i) : N_ready_Ready_at (some ⟨b, 0, none⟩) i h (fun v h' => v = .pointer none ∧ h' = h) := by
  obtain ⟨s, m, f, n, bb, w, hr, hs⟩ := aReady_iff.1 hs
  have hl := (hs.reT 4 [3, 0, 1, 2] rfl (by simp) : Sep h0 h (aHR encH 3 fH s ys :: aBlk b [.slice s.p s.n s.c, .map (some m), .pointer (some ⟨bb, 0, none⟩)] :: aMap m .i64 f n :: aBlk bb (bnd w) :: R)).hLen
  apply S_ready_Ready_at
  unfold B_ready_Ready_at
  rw [mBind_ap]
  refine mIf_intro (fun hc => ?_) (fun hc => ?_)
  · rw [mRet_ap]
    exact mIf_pos rfl ⟨rfl, rfl⟩
  · have hc : ¬ i < 0 := by simpa using hc
    (simp only [mNil_some]; refine Sep.ldL hs 0 rfl rfl ?_; rw [mRet_ap]; rw [decide_eq_true (by omega), mIf_true])
    exact ⟨rfl, rfl⟩
def sumQ (ys : List PQ) : Nat := (ys.map fun y => y.q.length).sum
theorem len4 (hs : Sep h0 h (aReady b ys :: R)) (hq : ∀ y ∈ ys, y.q.length ≤ 4) (hf : ys.length ≤ 64) : ∀ (d k : Nat), k + d = ys.length →
    K_ready_Ready_Len_4 (some ⟨b, 0, none⟩) (sumQ (ys.take k) : Int) (ys.length : Int) (k : Int) h (fun v h' => v = .int .i64 (sumQ ys : Int) ∧ h' = h)
  | 0, k, hk => by
    apply S_ready_Ready_Len_4
    unfold B_ready_Ready_Len_4
    refine mIf_neg (by simp; omega) ?_
    rw [List.take_of_length_le (by omega)]
    exact ⟨rfl, rfl⟩
  | d + 1, k, hk => by
    have ih := len4 hs hq hf d (k + 1) (by omega)
    have hkl : k < ys.length := by omega
    apply S_ready_Ready_Len_4
    unfold B_ready_Ready_Len_4
    refine mIf_pos (by simp; omega) ?_
    obtain ⟨s, m, f, n, bb, w, rb, ss, hr, hl, hx, hs1⟩ := rOpen hs (List.getElem?_eq_getElem hkl)
    simp only [mNil_some]
    refine Sep.ldL hs1 2 rfl rfl ?_
    refine Sep.idx hs1 1 rfl (by omega) (by omega) fun a ha => ?_
    rw [Int.toNat_natCast] at ha
    refine hs1.rldP 1 rfl (fun _ => rfl) ha hx rfl ?_
    rw [mBind_ap]
    refine (job_Len hs1).mono ?_
    rintro v h' ⟨rfl, rfl⟩
    simp only [unI_int]
    have e : sumQ (ys.take (k + 1)) = sumQ (ys.take k) + (ys[k]).q.length := by
      unfold sumQ
      rw [← List.take_append_getElem hkl, List.map_append, List.sum_append]
      simp only [List.map_cons, List.map_nil, List.sum_cons, List.sum_nil, Nat.add_zero]
    have bd : ∀ (l : List PQ), (∀ y ∈ l, y.q.length ≤ 4) → sumQ l ≤ 4 * l.length := by
      intro l
      induction l with
      | nil => intro _; simp [sumQ]
      | cons y l ih =>
        intro hl
        have h1 := hl y (by simp)
        have h2 := ih fun z hz => hl z (by simp [hz])
        simp only [sumQ, List.map_cons, List.sum_cons, List.length_cons] at h2 ⊢
        omega
    have h3 := bd (ys.take k) fun y hy => hq y (List.mem_of_mem_take hy)
    have h4 := hq _ (List.getElem_mem hkl)
    rw [List.length_take] at h3
    rw [wrapS _ (by omega), wrap64 _ (by omega), ← Int.natCast_add, ← e]
    exact ih
theorem Len_s (hs : Sep h0 h (aReady b ys :: R)) (hq : ∀ y ∈ ys, y.q.length ≤ 4) : N_ready_Ready_Len (some ⟨b, 0, none⟩) h (fun v h' => v = .int .i64 (sumQ ys : Int) ∧ h' = h) := by
  obtain ⟨s, m, f, n, bb, w, hr, hs1⟩ := aReady_iff.1 hs
  have hl := (hs1.reT 4 [3, 0, 1, 2] rfl (by simp) : Sep h0 h (aHR encH 3 fH s ys :: aBlk b [.slice s.p s.n s.c, .map (some m), .pointer (some ⟨bb, 0, none⟩)] :: aMap m .i64 f n :: aBlk bb (bnd w) :: R)).hLen
  apply S_ready_Ready_Len
  unfold B_ready_Ready_Len
  refine mIf_pos rfl ?_
  simp only [mNil_some]
  refine Sep.ldL hs1 0 rfl rfl ?_
  rw [hl]
  exact len4 hs hq hr.few ys.length 0 (by omega)
theorem Len_nil : N_ready_Ready_Len none h (fun v h' => v = .int .i64 0 ∧ h' = h) := by
  apply S_ready_Ready_Len
  unfold B_ready_Ready_Len
  exact mIf_neg rfl ⟨rfl, rfl⟩
theorem Waiting_s (hs : Sep h0 h (aReady b ys :: R)) {i : Nat} {y : PQ} (hi : ys[i]? = some y) : N_ready_Ready_Waiting (some ⟨b, 0, none⟩) (i : Int) h (fun v h' => ∃ o : Sl, v = .slice o.p o.n o.c ∧ Sep h0 h' (aRow encJ 3 o y.q :: aReady b ys :: R)) := by
  obtain ⟨hil, hie⟩ := List.getElem?_eq_some_iff.1 hi
  obtain ⟨s, m, f, n, bb, w, rb, ss, hr, hl, hx, hs1⟩ := rOpen hs hi
  apply S_ready_Ready_Waiting
  unfold B_ready_Ready_Waiting
  rw [mBind_ap]
  obtain ⟨a, ha, hm⟩ := at_ok (i := i) hs1 2 1 rfl rfl (by omega)
  refine hm.mono ?_
  rintro v h' ⟨rfl, rfl⟩
  simp only [unP_pointer, Option.isNone_some, Bool.not_false, mIf_true, mNil_some]
  refine hs1.rldP 1 rfl (fun _ => rfl) ha hx rfl ?_
  rw [mBind_ap]
  refine (job_All hs1).mono ?_
  rintro v h ⟨o, rfl, hs1⟩
  simp only [unL_slice]
  refine ⟨o, rfl, Sep.swap ?_⟩
  have e : ys.set i y = ys := by rw [← hie]; exact List.set_getElem_self hil
  have e2 : ss.set i (y.pr, y.nx, rb) = ss := by
    obtain ⟨q1, q2⟩ := List.getElem?_eq_some_iff.1 hx
    rw [← q2]; exact List.set_getElem_self q1
  have := rClose (i := i) (y := y) (ss := ss) (rb := rb) (R := aRow encJ 3 o y.q :: R) hl hil (by rw [e]; exact hr) (by rw [e2]; exact hs1.reT 7 [1, 2, 3, 4, 5, 6, 0] rfl (by simp))
  rw [e] at this
  exact this
theorem Waiting_no (hs : Sep h0 h (aReady b ys :: R)) {i : Int} (hi : i < 0 ∨ (ys.length : Int) ≤ i) : N_ready_Ready_Waiting (some ⟨b, 0, none⟩) i h (fun v h' => v = .slice none 0 0 ∧ h' = h) := by
  apply S_ready_Ready_Waiting
  unfold B_ready_Ready_Waiting
  rw [mBind_ap]
  refine (at_no hs hi).mono ?_
  rintro v h' ⟨rfl, rfl⟩
  simp only [unP_pointer]
  exact mIf_neg rfl ⟨rfl, rfl⟩
theorem Waiting_nil (i : Int) : N_ready_Ready_Waiting none i h (fun v h' => v = .slice none 0 0 ∧ h' = h) := by
  apply S_ready_Ready_Waiting
  unfold B_ready_Ready_Waiting
  rw [mBind_ap]
  refine (at_nil i).mono ?_
  rintro v h' ⟨rfl, rfl⟩
  simp only [unP_pointer]
  exact mIf_neg rfl ⟨rfl, rfl⟩
end
end Go.Proofs.Ytimpaammdmeocaa
