/- Rings: what each call answers, over what is owned. Conditions: none. -/
import Derived.Test.YtjifoicncenfpaaMbxM
import Derived.Test.YtjifoicncenfpaaSbW
namespace Go.Proofs.Ytjifoicncenfpaa
open Go Go.Sb
set_option linter.unusedSimpArgs false
set_option linter.unusedVariables false

/-- a row that goes round in its cells, from one of them on -/
structure RRep {X : Type} (cells : List X) (fr : Nat) (q : List X) : Prop where
  len : q.length ≤ cells.length
  lo : 0 < cells.length → fr < cells.length
  z : cells.length = 0 → fr = 0
  at_ : ∀ k x, q[k]? = some x → cells[(fr + k) % cells.length]? = some x
theorem RRep.nil {X : Type} (cells : List X) : RRep cells 0 [] := ⟨by simp, id, fun _ => rfl, by simp⟩
theorem mod_ne {N f j k : Nat} (hk : k < N) (hj : j < N) (hne : j ≠ k) : (f + j) % N ≠ (f + k) % N := by
  intro he
  have h1 := Nat.div_add_mod (f + j) N
  have h2 := Nat.div_add_mod (f + k) N
  rw [he] at h1
  rcases Nat.lt_trichotomy ((f + j) / N) ((f + k) / N) with h | h | h
  · have : N * ((f + j) / N + 1) ≤ N * ((f + k) / N) := Nat.mul_le_mul_left _ h
    rw [Nat.mul_add] at this; omega
  · rw [h] at h1; omega
  · have : N * ((f + k) / N + 1) ≤ N * ((f + j) / N) := Nat.mul_le_mul_left _ h
    rw [Nat.mul_add] at this; omega
theorem RRep.put {X : Type} {cells : List X} {fr : Nat} {q : List X} (hr : RRep cells fr q) (hlt : q.length < cells.length) (x : X) : RRep (cells.set ((fr + q.length) % cells.length) x) fr (q ++ [x]) := by
  have hN : 0 < cells.length := by omega
  refine ⟨by simp; omega, by simpa using hr.lo, by simpa using hr.z, fun k y hk => ?_⟩
  rw [List.length_set]
  by_cases e : k = q.length
  · subst e
    simp only [List.getElem?_concat_length, Option.some.injEq] at hk
    subst hk
    rw [List.getElem?_set_self (Nat.mod_lt _ hN)]
  · have hk1 := (List.getElem?_eq_some_iff.1 hk).1
    simp only [List.length_append, List.length_cons, List.length_nil] at hk1
    rw [List.getElem?_append_left (by omega)] at hk
    rw [List.getElem?_set_ne (mod_ne (by omega) (by omega) (by omega))]
    exact hr.at_ k y hk
theorem RRep.take {X : Type} {cells : List X} {fr : Nat} {x : X} {q : List X} (hr : RRep cells fr (x :: q)) (z : X) : RRep (cells.set fr z) ((fr + 1) % cells.length) q := by
  have hl := hr.len
  simp only [List.length_cons] at hl
  have hN : 0 < cells.length := by omega
  have hf := hr.lo hN
  refine ⟨by simp; omega, by rw [List.length_set]; intro _; exact Nat.mod_lt _ hN, by rw [List.length_set]; omega, fun k y hk => ?_⟩
  rw [List.length_set, Nat.mod_add_mod, Nat.add_assoc, Nat.add_comm 1 k]
  have h1 := hr.at_ (k + 1) y (by simpa using hk)
  have hk1 := (List.getElem?_eq_some_iff.1 hk).1
  have hne := mod_ne (N := cells.length) (f := fr) (j := 0) (k := k + 1) (by omega) hN (by omega)
  rw [Nat.add_zero, Nat.mod_eq_of_lt hf] at hne
  rw [List.getElem?_set_ne hne]
  exact h1
theorem RRep.first {X : Type} {cells : List X} {fr : Nat} {x : X} {q : List X} (hr : RRep cells fr (x :: q)) : cells[fr]? = some x := by
  have hl := hr.len
  simp only [List.length_cons] at hl
  have := hr.at_ 0 x rfl
  rwa [Nat.add_zero, Nat.mod_eq_of_lt (hr.lo (by omega))] at this
/-- the ring behind block b, with room for so many, of row q -/
def aRing {X : Type} (enc : X → List Value) (b room : Nat) (q : List X) : As := aEx fun t : Sl × List X × Nat =>
  aStar (aPure (t.2.1.length = room ∧ room ≤ 4096 ∧ RRep t.2.1 t.2.2 q)) (aStar (aBlk b [.slice t.1.p t.1.n t.1.c, .int .i64 (t.2.2 : Int), .int .i64 (q.length : Int)]) (aRow enc 1 t.1 t.2.1))
theorem aRing_iff {X : Type} {enc : X → List Value} {h0 h : Hp} {R : List As} {b room : Nat} {q : List X} : Sep h0 h (aRing enc b room q :: R) ↔
    ∃ (s : Sl) (cells : List X) (fr : Nat), (cells.length = room ∧ room ≤ 4096 ∧ RRep cells fr q) ∧ Sep h0 h (aBlk b [.slice s.p s.n s.c, .int .i64 (fr : Int), .int .i64 (q.length : Int)] :: aRow enc 1 s cells :: R) := by
  unfold aRing
  rw [Sep.ex]
  constructor
  · rintro ⟨⟨s, cells, fr⟩, hs⟩
    rw [Sep.star, Sep.pure, Sep.star] at hs
    exact ⟨s, cells, fr, hs⟩
  · rintro ⟨s, cells, fr, hs⟩
    refine ⟨⟨s, cells, fr⟩, ?_⟩
    rw [Sep.star, Sep.pure, Sep.star]
    exact hs
def ringBad (n : Int) : Bool := (decide (n < (0 : Int))) || (decide (n > (4096 : Int)))

abbrev encInt (x : Int) : List Value := [.int .i64 x]
def intF : List Int → Value
  | [] => .tuple #[.int .i64 0, .bool false]
  | x :: _ => .tuple #[.int .i64 x, .bool true]
def intTk : List Int → Value
  | [] => .tuple #[.int .i64 0, .int .i64 8]
  | x :: _ => .tuple #[.int .i64 x, .int .i64 0]
section
variable {h0 h : Hp} {R : List As} {b room : Nat} {q : List Int}
theorem int_at {s : Sl} {cells : List Int} {fr n i : Nat} (hs : Sep h0 h (aBlk b [.slice s.p s.n s.c, .int .i64 (fr : Int), .int .i64 (n : Int)] :: aRow encInt 1 s cells :: R)) (hN : 0 < cells.length) (hf : fr < cells.length) (hl : cells.length ≤ 4096) (hi : i ≤ 4096) :
    N_ring_Ring_int_at (some ⟨b, 0, none⟩) (i : Int) h (fun v h' => h' = h ∧ ∃ a, v = .pointer (some a) ∧ At s a ((fr + i) % cells.length) 1) := by
  have hln := hs.rowLen 1 rfl
  apply S_ring_Ring_int_at
  unfold B_ring_Ring_int_at
  simp only [mNil_some, add_mk, Nat.zero_add]
  refine Sep.ldL hs 0 rfl rfl ?_; refine Sep.ldI hs 0 rfl rfl ?_; refine Sep.ldL hs 0 rfl rfl ?_
  refine ⟨by omega, ?_⟩
  rw [wrap64 _ (by omega), Int.tmod_eq_emod_of_nonneg (by omega), hln, show (fr : Int) + (i : Int) = ((fr + i : Nat) : Int) by omega, ← Int.natCast_emod]
  have := Nat.mod_lt (fr + i) hN
  refine hs.idx 1 rfl (by omega) (by omega) fun a ha => ?_
  rw [Int.toNat_natCast] at ha
  exact ⟨rfl, a, rfl, ha⟩
theorem int_Len (hs : Sep h0 h (aRing encInt b room q :: R)) : N_ring_Ring_int_Len (some ⟨b, 0, none⟩) h (fun v h' => v = .int .i64 (q.length : Int) ∧ h' = h) := by
  obtain ⟨s, cells, fr, hp, hs⟩ := aRing_iff.1 hs
  apply S_ring_Ring_int_Len
  unfold B_ring_Ring_int_Len
  simp only [Option.isNone_some, mIf_false, mNil_some, add_mk, Nat.zero_add]
  refine Sep.ldI hs 0 rfl rfl ?_
  exact ⟨rfl, rfl⟩
theorem int_Len_nil (h : Hp) : N_ring_Ring_int_Len none h (fun v h' => v = .int .i64 0 ∧ h' = h) := by
  apply S_ring_Ring_int_Len
  unfold B_ring_Ring_int_Len
  simp
theorem int_Put (hs : Sep h0 h (aRing encInt b room q :: R)) (x : Int) : N_ring_Ring_int_Put (some ⟨b, 0, none⟩) x h (fun v h' => v = .int .i64 (if q.length = room then 7 else 0) ∧ Sep h0 h' (aRing encInt b room (if q.length = room then q else q ++ [x]) :: R)) := by
  obtain ⟨s, cells, fr, ⟨hp, hm, hr⟩, hs⟩ := aRing_iff.1 hs
  have hln := hs.rowLen 1 rfl
  have hql := hr.len
  apply S_ring_Ring_int_Put
  unfold B_ring_Ring_int_Put
  simp only [Option.isNone_some, mIf_false, mNil_some, add_mk, Nat.zero_add]
  refine Sep.ldI hs 0 rfl rfl ?_; refine Sep.ldL hs 0 rfl rfl ?_
  refine mIf_intro (fun hc => ?_) (fun hc => ?_)
  · have hc : (q.length : Int) = s.n := by simpa using hc
    rw [if_pos (by omega), if_pos (by omega)]
    exact ⟨rfl, aRing_iff.2 ⟨s, cells, fr, ⟨hp, hm, hr⟩, hs⟩⟩
  · have hc : ¬ (q.length : Int) = s.n := by simpa using hc
    rw [if_neg (by omega), if_neg (by omega)]
    have hlt : q.length < cells.length := by omega
    refine Sep.ldI hs 0 rfl rfl ?_
    rw [mBind_ap]
    refine (int_at hs (by omega) (hr.lo (by omega)) (by omega) (by omega)).mono ?_
    rintro v h' ⟨rfl, a, rfl, ha⟩
    simp only [unP_pointer, mNil_some]
    have hmod := Nat.mod_lt (fr + q.length) (by omega : 0 < cells.length)
    refine hs.rst0 1 x rfl (fun _ => rfl) ha (List.getElem?_eq_getElem hmod) (by omega) rfl rfl fun h hs => ?_
    simp only [List.set_cons_zero, List.set_cons_succ] at hs
    refine Sep.ldI hs 0 rfl rfl ?_; (refine Sep.st hs 0 rfl rfl rfl fun h hs => ?_; simp only [List.set_cons_zero, List.set_cons_succ] at hs)
    rw [wrap64 _ (by omega), show (q.length : Int) + 1 = ((q ++ [x]).length : Int) by simp] at hs
    exact ⟨rfl, aRing_iff.2 ⟨s, _, fr, ⟨by rw [List.length_set]; exact hp, hm, hr.put hlt x⟩, hs⟩⟩
theorem int_Put_nil (h : Hp) (x : Int) : N_ring_Ring_int_Put none x h (fun v h' => v = .int .i64 1 ∧ h' = h) := by
  apply S_ring_Ring_int_Put
  unfold B_ring_Ring_int_Put
  simp
theorem int_First (hs : Sep h0 h (aRing encInt b room q :: R)) : N_ring_Ring_int_First (some ⟨b, 0, none⟩) h (fun v h' => v = intF q ∧ h' = h) := by
  apply S_ring_Ring_int_First
  unfold B_ring_Ring_int_First
  rw [mBind_ap]
  refine (int_Len hs).mono ?_
  rintro v h' ⟨rfl, rfl⟩
  simp only [unI_int]
  cases q with
  | nil => exact mIf_pos rfl ⟨rfl, rfl⟩
  | cons x q =>
    obtain ⟨s, cells, fr, ⟨hp, hm, hr⟩, hs⟩ := aRing_iff.1 hs
    have hql := hr.len
    simp only [List.length_cons] at hql
    refine mIf_neg (by simp; omega) ?_
    rw [mBind_ap]
    refine (int_at (i := 0) hs (by omega) (hr.lo (by omega)) (by omega) (by omega)).mono ?_
    rintro v h' ⟨rfl, a, rfl, ha⟩
    simp only [unP_pointer, mNil_some]
    rw [Nat.add_zero, Nat.mod_eq_of_lt (hr.lo (by omega))] at ha
    exact hs.rldI0 1 rfl (fun _ => rfl) ha hr.first rfl ⟨rfl, rfl⟩
theorem int_First_nil (h : Hp) : N_ring_Ring_int_First none h (fun v h' => v = .tuple #[.int .i64 0, .bool false] ∧ h' = h) := by
  apply S_ring_Ring_int_First
  unfold B_ring_Ring_int_First
  rw [mBind_ap]
  refine (int_Len_nil h).mono ?_
  rintro v h' ⟨rfl, rfl⟩
  simp only [unI_int]
  exact mIf_pos rfl ⟨rfl, rfl⟩
theorem int_Take (hs : Sep h0 h (aRing encInt b room q :: R)) : N_ring_Ring_int_Take (some ⟨b, 0, none⟩) h (fun v h' => v = intTk q ∧ Sep h0 h' (aRing encInt b room q.tail :: R)) := by
  apply S_ring_Ring_int_Take
  unfold B_ring_Ring_int_Take
  rw [mBind_ap]
  refine (int_First hs).mono ?_
  rintro v h' ⟨rfl, rfl⟩
  cases q with
  | nil =>
    simp only [intF, un2_tuple, unI_int, unB_bool, Bool.not_false, mIf_true]
    exact ⟨rfl, hs⟩
  | cons x q =>
    simp only [intF, un2_tuple, unI_int, unB_bool, Bool.not_true, mIf_false, mBind_ap]
    obtain ⟨s, cells, fr, ⟨hp, hm, hr⟩, hs⟩ := aRing_iff.1 hs
    have hln := hs.rowLen 1 rfl
    have hql := hr.len
    simp only [List.length_cons] at hql
    have hlo := hr.lo (by omega)
    refine (int_at (i := 0) hs (by omega) hlo (by omega) (by omega)).mono ?_
    rintro v h' ⟨rfl, a, rfl, ha⟩
    simp only [unP_pointer, mNil_some, add_mk, Nat.zero_add]
    rw [Nat.add_zero, Nat.mod_eq_of_lt hlo] at ha
    refine hs.rst0 1 0 rfl (fun _ => rfl) ha hr.first (by omega) rfl rfl fun h hs => ?_
    simp only [List.set_cons_zero, List.set_cons_succ] at hs
    refine Sep.ldI hs 0 rfl rfl ?_; refine Sep.ldL hs 0 rfl rfl ?_
    refine ⟨by omega, ?_⟩
    (refine Sep.st hs 0 rfl rfl rfl fun h hs => ?_; simp only [List.set_cons_zero, List.set_cons_succ] at hs); refine Sep.ldI hs 0 rfl rfl ?_; (refine Sep.st hs 0 rfl rfl rfl fun h hs => ?_; simp only [List.set_cons_zero, List.set_cons_succ] at hs)
    have e1 : Int.tmod (IntKind.i64.wrap ((fr : Int) + 1)) (s.n : Int) = (((fr + 1) % cells.length : Nat) : Int) := by
      rw [wrap64 _ (by omega), Int.tmod_eq_emod_of_nonneg (by omega), hln, show (fr : Int) + 1 = ((fr + 1 : Nat) : Int) by omega, ← Int.natCast_emod]
    have e2 : IntKind.i64.wrap (((x :: q).length : Int) - 1) = (q.length : Int) := by
      rw [List.length_cons, wrap64 _ (by omega)]; omega
    rw [e1, e2] at hs
    exact ⟨rfl, aRing_iff.2 ⟨s, _, _, ⟨by rw [List.length_set]; exact hp, hm, hr.take 0⟩, hs⟩⟩
theorem int_Take_nil (h : Hp) : N_ring_Ring_int_Take none h (fun v h' => v = .tuple #[.int .i64 0, .int .i64 8] ∧ h' = h) := by
  apply S_ring_Ring_int_Take
  unfold B_ring_Ring_int_Take
  rw [mBind_ap]
  refine (int_First_nil h).mono ?_
  rintro v h' ⟨rfl, rfl⟩
  simp only [un2_tuple, unI_int, unB_bool, Bool.not_false, mIf_true]
  exact ⟨rfl, rfl⟩
theorem int_New (hs : Sep h0 h R) (n : Int) (hb : ringBad n = false) : N_ring_New_int n h (fun v h' => ∃ b, v = .pointer (some ⟨b, 0, none⟩) ∧ Sep h0 h' (aRing encInt b n.toNat [] :: R)) := by
  apply S_ring_New_int
  unfold B_ring_New_int
  refine mIf_neg hb ?_
  unfold ringBad at hb
  simp at hb
  refine hs.make encInt 1 0 rfl (by omega) (by omega) (by omega) fun s h hn hs => ?_
  (refine Sep.new hs fun nb h hs => ?_; try simp only [List.toList_toArray] at hs)
  exact ⟨nb, rfl, aRing_iff.2 ⟨s, _, 0, ⟨by simp, by omega, .nil _⟩, hs⟩⟩
theorem int_New_bad (h : Hp) (n : Int) (hb : ringBad n = true) : N_ring_New_int n h (fun v h' => v = .pointer none ∧ h' = h) := by
  apply S_ring_New_int
  unfold B_ring_New_int
  exact mIf_pos hb ⟨rfl, rfl⟩
end
end Go.Proofs.Ytjifoicncenfpaa
