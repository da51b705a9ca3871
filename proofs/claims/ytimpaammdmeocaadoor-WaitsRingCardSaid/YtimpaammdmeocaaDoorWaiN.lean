/- Who waits for whom: the plain graph's ring, and the law WaitsRing. Conditions: none. -/
import Derived.Test.YtimpaammdmeocaaDoorWaiV
import Derived.Test.YtimpaammdmeocaaDoorSbW
namespace Go.Proofs.YtimpaammdmeocaaDoor
open Go Go.Sb
set_option linter.unusedSimpArgs false
set_option linter.unusedVariables false
section plain
variable {rows : List Nat}
theorem may_bit {to i : Nat} (ht : to < 64) : (mayN to).testBit i = (decide (i < 64) && decide (to ≤ i)) := by
  unfold mayN
  have h2 : 2 ^ to < 2 ^ 64 := pow_lt ht
  have h1 := Nat.two_pow_pos to
  rw [show 2 ^ 64 - 2 ^ to = 2 ^ 64 - (2 ^ to - 1 + 1) by omega, Nat.testBit_two_pow_sub_succ (by omega), Nat.testBit_two_pow_sub_one]
  by_cases h : i < to
  · simp [h]
  · simp [h]
    omega
theorem back_bit {to n x : Nat} (ht : to < 64) : (backL rows to (n + 1)).testBit x = true ↔ (to ≤ x ∧ x < 64) ∧ rows.getD x 0 &&& backL rows to n ≠ 0 := by
  rw [show backL rows to (n + 1) = nextL rows (backL rows to n) 0 (lsN (mayN to)) from rfl, nextL_bit, mem_lsN, may_bit ht]
  constructor
  · rintro (h | ⟨⟨h, h2⟩, h3⟩)
    · simp at h
    · simp at h2; exact ⟨⟨h2.2, h⟩, h3⟩
  · rintro ⟨⟨h1, h2⟩, h3⟩
    exact .inr ⟨⟨h2, by simp; omega⟩, h3⟩
theorem back_ge {to x : Nat} (ht : to < 64) : ∀ n, (backL rows to n).testBit x = true → to ≤ x
  | 0, h => by
    unfold backL at h
    rw [Nat.testBit_two_pow] at h
    exact Nat.le_of_eq (of_decide_eq_true h)
  | n + 1, h => ((back_bit ht).1 h).1.1
/-- the plain graph's way -/
def pathN (rows : List Nat) (to low : Nat) : Nat → Nat → Option (List Nat)
  | 0, x => if (rows.getD x 0).testBit to then some [x] else none
  | s + 1, x => ((List.range 64).drop low).findSome? fun i => if (rows.getD x 0).testBit i then (pathN rows to low s i).map (x :: ·) else none
def pathT (rows : List Nat) (to low s x k : Nat) : Option (List Nat) := ((List.range 64).drop k).findSome? fun i => if (rows.getD x 0).testBit i then (pathN rows to low s i).map (x :: ·) else none
theorem pathT_end {to low s x : Nat} : pathT rows to low s x 64 = none := by
  unfold pathT
  rw [List.drop_of_length_le (by simp)]; rfl
theorem pathT_next {to low s x k : Nat} (hk : k < 64) : pathT rows to low s x k = ((if (rows.getD x 0).testBit k then (pathN rows to low s k).map (x :: ·) else none).or (pathT rows to low s x (k + 1))) := by
  unfold pathT
  rw [List.drop_eq_getElem_cons (by simpa using hk), List.findSome?_cons, List.getElem_range]
  cases (if (rows.getD x 0).testBit k then (pathN rows to low s k).map (x :: ·) else none) <;> rfl
theorem pathN_len {to low : Nat} : ∀ (s x : Nat) (l : List Nat), pathN rows to low s x = some l → l.length = s + 1
  | 0, x, l, h => by
    unfold pathN at h
    split at h
    · cases h; rfl
    · cases h
  | s + 1, x, l, h => by
    unfold pathN at h
    obtain ⟨i, _, hi⟩ := List.exists_of_findSome?_eq_some h
    split at hi
    · cases hp : pathN rows to low s i with
      | none => rw [hp] at hi; cases hi
      | some q =>
        rw [hp] at hi
        simp only [Option.map_some, Option.some.injEq] at hi
        subst hi
        simp [pathN_len s i q hp]
    · cases hi
theorem findSome_if {X : Type} {p : Nat → Bool} {f : Nat → X} : ∀ l : List Nat, (l.findSome? fun i => if p i then some (f i) else none) = (l.find? p).map f
  | [] => rfl
  | i :: l => by
    rw [List.findSome?_cons, List.find?_cons]
    cases h : p i
    · simp only [Bool.false_eq_true, if_false]
      exact findSome_if l
    · simp
theorem find_ls {w low : Nat} (hge : ∀ i, w.testBit i = true → low ≤ i) : ((List.range 64).drop low).find? (fun i => w.testBit i) = (lsN w).head? := by
  unfold lsN
  rw [List.head?_filter]
  have : (List.range 64).find? (fun i => w.testBit i) = ((List.range 64).take low ++ (List.range 64).drop low).find? (fun i => w.testBit i) := by rw [List.take_append_drop]
  rw [this, List.find?_append]
  have hn : ((List.range 64).take low).find? (fun i => w.testBit i) = none := by
    rw [List.find?_eq_none]
    intro i hi hb
    have h1 := hge i hb
    obtain ⟨j, hj, e⟩ := List.mem_iff_getElem.1 hi
    rw [List.length_take] at hj
    rw [List.getElem_take, List.getElem_range] at e
    omega
  rw [hn]; rfl
theorem pathN_back {a : Nat} (hg : GOk rows) (ha : a < 64) : ∀ (s x : Nat), a ≤ x → x < 64 → pathN rows a a s x = if (backL rows a (s + 1)).testBit x then some (x :: ringL rows a s x) else none
  | 0, x, h1, h2 => by
    unfold pathN ringL
    have : (backL rows a 1).testBit x = (rows.getD x 0).testBit a := by
      rw [Bool.eq_iff_iff, back_bit ha]
      unfold backL
      rw [ne_eq, and_pow]
      simp [h1, h2]
    rw [this]
  | s + 1, x, h1, h2 => by
    unfold pathN
    have e : (fun i => if (rows.getD x 0).testBit i then (pathN rows a a s i).map (x :: ·) else none) = fun i => if a ≤ i ∧ i < 64 then (if (rows.getD x 0 &&& backL rows a (s + 1)).testBit i then some (x :: i :: ringL rows a s i) else none) else (if (rows.getD x 0).testBit i then (pathN rows a a s i).map (x :: ·) else none) := by
      funext i
      split
      · rename_i hb
        split
        · rename_i hc
          rw [pathN_back hg ha s i hc.1 hc.2, Nat.testBit_and, hb, Bool.true_and]
          cases (backL rows a (s + 1)).testBit i <;> simp
        · rfl
      · rename_i hb
        split
        · rw [Nat.testBit_and, Bool.eq_false_iff.2 hb]; rfl
        · rfl
    have e2 : ((List.range 64).drop a).findSome? (fun i => if (rows.getD x 0).testBit i then (pathN rows a a s i).map (x :: ·) else none) = ((List.range 64).drop a).findSome? (fun i => if (rows.getD x 0 &&& backL rows a (s + 1)).testBit i then some (x :: i :: ringL rows a s i) else none) := by
      rw [e]
      have gen : ∀ l : List Nat, (∀ i ∈ l, a ≤ i ∧ i < 64) → (l.findSome? fun i => if a ≤ i ∧ i < 64 then (if (rows.getD x 0 &&& backL rows a (s + 1)).testBit i then some (x :: i :: ringL rows a s i) else none) else (if (rows.getD x 0).testBit i then (pathN rows a a s i).map (x :: ·) else none)) = l.findSome? fun i => if (rows.getD x 0 &&& backL rows a (s + 1)).testBit i then some (x :: i :: ringL rows a s i) else none := by
        intro l
        induction l with
        | nil => intro _; rfl
        | cons i l ih =>
          intro hl
          rw [List.findSome?_cons, List.findSome?_cons, if_pos (hl i (by simp)), ih fun j hj => hl j (by simp [hj])]
      refine gen _ fun i hi => ?_
      obtain ⟨j, hj, e⟩ := List.mem_iff_getElem.1 hi
      rw [List.length_drop, List.length_range] at hj
      rw [List.getElem_drop, List.getElem_range] at e
      omega
    have hbl := backL_lt (rows := rows) ha (s + 1)
    have hw : rows.getD x 0 &&& backL rows a (s + 1) < 2 ^ 64 := Nat.and_lt_two_pow _ hbl
    rw [e2, findSome_if, find_ls (fun i hi => by rw [Nat.testBit_and, Bool.and_eq_true] at hi; exact back_ge ha _ hi.2)]
    by_cases hz : rows.getD x 0 &&& backL rows a (s + 1) = 0
    · have : (backL rows a (s + 1 + 1)).testBit x = false := by
        rw [Bool.eq_false_iff]
        intro h
        exact ((back_bit ha).1 h).2 hz
      rw [hz, lsN_zero, this]; rfl
    · have : (backL rows a (s + 1 + 1)).testBit x = true := (back_bit ha).2 ⟨⟨h1, h2⟩, hz⟩
      rw [ls_cons hz hw, this]; rfl
end plain
end Go.Proofs.YtimpaammdmeocaaDoor
