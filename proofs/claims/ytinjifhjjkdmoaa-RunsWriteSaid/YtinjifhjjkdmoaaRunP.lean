/- Rows in fewer bytes, as plain lists. Conditions: none. -/
import Derived.Test.YtinjifhjjkdmoaaSbW
namespace Go.Sb
open Go
/-- how many c a row begins with, at most n -/
def eqs (c : Int) : List Int → Nat → Nat
  | [], _ => 0
  | _ :: _, 0 => 0
  | x :: l, n + 1 => if x = c then eqs c l n + 1 else 0
def alike : List Int → Nat
  | [] => 0
  | c :: l => eqs c (c :: l) 130
def lits : List Int → Nat → Nat
  | [], _ => 0
  | _ :: _, 0 => 0
  | x :: l, n + 1 => if alike (x :: l) < 3 then lits l n + 1 else 0
theorem eqs_le (c : Int) : ∀ (l : List Int) (n : Nat), eqs c l n ≤ n ∧ eqs c l n ≤ l.length
  | [], n => by simp [eqs]
  | x :: l, 0 => by simp [eqs]
  | x :: l, n + 1 => by
    have := eqs_le c l n
    unfold eqs
    split
    · simp; omega
    · simp
theorem lits_le : ∀ (l : List Int) (n : Nat), lits l n ≤ n ∧ lits l n ≤ l.length
  | [], n => by simp [lits]
  | x :: l, 0 => by simp [lits]
  | x :: l, n + 1 => by
    have := lits_le l n
    unfold lits
    split
    · simp; omega
    · simp
theorem alike_pos (c : Int) (l : List Int) : 1 ≤ alike (c :: l) := by
  unfold alike eqs
  simp
theorem alike_le (l : List Int) : alike l ≤ 130 ∧ alike l ≤ l.length := by
  cases l with
  | nil => simp [alike]
  | cons c l => exact eqs_le c (c :: l) 130
theorem eqs_take (c : Int) : ∀ (l : List Int) (n : Nat), l.take (eqs c l n) = List.replicate (eqs c l n) c
  | [], n => by simp [eqs]
  | x :: l, 0 => by simp [eqs]
  | x :: l, n + 1 => by
    have := eqs_take c l n
    unfold eqs
    split
    · rename_i h
      rw [List.take_succ_cons, this, List.replicate_succ, h]
    · simp
theorem alike_two {c : Int} {l : List Int} (h : alike (c :: l) = 2) : ∃ l', l = c :: l' ∧ alike l = 1 := by
  cases l with
  | nil => simp [alike, eqs] at h
  | cons y l' =>
    have h1 : alike (c :: y :: l') = 1 + eqs c (y :: l') 129 := by
      show eqs c (c :: y :: l') 130 = _
      rw [show (130 : Nat) = 129 + 1 from rfl, eqs, if_pos rfl, Nat.add_comm]
    rw [h1] at h
    by_cases hy : y = c
    · subst hy
      have h2 : eqs y (y :: l') 129 = eqs y l' 128 + 1 := by
        rw [show (129 : Nat) = 128 + 1 from rfl, eqs, if_pos rfl]
      have h3 : eqs y l' 128 = 0 := by omega
      refine ⟨l', rfl, ?_⟩
      show eqs y (y :: l') 130 = 1
      rw [show (130 : Nat) = 129 + 1 from rfl, eqs, if_pos rfl]
      cases l' with
      | nil => rfl
      | cons z l'' =>
        rw [show (128 : Nat) = 127 + 1 from rfl, eqs] at h3
        split at h3
        · omega
        · rename_i hz
          rw [show (129 : Nat) = 128 + 1 from rfl, eqs, if_neg hz]
    · have : eqs c (y :: l') 129 = 0 := by
        rw [show (129 : Nat) = 128 + 1 from rfl, eqs, if_neg hy]
      omega
/-- the row, written -/
def wr : Nat → List Int → List Int
  | 0, _ => []
  | _ + 1, [] => []
  | f + 1, x :: l => if 3 ≤ alike (x :: l) then (125 + (alike (x :: l) : Int)) :: x :: wr f ((x :: l).drop (alike (x :: l)))
    else ((lits (x :: l) 128 : Int) - 1) :: ((x :: l).take (lits (x :: l) 128) ++ wr f ((x :: l).drop (lits (x :: l) 128)))
theorem lits_pos {x : Int} {l : List Int} (h : alike (x :: l) < 3) : 1 ≤ lits (x :: l) 128 := by
  rw [show (128 : Nat) = 127 + 1 from rfl, lits, if_pos h]; omega
/-- what written bytes tell -/
inductive Parts : List Int → List Int → Prop
  | nil : Parts [] []
  | run (a : Nat) (c : Int) (w x : List Int) : 3 ≤ a → a ≤ 130 → Parts w x → Parts ((125 + (a : Int)) :: c :: w) (List.replicate a c ++ x)
  | lit (l w x : List Int) : 1 ≤ l.length → l.length ≤ 128 → Parts w x → Parts (((l.length : Int) - 1) :: (l ++ w)) (l ++ x)
theorem wr_parts : ∀ (f : Nat) (x : List Int), x.length ≤ f → Parts (wr f x) x
  | 0, x, h => by
    have : x = [] := List.length_eq_zero_iff.1 (by omega)
    subst this; exact .nil
  | f + 1, [], _ => .nil
  | f + 1, x :: l, h => by
    have ha := alike_le (x :: l)
    have hp := alike_pos x l
    unfold wr
    split
    · rename_i h3
      have h1 := wr_parts f ((x :: l).drop (alike (x :: l))) (by rw [List.length_drop]; omega)
      have h2 := Parts.run _ x _ _ h3 ha.1 h1
      have h4 : List.replicate (alike (x :: l)) x = (x :: l).take (alike (x :: l)) := (eqs_take x (x :: l) 130).symm
      rw [h4, List.take_append_drop] at h2
      exact h2
    · rename_i h3
      have hl := lits_le (x :: l) 128
      have hp := lits_pos (x := x) (l := l) (by omega)
      have h1 := wr_parts f ((x :: l).drop (lits (x :: l) 128)) (by rw [List.length_drop]; omega)
      have h2 := Parts.lit ((x :: l).take (lits (x :: l) 128)) _ _ (by rw [List.length_take]; omega) (by rw [List.length_take]; omega) h1
      rw [List.take_append_drop, List.length_take, Nat.min_eq_left hl.2] at h2
      exact h2
/-- what comes ahead of a stretch -/
theorem lits_stop : ∀ (l : List Int) (n : Nat), lits l n < n → lits l n < l.length → 3 ≤ alike (l.drop (lits l n))
  | [], n, _, h => by simp at h
  | x :: l, 0, h, _ => by omega
  | x :: l, n + 1, h, h' => by
    unfold lits at h h' ⊢
    split
    · rename_i h3
      rw [if_pos h3] at h h'
      simp only [List.length_cons] at h'
      rw [List.drop_succ_cons]
      exact lits_stop l n (by omega) (by omega)
    · rename_i h3
      rw [List.drop_zero]
      omega
theorem wr_len : ∀ (f : Nat) (x : List Int), x.length ≤ f → (wr f x).length ≤ x.length + (x.length + 127) / 128 ∧ (3 ≤ alike x → (wr f x).length + 1 ≤ x.length + (x.length + 127) / 128)
  | 0, x, h => by
    have : x = [] := List.length_eq_zero_iff.1 (by omega)
    subst this; simp [wr, alike]
  | f + 1, [], _ => by simp [wr, alike]
  | f + 1, x :: l, h => by
    have ha := alike_le (x :: l)
    have hp := alike_pos x l
    unfold wr
    split
    · rename_i h3
      have h1 := (wr_len f ((x :: l).drop (alike (x :: l))) (by rw [List.length_drop]; omega)).1
      rw [List.length_drop] at h1
      simp only [List.length_cons] at h1 ha h ⊢
      omega
    · rename_i h3
      have hl := lits_le (x :: l) 128
      have hp := lits_pos (x := x) (l := l) (by omega)
      have hst := lits_stop (x :: l) 128
      have h1 := wr_len f ((x :: l).drop (lits (x :: l) 128)) (by rw [List.length_drop]; omega)
      generalize lits (x :: l) 128 = n at *
      generalize hw : wr f ((x :: l).drop n) = w at *
      simp only [List.length_drop, List.length_cons, List.length_append, List.length_take] at *
      refine ⟨?_, fun h => absurd h h3⟩
      rw [Nat.min_eq_left hl.2]
      by_cases hn : n = 128
      · omega
      · by_cases hn2 : n < l.length + 1
        · have h2 := h1.2 (hst (by omega) hn2)
          omega
        · have hx : (x :: l).drop n = [] := List.drop_of_length_le (by simp; omega)
          rw [hx] at hw
          have : w = [] := by
            rw [← hw]
            cases f <;> rfl
          subst this
          simp
          omega
theorem Parts.len {w x : List Int} (h : Parts w x) : w.length ≤ 2 * x.length := by
  induction h with
  | nil => simp
  | run a c w x h1 h2 _ ih => simp; omega
  | lit l w x h1 h2 _ ih => simp; omega
end Go.Sb
