/- Who waits for whom: the plain graph's order. Conditions: none. -/
import Derived.Test.YtimpaammdmeocaaDoorWaiV
import Derived.Test.YtimpaammdmeocaaDoorSbW
namespace Go.Proofs.YtimpaammdmeocaaDoor
open Go Go.Sb
set_option linter.unusedSimpArgs false
set_option linter.unusedVariables false
section plain
variable {rows : List Nat}
theorem leftM_bit (hg : GOk rows) : ∀ k, k ≤ 64 → ∀ j, (leftM rows k).testBit j = true ↔ (∃ b, b < k ∧ (rows.getD b 0).testBit j = true) ∨ (j < k ∧ rows.getD j 0 ≠ 0)
  | 0, _, j => by simp [leftM]
  | k + 1, hk, j => by
    have ih := leftM_bit hg k (by omega) j
    have e : (leftM rows (k + 1)).testBit j = true ↔ (leftM rows k).testBit j = true ∨ (rows.getD k 0).testBit j = true ∨ (rows.getD k 0 ≠ 0 ∧ j = k) := by
      rw [show leftM rows (k + 1) = if rows.getD k 0 = 0 then leftM rows k ||| rows.getD k 0 else leftM rows k ||| rows.getD k 0 ||| 2 ^ k from rfl]
      split
      · rename_i hz
        rw [Nat.testBit_or, Bool.or_eq_true]
        constructor
        · rintro (h | h)
          · exact .inl h
          · exact .inr (.inl h)
        · rintro (h | h | ⟨h, _⟩)
          · exact .inl h
          · exact .inr h
          · exact absurd hz h
      · rename_i hz
        rw [Nat.testBit_or, Nat.testBit_or, Bool.or_eq_true, Bool.or_eq_true, Nat.testBit_two_pow]
        constructor
        · rintro ((h | h) | h)
          · exact .inl h
          · exact .inr (.inl h)
          · exact .inr (.inr ⟨hz, by have := of_decide_eq_true h; omega⟩)
        · rintro (h | h | ⟨_, h⟩)
          · exact .inl (.inl h)
          · exact .inl (.inr h)
          · exact .inr (by simp [h])
    rw [e, ih]
    constructor
    · rintro ((⟨b, hb, h⟩ | ⟨h, h2⟩) | h | ⟨h, rfl⟩)
      · exact .inl ⟨b, by omega, h⟩
      · exact .inr ⟨by omega, h2⟩
      · exact .inl ⟨k, by omega, h⟩
      · exact .inr ⟨by omega, h⟩
    · rintro (⟨b, hb, h⟩ | ⟨h, h2⟩)
      · by_cases e : b = k
        · subst e; exact .inr (.inl h)
        · exact .inl (.inl ⟨b, by omega, h⟩)
      · by_cases e : j = k
        · subst e; exact .inr (.inr ⟨h2, rfl⟩)
        · exact .inl (.inr ⟨by omega, h2⟩)
/-- a party that is in the plain graph's order: it waits, or is waited for -/
def inG (rows : List Nat) (a c : Nat) : Bool := (List.range c).any fun b => (rows.getD a 0).testBit b || (rows.getD b 0).testBit a
theorem inG_left (hg : GOk rows) {a : Nat} (ha : a < 64) : inG rows a 64 = (leftM rows 64).testBit a := by
  rw [Bool.eq_iff_iff, leftM_bit hg 64 (by omega)]
  unfold inG
  simp only [List.any_eq_true, List.mem_range, Bool.or_eq_true]
  constructor
  · rintro ⟨b, hb, h | h⟩
    · refine .inr ⟨ha, fun e => ?_⟩
      rw [e, Nat.zero_testBit] at h
      cases h
    · exact .inl ⟨b, hb, h⟩
  · rintro (⟨b, hb, h⟩ | ⟨_, h⟩)
    · exact ⟨b, hb, .inr h⟩
    · apply Classical.byContradiction
      intro hc
      apply h
      apply Nat.eq_of_testBit_eq
      intro i
      rw [Nat.zero_testBit]
      cases hb : (rows.getD a 0).testBit i with
      | false => rfl
      | true => exact absurd ⟨i, bit_lt (hg.at_ a) hb, .inl hb⟩ hc
theorem free_any (hg : GOk rows) {left a : Nat} (hl : left < 2 ^ 64) : freeB rows left a = !(List.range 64).any fun b => (rows.getD a 0).testBit b && left.testBit b := by
  unfold freeB
  rw [Bool.eq_iff_iff]
  simp only [beq_iff_eq, Bool.not_eq_true', List.any_eq_false, List.mem_range]
  constructor
  · intro h b hb
    have := congrArg (fun z => Nat.testBit z b) h
    rw [Nat.testBit_and, Nat.zero_testBit] at this
    rw [this]; simp
  · intro h
    apply Nat.eq_of_testBit_eq
    intro i
    rw [Nat.testBit_and, Nat.zero_testBit]
    cases hb : left.testBit i with
    | false => simp
    | true =>
      have := h i (bit_lt hl hb)
      rw [hb] at this
      simpa using this
end plain
end Go.Proofs.YtimpaammdmeocaaDoor
