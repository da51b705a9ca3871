/- Times told by gaps, as plain lists. Conditions: none. -/
import Derived.Test.YtinjifhjjkdmoaaSbW
namespace Go.Sb
open Go
/-- keys and gaps -/
abbrev DL := List (Int × Int)
def dsum : DL → Int
  | [] => 0
  | (_, g) :: r => g + dsum r
structure DOk (l : DL) : Prop where
  gap : ∀ p ∈ l, 0 ≤ p.2
  sum : dsum l ≤ 16777216
theorem dsum_nn : ∀ {l : DL}, (∀ p ∈ l, 0 ≤ p.2) → 0 ≤ dsum l
  | [], _ => by simp [dsum]
  | (k, g) :: r, h => by
    have := dsum_nn (l := r) fun p hp => h p (by simp [hp])
    have := h (k, g) (by simp)
    simp only [dsum]; omega
theorem DOk.tail {k g : Int} {r : DL} (h : DOk ((k, g) :: r)) : DOk r ∧ 0 ≤ g ∧ g + dsum r ≤ 16777216 ∧ 0 ≤ dsum r := by
  have h1 := h.gap (k, g) (by simp)
  have h2 := h.sum
  have h3 : ∀ p ∈ r, 0 ≤ p.2 := fun p hp => h.gap p (by simp [hp])
  have h4 := dsum_nn h3
  simp only [dsum] at h2
  exact ⟨⟨h3, by omega⟩, h1, h2, h4⟩
/-- where a key stands, and when it is due -/
def fnk (key : Int) : DL → Nat → Int → Option (Nat × Int)
  | [], _, _ => none
  | (k, g) :: r, i, due => if k = key then some (i, due + g) else fnk key r (i + 1) (due + g)
def ins (key : Int) : DL → Int → DL
  | [], t => [(key, t)]
  | (k, g) :: r, t => if g ≤ t then (k, g) :: ins key r (t - g) else (key, t) :: (k, g - t) :: r
def cutL : DL → Nat → DL
  | [], _ => []
  | [(_, _)], 0 => []
  | (_, g) :: (k', g') :: r, 0 => (k', g' + g) :: r
  | x :: r, i + 1 => x :: cutL r i
def adv : Int → DL → List Int × DL
  | _, [] => ([], [])
  | t, (k, g) :: r => if g ≤ t then (k :: (adv (t - g) r).1, (adv (t - g) r).2) else ([], (k, g - t) :: r)
theorem ins_ok {key : Int} : ∀ (l : DL) (t : Int), DOk l → 0 ≤ t → t ≤ 16777216 → DOk (ins key l t) ∧ dsum (ins key l t) = max t (dsum l)
  | [], t, h, h0, h1 => by
    refine ⟨⟨by simpa [ins] using h0, by simpa [ins, dsum] using h1⟩, by simp [ins, dsum]; omega⟩
  | (k, g) :: r, t, h, h0, h1 => by
    obtain ⟨a, b, c, d⟩ := h.tail
    unfold ins
    split
    · rename_i hg
      obtain ⟨i1, i2⟩ := ins_ok (key := key) r (t - g) a (by omega) (by omega)
      refine ⟨⟨?_, by simp only [dsum, i2]; omega⟩, by simp only [dsum, i2]; omega⟩
      intro p hp
      rcases List.mem_cons.1 hp with hp | hp
      · subst hp; exact b
      · exact i1.gap p hp
    · rename_i hg
      refine ⟨⟨?_, by simp only [dsum]; omega⟩, by simp only [dsum]; omega⟩
      intro p hp
      simp only [List.mem_cons] at hp
      rcases hp with hp | hp | hp
      · subst hp; exact h0
      · subst hp; show 0 ≤ g - t; omega
      · exact a.gap p hp
theorem ins_len {key : Int} : ∀ (l : DL) (t : Int), (ins key l t).length = l.length + 1
  | [], t => rfl
  | (k, g) :: r, t => by
    unfold ins
    split
    · rw [List.length_cons, ins_len r, List.length_cons]
    · rfl
theorem cut_ok : ∀ (l : DL) (i : Nat), DOk l → DOk (cutL l i) ∧ dsum (cutL l i) ≤ dsum l
  | [], i, h => by simpa [cutL] using h
  | [(k, g)], 0, h => by
    have := h.tail
    simp only [cutL, dsum]
    exact ⟨⟨by simp, by simp [dsum]⟩, by omega⟩
  | (k, g) :: (k', g') :: r, 0, h => by
    obtain ⟨a, b, c, d⟩ := h.tail
    obtain ⟨a', b', c', d'⟩ := a.tail
    simp only [dsum] at c
    refine ⟨⟨?_, by simp only [cutL, dsum]; omega⟩, by simp only [cutL, dsum]; omega⟩
    intro p hp
    simp only [cutL, List.mem_cons] at hp
    rcases hp with hp | hp
    · subst hp; show 0 ≤ g' + g; omega
    · exact a'.gap p hp
  | (k, g) :: r, i + 1, h => by
    obtain ⟨a, b, c, d⟩ := h.tail
    obtain ⟨i1, i2⟩ := cut_ok r i a
    have e : cutL ((k, g) :: r) (i + 1) = (k, g) :: cutL r i := by cases r <;> rfl
    rw [e]
    refine ⟨⟨?_, by simp only [dsum]; omega⟩, by simp only [dsum]; omega⟩
    intro p hp
    rcases List.mem_cons.1 hp with hp | hp
    · subst hp; exact b
    · exact i1.gap p hp
theorem adv_ok : ∀ (l : DL) (t : Int), DOk l → 0 ≤ t → DOk (adv t l).2 ∧ dsum (adv t l).2 ≤ dsum l ∧ (adv t l).1.length + (adv t l).2.length = l.length
  | [], t, h, h0 => by simpa [adv] using h
  | (k, g) :: r, t, h, h0 => by
    obtain ⟨a, b, c, d⟩ := h.tail
    unfold adv
    split
    · obtain ⟨i1, i2, i3⟩ := adv_ok r (t - g) a (by omega)
      exact ⟨i1, by simp only [dsum]; omega, by simp only [List.length_cons]; omega⟩
    · refine ⟨⟨?_, by simp only [dsum]; omega⟩, by simp only [dsum]; omega, by simp⟩
      intro p hp
      rcases List.mem_cons.1 hp with hp | hp
      · subst hp; show 0 ≤ g - t; omega
      · exact a.gap p hp
/-- two parts -/
theorem adv_two : ∀ (l : DL) (a b : Int), 0 ≤ a → 0 ≤ b → (∀ p ∈ l, 0 ≤ p.2) → (adv (a + b) l).1 = (adv a l).1 ++ (adv b (adv a l).2).1 ∧ (adv (a + b) l).2 = (adv b (adv a l).2).2
  | [], a, b, ha, hb, h => by simp [adv]
  | (k, g) :: r, a, b, ha, hb, h => by
    have hg := h (k, g) (by simp)
    have ht : ∀ p ∈ r, 0 ≤ p.2 := fun p hp => h p (by simp [hp])
    simp only at hg
    by_cases h1 : g ≤ a
    · have ih := adv_two r (a - g) b (by omega) hb ht
      rw [show adv a ((k, g) :: r) = (k :: (adv (a - g) r).1, (adv (a - g) r).2) from if_pos h1]
      rw [show adv (a + b) ((k, g) :: r) = (k :: (adv (a + b - g) r).1, (adv (a + b - g) r).2) from if_pos (by omega)]
      rw [show a + b - g = a - g + b by omega]
      simp only
      rw [ih.1, ih.2]
      exact ⟨rfl, rfl⟩
    · rw [show adv a ((k, g) :: r) = ([], (k, g - a) :: r) from if_neg h1]
      simp only
      by_cases h2 : g ≤ a + b
      · rw [show adv (a + b) ((k, g) :: r) = (k :: (adv (a + b - g) r).1, (adv (a + b - g) r).2) from if_pos h2]
        rw [show adv b ((k, g - a) :: r) = (k :: (adv (b - (g - a)) r).1, (adv (b - (g - a)) r).2) from if_pos (by omega)]
        rw [show b - (g - a) = a + b - g by omega]
        exact ⟨rfl, rfl⟩
      · rw [show adv (a + b) ((k, g) :: r) = ([], (k, g - (a + b)) :: r) from if_neg h2]
        rw [show adv b ((k, g - a) :: r) = ([], (k, g - a - b) :: r) from if_neg (by omega)]
        refine ⟨rfl, ?_⟩
        show _ :: _ = _ :: _
        rw [show g - (a + b) = g - a - b by omega]
end Go.Sb
