/- Configurations: one that is an argument. Conditions: none. -/
import Derived.Test.YtimpaammdmeocaaCfgB
import Derived.Test.YtimpaammdmeocaaCfgA
import Derived.Test.YtimpaammdmeocaaSbW
namespace Go.Proofs.Ytimpaammdmeocaa
open Go Go.Sb
set_option linter.unusedSimpArgs false
set_option linter.unusedVariables false
set_option linter.unusedVariables false
section
variable {h : Hp}
theorem rdE_map {X Y : Type} {enc : X → List Value} {enc' : Y → List Value} {sz : Nat} {s : Sl} {xs : List X} {f : X → Y} (hf : ∀ x, enc' (f x) = enc x) {B : Nat} (hr : RdE B h enc sz s xs) : RdE B h enc' sz s (xs.map f) := by
  refine ⟨by rw [List.length_map]; exact hr.n, fun i x hx => ?_⟩
  rw [List.getElem?_map] at hx
  cases hq : xs[i]? with
  | none => rw [hq] at hx; cases hx
  | some y =>
    rw [hq] at hx
    simp only [Option.map_some, Option.some.injEq] at hx
    subst hx
    obtain ⟨a, h1, h2, h3⟩ := hr.at_ i y hq
    exact ⟨a, h1, h2, fun j v hv => h3 j v (by rw [hf] at hv; exact hv)⟩
theorem rdE_list {X Y : Type} {enc : X → List Value} {enc' : Y → List Value} {sz : Nat} {s : Sl} {xs : List X} {ys : List Y} (hl : ys.length = xs.length) (hf : ∀ (i : Nat) (x : X) (y : Y), xs[i]? = some x → ys[i]? = some y → enc' y = enc x) {B : Nat} (hr : RdE B h enc sz s xs) : RdE B h enc' sz s ys := by
  refine ⟨by rw [hl]; exact hr.n, fun i y hy => ?_⟩
  have hi := (List.getElem?_eq_some_iff.1 hy).1
  have hq := List.getElem?_eq_getElem (show i < xs.length by omega)
  obtain ⟨a, h1, h2, h3⟩ := hr.at_ i _ hq
  exact ⟨a, h1, h2, fun j v hv => h3 j v (by rw [hf i _ y hq hy] at hv; exact hv)⟩
theorem tasks_of : ∀ xs : List CTask, (∀ y ∈ xs, y.ok h) → ∃ ts : List (PTask × Sl), ts.length = xs.length ∧ (∀ (i : Nat) (x : CTask) (y : PTask × Sl), xs[i]? = some x → ts[i]? = some y → encT y = x.enc) ∧ ∀ p ∈ ts, RdE h.size h encO 3 p.2 p.1.ops ∧ p.2.n ≤ p.2.c
  | [], _ => ⟨[], rfl, fun i x y hx => by simp at hx, fun p hp => by cases hp⟩
  | x :: xs, hx => by
    obtain ⟨ts, h1, h2, h3⟩ := tasks_of xs fun y hy => hx y (by simp [hy])
    obtain ⟨_, _, _, _, _, _, _, hcap, zs, hz, _⟩ := hx x (by simp)
    refine ⟨(⟨x.priority, x.threshold, x.period, x.deadline, x.frame, x.float, zs.map fun o => ⟨o.kind, o.a, o.b⟩⟩, x.program) :: ts, by simp [h1], fun i a b ha hb => ?_, fun p hp => ?_⟩
    · cases i with
      | zero =>
        simp only [List.getElem?_cons_zero, Option.some.injEq] at ha hb
        subst ha hb
        rfl
      | succ i =>
        simp only [List.getElem?_cons_succ] at ha hb
        exact h2 i a b ha hb
    · rcases List.mem_cons.1 hp with rfl | hp
      · exact ⟨rdE_map (fun o => rfl) hz, hcap⟩
      · exact h3 p hp
theorem conf_rd {y : CConf} (o : y.ok h) : ∃ M cs ce T L ts, CRd h ⟨y.machine.sets, y.machine.ways, y.machine.hit, y.machine.miss, M, y.groups, cs, ce, T, L⟩ y.mailboxes y.counts y.ceilings y.tasks y.lines ts ∧ (y.tasks.n : Int) ≤ 9223372036854775807 := by
  obtain ⟨_, _, _, ⟨M, hM⟩, _, _, _, ⟨cs, hcs⟩, _, _, ⟨ce, hce⟩, htb, htc, ⟨xs, hxs, hok⟩, _, _, ⟨L, hL⟩⟩ := o
  obtain ⟨ts, h1, h2, h3⟩ := tasks_of xs hok
  exact ⟨M, cs, ce, ts.map (·.1), L, ts, ⟨hM, hcs, hce, hL, rdE_list h1 h2 hxs, htc, rfl, h3⟩, htb⟩
end
end Go.Proofs.Ytimpaammdmeocaa
