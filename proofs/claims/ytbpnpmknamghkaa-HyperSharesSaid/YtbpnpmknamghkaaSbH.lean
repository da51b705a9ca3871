/- The small logic is sound: one operation. Conditions: none. -/
import Derived.Test.YtbpnpmknamghkaaSbG
namespace Go.Sb
open Go

section un
variable {P : Program} {α : Type} {h : Hp} {Q : α → Hp → Prop}
theorem un1_sound {t : TypeId} {v : Value} {k : Value → M α} (hh : un1 P t v k h Q) : k v h Q := by
  unfold un1 at hh
  cases hu : P.underlying t with
  | none => rw [hu] at hh; exact hh
  | some d =>
    rw [hu] at hh
    cases d <;> first | exact hh | skip
    case bool => cases v <;> first | exact hh | exact hh.elim
    case string => cases v <;> first | exact hh | exact hh.elim
    case pointer => cases v <;> first | exact hh | exact hh.elim
    case slice => cases v <;> first | exact hh | exact hh.elim
    case map => cases v <;> first | exact hh | exact hh.elim
    case int kd =>
      cases v <;> first | exact hh.elim | skip
      rename_i k' n
      simp only [unI] at hh
      by_cases hk : k' = kd
      · subst hk; simpa using hh
      · simp only [hk, if_false] at hh; exact hh.elim
    case func =>
      cases v <;> first | exact hh.elim | skip
      rename_i fn f c
      cases fn <;> first | exact hh.elim | exact hh
theorem unCells_sound : ∀ (ts : List TypeId) (cs : List Value) (acc : Array Value) (k : Array Value → M α), unCells P ts cs acc k h Q → k (acc ++ cs.toArray) h Q
  | [], cs, acc, k, hh => by
    cases cs with
    | nil => simpa [unCells, unE] using hh
    | cons c cs => exact hh.elim
  | t :: ts, cs, acc, k, hh => by
    cases cs with
    | nil => exact hh.elim
    | cons c cs =>
      have := unCells_sound ts cs (acc.push c) k (un1_sound (k := fun v => unCells P ts cs (acc.push v) k) hh)
      simpa using this
theorem unV_sound {t : TypeId} {v : Value} {k : Value → M α} (hh : unV P t v k h Q) : k v h Q := by
  unfold unV at hh
  cases hbig : isBigT P t with
  | true =>
    rw [hbig] at hh
    cases v <;> first | exact hh.elim | skip
    simpa [unA] using hh
  | false =>
  rw [hbig] at hh
  simp only at hh
  cases hagg : isAggT P t with
  | true =>
    simp only [hagg, if_true] at hh
    cases hk : flatK P 20 t with
    | none => rw [hk] at hh; exact hh.elim
    | some ks =>
      rw [hk] at hh
      cases v <;> first | exact hh.elim | skip
      have := unCells_sound _ _ _ _ hh
      simpa using this
  | false => simp only [hagg, Bool.false_eq_true, if_false] at hh; exact un1_sound hh
theorem unVs_sound : ∀ (ts : List TypeId) (cs : List Value) (acc : Array Value) (k : Array Value → M α), unVs P ts cs acc k h Q → k (acc ++ cs.toArray) h Q
  | [], cs, acc, k, hh => by
    cases cs with
    | nil => simpa [unVs, unE] using hh
    | cons c cs => exact hh.elim
  | t :: ts, cs, acc, k, hh => by
    cases cs with
    | nil => exact hh.elim
    | cons c cs =>
      have := unVs_sound ts cs (acc.push c) k (unV_sound (k := fun v => unVs P ts cs (acc.push v) k) hh)
      simpa using this
theorem unR_sound {t : TypeId} {v : Value} {k : Value → M α} (hh : unR P t v k h Q) : k v h Q := by
  unfold unR at hh
  cases hu : P.underlying t with
  | none => rw [hu] at hh; exact unV_sound hh
  | some d =>
    rw [hu] at hh
    cases d <;> first | exact unV_sound hh | skip
    rename_i ts
    obtain ⟨ts⟩ := ts
    cases ts with
    | nil => exact hh
    | cons t ts =>
      cases v <;> first | exact hh.elim | skip
      have := unVs_sound _ _ _ _ hh
      simpa using this
end un

section op
variable {P : Program} {α : Type} {a : Act} {w : World} {o : Oper} {next : Act → World → Prop} {Qx : Exit → Act → World → Prop}
theorem wp_val {v : Value} {w' : World} (h : (execOp a.eval o).run P w = .ok (.value v) w') (hn : next (a.put o.dst v) w') : o.wp P a w next Qx := by
  unfold Oper.wp; rw [h]; exact hn
theorem wp_skp {w' : World} (h : (execOp a.eval o).run P w = .ok .skip w') (hn : next (a.put o.dst undef) w') : o.wp P a w next Qx := by
  unfold Oper.wp; rw [h]; exact hn
theorem wp_call {g : FuncId} {args : Array Value} {X : Value → Hp → Prop} (h : (execOp a.eval o).run P w = .ok (.enter g args) w) (hc : Calls P g args w fun e w' => ∃ v, e = .returned v ∧ Kept w w' ∧ X v w'.heap) (hn : ∀ v w', Kept w w' → X v w'.heap → next (a.put o.dst v) w') : o.wp P a w next Qx := by
  unfold Oper.wp; rw [h]
  refine hc.mono ?_
  rintro e w' ⟨v, rfl, hk, hx⟩
  exact hn v w' hk hx

theorem mSlc_sound {s : Sl} {sz : Nat} {lo hi mx : Int} {k : Sl → M α} {h : Hp} {Q : α → Hp → Prop} (hh : mSlc s sz lo hi mx k h Q) :
    0 ≤ lo ∧ lo ≤ hi ∧ hi ≤ mx ∧ mx ≤ s.c := ⟨hh.1, hh.2.1, hh.2.2.1, hh.2.2.2.1⟩
theorem bound_none {env : Env} {d i : Int} (h : bound env d none = some i) : i = d := by simp [bound] at h; exact h.symm
theorem bound_some {env : Env} {d i : Int} {x : Operand} (h : bound env d (some x) = some i) : ∃ k, opd env x = some (.int k i) := by
  unfold bound at h
  simp only [] at h
  split at h
  · rename_i k n hx; cases h; exact ⟨_, hx⟩
  · cases h
/-- the three bounds of a slice expression -/
theorem run_bounds {env : Env} (ha : Ag env a) {b : Bool} {n c : Nat} {lo hi mx : Option Operand} {l u m : Int} (hl : bound env 0 lo = some l) (hu : bound env n hi = some u) (hm : bound env c mx = some m)
    (h0 : 0 ≤ l) (h1 : l ≤ u) (h2 : u ≤ m) (h3 : m ≤ c) (hx : mx.isSome = true → hi.isSome = true) : (Instr.sliceBounds b n c (lo.map a.eval) (hi.map a.eval) (mx.map a.eval)).run P w = .ok (l.toNat, u.toNat, m.toNat) w := by
  unfold Instr.sliceBounds
  cases mx with
  | none =>
    have := bound_none hm; subst this
    cases hi with
    | none =>
      have := bound_none hu; subst this
      cases lo with
      | none => have := bound_none hl; subst this; simp
      | some x =>
        obtain ⟨k, hk⟩ := bound_some hl
        simp [Option.map, run_sliceBound (ha.eval hk) h0 h1]
    | some y =>
      obtain ⟨k', hk'⟩ := bound_some hu
      have e2 := fun cc => run_sliceBound (P := P) (y := c) (c := cc) (ha.eval hk') (by omega) h2 w
      cases lo with
      | none => have := bound_none hl; subst this; simp [Option.map, e2]
      | some x =>
        obtain ⟨k, hk⟩ := bound_some hl
        have e1 := fun cc => run_sliceBound (P := P) (y := u.toNat) (c := cc) (ha.eval hk) h0 (by omega) w
        simp [Option.map, e1, e2]
  | some z =>
    obtain ⟨k'', hk''⟩ := bound_some hm
    have e3 := fun cc => run_sliceBound (P := P) (y := c) (c := cc) (ha.eval hk'') (by omega) h3 w
    cases hi with
    | none => simp at hx
    | some y =>
      obtain ⟨k', hk'⟩ := bound_some hu
      have e2 := fun cc => run_sliceBound (P := P) (y := m.toNat) (c := cc) (ha.eval hk') (by omega) (by omega) w
      cases lo with
      | none => have := bound_none hl; subst this; simp [Option.map, e2, e3]
      | some x =>
        obtain ⟨k, hk⟩ := bound_some hl
        have e1 := fun cc => run_sliceBound (P := P) (y := u.toNat) (c := cc) (ha.eval hk) h0 (by omega) w
        simp [Option.map, e1, e2, e3]
end op
end Go.Sb
