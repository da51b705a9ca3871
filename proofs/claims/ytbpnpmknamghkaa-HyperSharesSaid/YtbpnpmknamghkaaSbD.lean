/- The small logic is sound: frames and slots, values and single operations. Conditions: none. -/
import Derived.Test.YtbpnpmknamghkaaSbC
namespace Go.Sb
open Go

theorem look_upd (env : Env) (d i : Nat) (v : Option Value) : look (upd env d v) i = if i = d ∧ d < env.length then v else look env i := by
  induction env generalizing d i with
  | nil => cases i <;> simp [look, upd]
  | cons x xs ih =>
    cases d with
    | zero => cases i <;> simp [look, upd]
    | succ d => cases i with
      | zero => simp [look, upd]
      | succ i => simp [look, upd, ih]
theorem length_upd (env : Env) (d : Nat) (v : Option Value) : (upd env d v).length = env.length := by
  induction env generalizing d with
  | nil => rfl
  | cons x xs ih => cases d <;> simp [upd, ih]
theorem length_put (env : Env) (d : Option Tmp) (v : Option Value) : (put env d v).length = env.length := by
  cases d <;> simp [put, length_upd]
theorem look_put (env : Env) (d : Option Tmp) (i : Nat) (v : Option Value) : look (put env d v) i = if d = some i ∧ i < env.length then v else look env i := by
  cases d with
  | none => simp [put]
  | some d =>
    simp only [put, look_upd, Option.some.injEq]
    by_cases h : i = d
    · subst h; simp
    · have : ¬ d = i := fun e => h e.symm
      simp [h, this]
theorem look_lt {env : Env} {i : Nat} {v : Value} (h : look env i = some v) : i < env.length := by
  induction env generalizing i with
  | nil => cases i <;> simp [look] at h
  | cons x xs ih => cases i with
    | zero => simp
    | succ i => have := ih (i := i) (by simpa [look] using h); simp; omega

theorem put_tmps (a : Act) (d : Option Tmp) (v : Value) (i : Nat) : (a.put d v).tmps[i]? = if d = some i ∧ i < a.tmps.size then some v else a.tmps[i]? := by
  cases d with
  | none => simp [Act.put]
  | some d =>
    simp only [Act.put, Array.getElem?_setIfInBounds, Option.some.injEq]
    by_cases h : d = i
    · subst h
      by_cases h2 : d < a.tmps.size
      · simp [h2]
      · simp [h2]
    · simp [h]
theorem put_size (a : Act) (d : Option Tmp) (v : Value) : (a.put d v).tmps.size = a.tmps.size := by
  cases d <;> simp [Act.put]
theorem put_defers (a : Act) (d : Option Tmp) (v : Value) : (a.put d v).defers = a.defers := by
  cases d <;> simp [Act.put]

theorem Ag.put {env : Env} {a : Act} (h : Ag env a) (d : Option Tmp) (v : Value) : Ag (put env d (some v)) (a.put d v) := by
  refine ⟨by rw [length_put, put_size, h.size], fun i u hu => ?_, by rw [put_defers, h.defers]⟩
  rw [look_put] at hu
  rw [put_tmps]
  by_cases hc : d = some i ∧ i < env.length
  · rw [if_pos hc] at hu
    rw [if_pos ⟨hc.1, h.size ▸ hc.2⟩]; exact hu
  · rw [if_neg hc] at hu
    rw [if_neg (by rw [← h.size]; exact hc)]
    exact h.at_ i u hu
theorem Ag.forget {env : Env} {a : Act} (h : Ag env a) (d : Option Tmp) (v : Value) : Ag (Sb.put env d none) (a.put d v) := by
  refine ⟨by rw [length_put, put_size, h.size], fun i u hu => ?_, by rw [put_defers, h.defers]⟩
  rw [look_put] at hu
  rw [put_tmps]
  by_cases hc : d = some i ∧ i < env.length
  · rw [if_pos hc] at hu; cases hu
  · rw [if_neg hc] at hu
    rw [if_neg (by rw [← h.size]; exact hc)]
    exact h.at_ i u hu
theorem Ag.set {env : Env} {a : Act} (h : Ag env a) {d : Nat} {v : Value} (hv : a.tmps[d]? = some v) : Ag (upd env d (some v)) a := by
  refine ⟨by rw [length_upd, h.size], fun i u hu => ?_, h.defers⟩
  rw [look_upd] at hu
  split at hu
  · rename_i hc; rw [hc.1, hv, hu]
  · exact h.at_ i u hu
theorem look_keepOnly (live : List Nat) (env : Env) (k i : Nat) {v : Value} (h : look (keepOnly live k env) i = some v) : look env i = some v := by
  induction env generalizing k i with
  | nil => simp [keepOnly, look] at h
  | cons x xs ih => cases i with
    | zero => simp only [keepOnly, look] at h; split at h <;> simp_all [look]
    | succ i => simp only [keepOnly, look] at h ⊢; exact ih _ _ h
theorem length_keepOnly (live : List Nat) (k : Nat) (env : Env) : (keepOnly live k env).length = env.length := by
  induction env generalizing k with
  | nil => rfl
  | cons x xs ih => simp [keepOnly, ih]
theorem Ag.keepOnly {env : Env} {a : Act} (h : Ag env a) (live : List Nat) : Ag (Sb.keepOnly live 0 env) a :=
  ⟨by rw [length_keepOnly, h.size], fun i v hv => h.at_ i v (look_keepOnly _ _ _ _ hv), h.defers⟩
theorem Ag.weaken {env env' : Env} {a : Act} (h : Ag env a) (hl : env'.length = env.length) (hi : ∀ i v, look env' i = some v → look env i = some v) : Ag env' a :=
  ⟨by rw [hl, h.size], fun i v hv => h.at_ i v (hi i v hv), h.defers⟩
theorem Ag.eval {env : Env} {a : Act} (h : Ag env a) {x : Operand} {v : Value} (hx : opd env x = some v) : a.eval x = v := by
  cases x with
  | tmp t => simp only [opd] at hx; simp [Act.eval, h.at_ t v hx]
  | const u => simp only [opd, Option.some.injEq] at hx; rw [← hx]; rfl
  | global g => simp only [opd, Option.some.injEq] at hx; rw [← hx]; rfl
  | func f => simp only [opd, Option.some.injEq] at hx; rw [← hx]; rfl
theorem opds_map {env : Env} {a : Act} (h : Ag env a) : ∀ (xs : List Operand) (vs : List Value), opds env xs = some vs → xs.map a.eval = vs
  | [], vs, he => by simp [opds] at he; simp [he]
  | x :: xs, vs, he => by
    simp only [opds] at he
    split at he
    · rename_i v vs' hv hvs
      cases he
      simp [h.eval hv, opds_map h xs vs' hvs]
    · cases he
theorem opds_arr {env : Env} {a : Act} (h : Ag env a) {xs : Array Operand} {vs : List Value} (he : opds env xs.toList = some vs) : xs.map a.eval = vs.toArray := by
  have := opds_map h _ _ he
  apply Array.ext'
  rw [Array.toList_map, this]
theorem opdParts_map {env : Env} {a : Act} (h : Ag env a) : ∀ (xs : List (Nat × Operand)) (vs : List (Nat × Value)), opdParts env xs = some vs → xs.map (fun x => (x.1, a.eval x.2)) = vs
  | [], vs, he => by simp [opdParts] at he; simp [he]
  | x :: xs, vs, he => by
    simp only [opdParts] at he
    split at he
    · rename_i v vs' hv hvs
      cases he
      simp [h.eval hv, opdParts_map h xs vs' hvs]
    · cases he

/-! ### heaps and worlds -/
theorem cell_eq (w : World) (a : Addr) : w.cell? a = hcell w.heap a := rfl
theorem frozen_eq (w : World) (a : Addr) : w.frozen? a = hfrozen w.heap a := rfl
theorem setCell_eq (w : World) (a : Addr) (v : Value) : w.setCell a v = { w with heap := hset w.heap a v } := rfl
theorem Kept.heap (w : World) (h : Hp) : Kept w { w with heap := h } := ⟨rfl, rfl, rfl⟩

section sem
variable {P : Program} {w : World}
theorem run_load_some {a : Addr} {v : Value} (h : hcell w.heap a = some v) : (load a).run P w = .ok v w := by
  rw [run_load, cell_eq, h]
theorem run_store_ok {a : Addr} {v : Value} (hv : v.oneCell' = true) (h : (hcell w.heap a).isSome = true) (hf : hfrozen w.heap a = false) :
    (store a v).run P w = .ok () { w with heap := hset w.heap a v } := by
  rw [run_store P w a v .plain hv, cell_eq, frozen_eq, hf]
  cases hc : hcell w.heap a with
  | none => simp [hc] at h
  | some u => simp [setCell_eq]
theorem run_underlying {t : TypeId} {d : TypeDesc} (h : P.underlying t = some d) : (underlying t).run P w = .ok d w := by
  simp [underlying, h]
theorem run_typeInfo {t : TypeId} {d : TypeInfo} (h : P.info? t = some d) : (typeInfo t).run P w = .ok d w := by
  simp [typeInfo, h]
theorem sizeT_info {t : TypeId} {n : Nat} (h : sizeT P t = some n) : ∃ i, P.info? t = some i ∧ i.size = n := by
  unfold sizeT at h; cases hi : P.info? t with
  | none => simp [hi] at h
  | some i => exact ⟨i, rfl, by simpa [hi] using h⟩
theorem run_sizeOf {t : TypeId} {n : Nat} (h : sizeT P t = some n) : (sizeOf t).run P w = .ok n w := by
  obtain ⟨i, hi, rfl⟩ := sizeT_info h
  simp [sizeOf, run_typeInfo hi]
theorem bytesT_info {t : TypeId} {n : Nat} (h : bytesT P t = some n) : ∃ i, P.info? t = some i ∧ i.bytes = n := by
  unfold bytesT at h; cases hi : P.info? t with
  | none => simp [hi] at h
  | some i => exact ⟨i, rfl, by simpa [hi] using h⟩
theorem run_zeroValue {t : TypeId} {v : Value} (h : zeroT P t = some v) : (zeroValue t).run P w = .ok v w := by
  unfold zeroT at h
  cases hi : P.info? t with
  | none => simp [hi] at h
  | some i => simp only [hi] at h; simp [zeroValue, run_typeInfo hi, h]
theorem run_isAgg {t : TypeId} {d : TypeDesc} (h : P.underlying t = some d) : (isAgg t).run P w = .ok (isAggT P t) w := by
  unfold isAgg isAggT
  rw [Sem.run_bind, run_underlying h, h]
  cases d <;> rfl
end sem
end Go.Sb
