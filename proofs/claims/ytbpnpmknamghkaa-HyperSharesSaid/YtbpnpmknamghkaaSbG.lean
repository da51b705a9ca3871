/- The small logic is sound: operations on memory. Conditions: none. -/
import Derived.Test.YtbpnpmknamghkaaSbF
namespace Go.Sb
open Go

section mem
variable {P : Program} {α : Type}

/-- what a load, typed, hands on -/
theorem ld1_sound {t : TypeId} {a : Addr} {k : Value → M α} {h : Hp} {Q : α → Hp → Prop} (hh : ld1 P t a k h Q) : ∃ v, hcell h a = some v ∧ k v h Q := by
  unfold ld1 at hh
  cases hu : P.underlying t with
  | none => rw [hu] at hh; obtain ⟨n, h1, h2⟩ := hh; exact ⟨_, h1, h2⟩
  | some d =>
    rw [hu] at hh
    cases d <;> first
      | (obtain ⟨n, h1, h2⟩ := hh; exact ⟨_, h1, h2⟩)
      | (obtain ⟨g, f, c, h1, h2⟩ := hh; exact ⟨_, h1, h2⟩)
theorem ldCells_sound {a : Addr} {h : Hp} {Q : α → Hp → Prop} : ∀ (ts : List TypeId) (i : Nat) (acc : Array Value) (k : Array Value → M α), ldCells P a ts i acc k h Q →
    ∃ cs, (∀ w : World, w.heap = h → (loadCellsFrom a i ts.length acc).run P w = .ok cs w) ∧ k cs h Q
  | [], i, acc, k, hh => ⟨acc, fun w _ => by simp [loadCellsFrom], hh⟩
  | t :: ts, i, acc, k, hh => by
    obtain ⟨v, h1, h2⟩ := ld1_sound hh
    obtain ⟨cs, h3, h4⟩ := ldCells_sound ts (i + 1) (acc.push v) k h2
    refine ⟨cs, fun w hw => ?_, h4⟩
    rw [List.length_cons, loadCellsFrom, Sem.run_bind, run_load_some (hw ▸ h1), Result.andThen_ok]
    exact h3 w hw
/-- loads of whole rows -/
theorem hcells_sound {a : Addr} {h : Hp} : ∀ (n i : Nat) (vs : List Value) (acc : Array Value), hcells h a i n = some vs → ∀ w : World, w.heap = h → (loadCellsFrom a i n acc).run P w = .ok (acc ++ vs.toArray) w
  | 0, i, vs, acc, hh, w, hw => by simp [hcells] at hh; subst hh; simp [loadCellsFrom]
  | n + 1, i, vs, acc, hh, w, hw => by
    simp only [hcells] at hh
    split at hh
    · rename_i v vs' h1 h2
      cases hh
      rw [loadCellsFrom, Sem.run_bind, run_load_some (hw ▸ h1), Result.andThen_ok, hcells_sound n (i + 1) vs' (acc.push v) h2 w hw]
      simp
    · cases hh
theorem ldT_sound {t : TypeId} {a : Addr} {k : Value → M α} {h : Hp} {Q : α → Hp → Prop} (hh : ldT P t a k h Q) :
    ∃ v, (∀ w : World, w.heap = h → (loadVar t a).run P w = .ok v w) ∧ k v h Q := by
  unfold ldT at hh
  cases hd : P.underlying t with
  | none => rw [hd] at hh; exact hh.elim
  | some d =>
    rw [hd] at hh
    cases hbig : isBigT P t with
    | true =>
      simp only [hbig] at hh
      have hagg : isAggT P t = true := by
        unfold isBigT at hbig
        unfold isAggT
        rw [hd] at hbig ⊢
        cases d <;> first | rfl | cases hbig
      cases hn : sizeT P t with
      | none => rw [hn] at hh; exact hh.elim
      | some n =>
        rw [hn] at hh
        obtain ⟨cs, h1, h2⟩ := hh
        refine ⟨_, fun w hw => ?_, h2⟩
        unfold loadVar loadCells
        simp only [Sem.run_bind, run_isAgg hd, Result.andThen_ok, hagg, if_true, run_sizeOf hn]
        rw [hcells_sound n 0 cs #[] h1 w hw]
        simp
    | false =>
    simp only [hbig] at hh
    cases hagg : isAggT P t with
    | true =>
      simp only [hagg, if_true] at hh
      cases hk : flatK P 20 t with
      | none => rw [hk] at hh; exact hh.elim
      | some ks => cases hn : sizeT P t with
        | none => rw [hk, hn] at hh; exact hh.elim
        | some n =>
          rw [hk, hn] at hh
          by_cases hlen : ks.length = n
          · simp only [hlen, if_true] at hh
            obtain ⟨cs, h1, h2⟩ := ldCells_sound _ _ _ _ hh
            refine ⟨.agg cs, fun w hw => ?_, h2⟩
            unfold loadVar loadCells
            simp only [Sem.run_bind, run_isAgg hd, Result.andThen_ok, hagg, if_true, run_sizeOf hn]
            rw [← hlen, h1 w hw]
            rfl
          · simp only [hlen, if_false] at hh; exact hh.elim
    | false =>
      simp only [hagg, Bool.false_eq_true, if_false] at hh
      obtain ⟨v, h1, h2⟩ := ld1_sound hh
      refine ⟨v, fun w hw => ?_, h2⟩
      unfold loadVar
      simp only [Sem.run_bind, run_isAgg hd, Result.andThen_ok, hagg, Bool.false_eq_true, if_false]
      exact run_load_some (hw ▸ h1)
theorem hset_cell_isSome (h : Hp) (a b : Addr) (v : Value) : (hcell (hset h a v) b).isSome = (hcell h b).isSome := by
  simp only [hset, hcell, Array.getElem?_modify]
  by_cases hb : a.block = b.block
  · simp only [hb, if_true]
    cases hh : h[b.block]? with
    | none => simp
    | some x =>
      cases x <;> simp
      cases hsb : b.spot with
      | some _ => simp
      | none =>
        cases hsa : a.spot with
        | some _ => simp
        | none => simp; grind
  · simp [hb]
theorem hset_frozen (h : Hp) (a b : Addr) (v : Value) : hfrozen (hset h a v) b = hfrozen h b := by
  simp only [hset, hfrozen, Array.getElem?_modify]
  by_cases hb : a.block = b.block
  · simp only [hb, if_true]
    cases hh : h[b.block]? with
    | none => simp
    | some x => cases x <;> simp
  · simp [hb]
theorem stCells_sound {a : Addr} {Q : α → Hp → Prop} : ∀ (vs : List Value) (i : Nat) (k : M α) (h : Hp), stCells a vs i k h Q →
    ∃ h', (∀ w : World, w.heap = h → (storeCells a vs i).run P w = .ok () { w with heap := h' }) ∧ k h' Q
  | [], i, k, h, hh => ⟨h, fun w hw => by rw [storeCells]; subst hw; rfl, hh⟩
  | v :: vs, i, k, h, hh => by
    obtain ⟨h1, h2, h3, h4⟩ := hh
    obtain ⟨h', h5, h6⟩ := stCells_sound vs (i + 1) k _ h4
    refine ⟨h', fun w hw => ?_, h6⟩
    rw [storeCells, Sem.run_bind, run_store_ok h1 (hw ▸ h2) (hw ▸ h3), Result.andThen_ok]
    rw [h5 { w with heap := hset w.heap (a.add i) v } (by rw [hw])]
theorem run_storeVar {t : TypeId} {a : Addr} {v : Value} {n : Nat} {w w' : World} (hn : sizeT P t = some n) (hv : v.cells.toList.length = n) (h : (storeCells a v.cells.toList).run P w = .ok () w') : (storeVar t a v).run P w = .ok () w' := by
  unfold storeVar
  have : v.cells.size = n := by simpa using hv
  simp only [Sem.run_bind, run_sizeOf hn, Result.andThen_ok, this, ne_eq, not_true, if_false, h]
theorem slcells_sound {s : Sl} {n sz : Nat} {h : Hp} {vs : List Value} (hh : slcells h s n sz = some vs) (w : World) (hw : w.heap = h) : (Builtin.firstCells sz n (.slice s.p s.n s.c)).run P w = .ok vs.toArray w := by
  unfold slcells at hh
  cases hp : s.p with
  | none => simp only [hp, Option.some.injEq] at hh; subst hh; rfl
  | some a =>
    simp only [hp] at hh
    unfold Builtin.firstCells loadCells
    rw [hcells_sound _ _ _ _ hh w hw]
    simp
theorem hfree_sound {a : Addr} : ∀ (vs : List Value) (i : Nat) (h : Hp), (∀ v ∈ vs, v.oneCell' = true) → hfree h a i vs.length → ∀ w : World, w.heap = h → (storeCells a vs i).run P w = .ok () { w with heap := hsets h a i vs }
  | [], i, h, _, _, w, hw => by rw [storeCells, hsets]; subst hw; rfl
  | v :: vs, i, h, hv, hf, w, hw => by
    have h0 := hf i (Nat.le_refl _) (by simp)
    rw [storeCells, Sem.run_bind, run_store_ok (hv v (by simp)) (hw ▸ h0.1) (hw ▸ h0.2), Result.andThen_ok]
    rw [hfree_sound vs (i + 1) (hset h (a.add i) v) (fun u hu => hv u (by simp [hu])) (fun j h1 h2 => ?_) { w with heap := hset w.heap (a.add i) v } (by rw [hw])]
    · rfl
    · rw [hset_cell_isSome, hset_frozen]
      exact hf j (by omega) (by simp at *; omega)
theorem run_sliceBound {v : Value} {k : IntKind} {i : Int} {y : Nat} {c : BoundsCode} (hv : v = .int k i) (h0 : 0 ≤ i) (h1 : i ≤ y) (w : World) : (Instr.sliceBound v y c).run P w = .ok i.toNat w := by
  subst hv
  unfold Instr.sliceBound
  simp [asIntOf, h0, h1]
theorem mRow_eq (z : Array Value) (n m : Nat) (h : n = m * z.size) : ((Array.range n).map (z[· % z.size]!)) = mRow z m := by
  subst h; rfl
theorem zeroCells_eq (z : Array Value) (n : Nat) : Builtin.zeroCells z n = mRow z n := rfl
end mem
end Go.Sb
