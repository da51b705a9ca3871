/- The small logic is sound: pure operations. Conditions: none. -/
import Derived.Test.YtbpnpmknamghkaaSbE
namespace Go.Sb
open Go

theorem foldl_setCells (off : Nat) : ∀ (vs : List Value) (k : Nat) (cs : Array Value), (List.foldl (fun (cs : Array Value) (x : Value × Nat) => cs.setIfInBounds (off + x.2) x.1) cs (vs.zipIdx k)).toList = setCells cs.toList (off + k) vs
  | [], k, cs => by simp [setCells]
  | v :: vs, k, cs => by
    rw [List.zipIdx_cons, List.foldl_cons, foldl_setCells off vs (k + 1), setCells]
    simp [Nat.add_assoc]
theorem fill_eq (place : Nat → Option (Nat × Nat)) : ∀ (parts : List (Nat × Value)) (cells : Array Value), Instr.fill place cells parts = (fillL place cells.toList parts).map List.toArray
  | [], cells => by simp [Instr.fill, fillL]
  | (i, v) :: rest, cells => by
    rw [Instr.fill, fillL]
    cases hp : place i with
    | none => simp
    | some x =>
      obtain ⟨off, size⟩ := x
      simp only []
      by_cases hc : v.cells.toList.length = size ∧ off + v.cells.toList.length ≤ cells.toList.length
      · rw [if_pos hc, if_neg (by simp at hc ⊢; omega), fill_eq place rest]
        congr 2
        have := foldl_setCells off v.cells.toList 0 cells
        rw [Nat.add_zero] at this
        rw [← this, ← Array.foldl_toList, Array.toList_zipIdx]
      · rw [if_neg hc, if_pos (by simp at hc ⊢; omega)]; rfl

section pur
variable {P : Program}
theorem run_places : ∀ (fs : List Field) (pl : List (Nat × Nat)) (w : World), fieldPlaces P fs = some pl → (fs.mapM fun f => (do pure (f.offset, ← sizeOf f.type) : Sem (Nat × Nat))).run P w = .ok pl w
  | [], pl, w, h => by simp [fieldPlaces] at h; subst h; simp
  | f :: fs, pl, w, h => by
    simp only [fieldPlaces] at h
    split at h
    · rename_i n l hn hl
      cases h
      rw [List.mapM_cons]
      simp only [Sem.run_bind, run_sizeOf hn, Result.andThen_ok, Sem.run_pure, run_places fs l w hl]
    · cases h
theorem run_placesA {fs : Array Field} {pl : List (Nat × Nat)} (w : World) (h : fieldPlaces P fs.toList = some pl) : (fs.mapM fun f => (do pure (f.offset, ← sizeOf f.type) : Sem (Nat × Nat))).run P w = .ok pl.toArray w := by
  rw [Array.mapM_eq_mapM_toList]
  simp only [Sem.run_map, run_places _ _ w h, Result.andThen_ok]

theorem run_build_struct {t : TypeId} {fs : Array Field} {z : Value} {pl : List (Nat × Nat)} {ps : Array (Nat × Value)} {cs : List Value} (hu : P.underlying t = some (.struct fs)) (hz : zeroT P t = some z)
    (hp : fieldPlaces P fs.toList = some pl) (hf : fillL (fun i => pl[i]?) z.cells.toList ps.toList = some cs) (w : World) : (Instr.build t ps).run P w = .ok (.agg cs.toArray) w := by
  unfold Instr.build
  have : (fun i : Nat => pl.toArray[i]?) = fun i : Nat => pl[i]? := by funext i; simp
  simp only [Sem.run_bind, run_zeroValue hz, Result.andThen_ok, run_underlying hu, run_placesA w hp, fill_eq, this, hf, Option.map_some, Sem.run_pure]
theorem run_build_array {t e : TypeId} {m n : Nat} {z : Value} {ps : Array (Nat × Value)} {cs : List Value} (hu : P.underlying t = some (.array m e)) (hz : zeroT P t = some z)
    (hs : sizeT P e = some n) (hf : fillL (fun i => some (i * n, n)) z.cells.toList ps.toList = some cs) (w : World) : (Instr.build t ps).run P w = .ok (.agg cs.toArray) w := by
  unfold Instr.build
  simp only [Sem.run_bind, run_zeroValue hz, Result.andThen_ok, run_underlying hu, run_sizeOf hs, fill_eq, hf, Option.map_some, Sem.run_pure]

theorem run_maxs (w : World) : ∀ (vs : List Value) (k : IntKind) (x : Int) (l : List (IntKind × Int)), intsOf vs = some l → (vs.foldlM Builtin.max2 (.int k x)).run P w = .ok (maxOf k x l) w
  | [], k, x, l, h => by simp [intsOf] at h; subst h; simp [maxOf]
  | .int k' y :: vs, k, x, l, h => by
    simp only [intsOf] at h
    split at h
    · rename_i l' hl; cases h
      rw [List.foldlM_cons, Sem.run_bind, Builtin.max2, Sem.run_pure, Result.andThen_ok, run_maxs w vs _ _ _ hl, maxOf]
    · cases h
theorem run_mins (w : World) : ∀ (vs : List Value) (k : IntKind) (x : Int) (l : List (IntKind × Int)), intsOf vs = some l → (vs.foldlM Builtin.min2 (.int k x)).run P w = .ok (minOf k x l) w
  | [], k, x, l, h => by simp [intsOf] at h; subst h; simp [minOf]
  | .int k' y :: vs, k, x, l, h => by
    simp only [intsOf] at h
    split at h
    · rename_i l' hl; cases h
      rw [List.foldlM_cons, Sem.run_bind, Builtin.min2, Sem.run_pure, Result.andThen_ok, run_mins w vs _ _ _ hl, minOf]
    · cases h

theorem pureOp_sound {env : Env} {o : Oper} {v : Value} (h : pureOp P env o = some v) {a : Act} (ha : Ag env a) (w : World) : (execOp a.eval o).run P w = .ok (.value v) w := by
  obtain ⟨dst, op, type, pos, after, guard⟩ := o
  cases op <;> simp only [pureOp, reduceCtorEq] at h
  case move x => simp [execOp, ha.eval h]
  case assign x => simp [execOp, ha.eval h]
  case pick c x y =>
    split at h
    · rename_i hc hx hy
      cases h
      rename_i c' x' y'
      simp only [execOp, ha.eval hc, ha.eval hx, ha.eval hy]
      cases c' <;> rfl
    · cases h
  case build t parts =>
    split at h
    · rename_i fs z ps hu hz hps
      split at h
      · rename_i pl hpl
        split at h
        · rename_i cs hcs
          cases h
          simp only [execOp]
          refine Sem.run_value _ w (run_build_struct hu hz hpl ?_ w)
          rw [Array.toList_map, opdParts_map ha _ _ hps]; exact hcs
        · cases h
      · cases h
    · rename_i m e z ps hu hz hps
      split at h
      · rename_i n hn
        split at h
        · rename_i cs hcs
          cases h
          simp only [execOp]
          refine Sem.run_value _ w (run_build_array hu hz hn ?_ w)
          rw [Array.toList_map, opdParts_map ha _ _ hps]; exact hcs
        · cases h
      · cases h
    · cases h
  case binOp op t x y yt =>
    split at h
    · rename_i vx vy hx hy
      simp only [execOp, ha.eval hx, ha.eval hy]
      refine Sem.run_value _ w (pureBin_sound h ?_ w)
      rintro c rfl
      simpa [opd] using hy
    · cases h
  case unOp op t x =>
    split at h
    · rename_i b hx; cases h; simp [execOp, ha.eval hx, Op.unary]
    · rename_i k n hx; cases h; simp [execOp, ha.eval hx, Op.unary, Op.intArith]
    · cases h
  case convert s d x =>
    split at h
    · rename_i ds k k' n hs hu hx
      cases h
      simp only [execOp, ha.eval hx]
      refine Sem.run_value _ w ?_
      unfold convert
      simp only [Sem.run_bind, run_underlying hs, run_underlying hu, Result.andThen_ok]
      rfl
    · cases h
  case makeFunc fn first captured =>
    split at h
    · rename_i x y hx hy
      cases h
      simp only [execOp, opds_arr ha hx, opds_arr ha hy]
      rfl
    · cases h
  case field t x f =>
    split at h
    · rename_i fs cs hu hx
      split at h
      · rename_i g hg
        split at h
        · rename_i d n hd hn
          have hgg : fs[f]? = some g := by rw [← Array.getElem?_toList]; exact hg
          simp only [execOp, ha.eval hx]
          refine Sem.run_value _ w ?_
          unfold Instr.field part
          simp only [Sem.run_bind, run_underlying hu, Result.andThen_ok, hgg, asAgg, Sem.run_pure, run_isAgg hd]
          split at h
          · rename_i hagg
            cases h
            simp only [hagg, if_true, Sem.run_bind, run_sizeOf hn, Result.andThen_ok, Sem.run_pure]
            congr 2
            apply Array.ext'
            simp
          · rename_i hagg
            simp only [hagg, if_false, Bool.false_eq_true]
            rw [Array.getElem?_toList] at h
            rw [h]
            rfl
        · cases h
      · cases h
    · cases h
  case extract t i =>
    split at h
    · rename_i vs hx
      rw [Array.getElem?_toList] at h
      simp [execOp, ha.eval hx, Instr.extract, h]
    · cases h
  case call c =>
    obtain ⟨callee, args, argTypes⟩ := c
    cases callee <;> simp only [reduceCtorEq] at h
    rename_i b
    have key : ∀ vs, opds env args.toList = some vs → args.map a.eval = vs.toArray := fun vs hv => opds_arr ha hv
    have hat : ∀ t ts, argTypes.toList = t :: ts → argTypes[0]? = some t := fun t ts he => by rw [← Array.getElem?_toList, he]; rfl
    simp only [execOp, resolve, Sem.run_bind, Sem.run_pure, Result.andThen_ok, invoke]
    split at h
    · rename_i b' q n c t ts hargs hts
      split at h
      · rename_i e hu
        cases h
        simp only [builtin]
        refine Sem.run_value _ w ?_
        rw [key _ hargs]
        simp only [Builtin.len_, hat _ _ hts, List.getElem?_toArray, List.getElem?_cons_zero, Sem.run_bind, run_underlying hu, Result.andThen_ok]
        rfl
      · cases h
    · rename_i b' s t ts hargs hts
      split at h
      · rename_i hu
        cases h
        simp only [builtin]
        refine Sem.run_value _ w ?_
        rw [key _ hargs]
        simp only [Builtin.len_, hat _ _ hts, List.getElem?_toArray, List.getElem?_cons_zero, Sem.run_bind, run_underlying hu, Result.andThen_ok]
        rfl
      · cases h
    · rename_i b' v vs t ts _ _ hargs hts
      split at h
      · rename_i n e hu
        cases h
        simp only [builtin]
        refine Sem.run_value _ w ?_
        rw [key _ hargs]
        simp only [Builtin.len_, hat _ _ hts, List.getElem?_toArray, List.getElem?_cons_zero, Sem.run_bind, run_underlying hu, Result.andThen_ok]
        rfl
      · cases h
    · rename_i b' k x vs hargs
      split at h
      · rename_i l hl
        cases h
        simp only [builtin]
        refine Sem.run_value _ w ?_
        rw [key _ hargs]
        simp only [Builtin.max_]
        exact run_maxs w vs k x l hl
      · cases h
    · rename_i b' k x vs hargs
      split at h
      · rename_i l hl
        cases h
        simp only [builtin]
        refine Sem.run_value _ w ?_
        rw [key _ hargs]
        simp only [Builtin.min_]
        exact run_mins w vs k x l hl
      · cases h
    · cases h
end pur
end Go.Sb
