/- The small logic is sound: operations without memory. Conditions: none. -/
import Derived.Test.YtbpnpmknamghkaaSbD
import Derived.Laws.StructEq
namespace Go.Sb
open Go

section pur
variable {P : Program}

theorem Sem.run_value (s : Sem Value) (w : World) {v : Value} {w' : World} (h : s.run P w = .ok v w') : (do pure (Next.value (← s)) : Sem Next).run P w = .ok (.value v) w' := by
  rw [Sem.run_bind, h]; rfl

theorem pureInt_sound {op : BinOp} {k : IntKind} {x y : Int} {v : Value} (h : pureInt op k x y = some v) (t : TypeId) (w : World) : (binOp op t (.int k x) (.int k y)).run P w = .ok v w := by
  cases op <;> simp [pureInt] at h <;> subst h <;> simp [binOp, Op.intArith, Op.intBits, Op.intCmp]
theorem pureStr_sound {op : BinOp} {x y : ByteArray} {v : Value} (h : pureStr op x y = some v) (t : TypeId) (w : World) : (binOp op t (.string x) (.string y)).run P w = .ok v w := by
  cases op <;> simp only [pureStr, Option.some.injEq, reduceCtorEq] at h <;> subst h <;> simp [binOp, Op.stringOp]

theorem eqGuard_scalar {op : BinOp} {t : TypeId} {x y : Operand} {a b : Value} (h1 : a ≠ .nilIface) (h2 : ∀ cs, a ≠ .agg cs) (w : World) : (eqGuard op t x y a b).run P w = .ok () w := by
  unfold eqGuard
  cases op <;> simp
  all_goals (cases a <;> first | rfl | (exact absurd rfl h1) | (exact absurd rfl (h2 _)))

theorem equal_bool {t : TypeId} {a b : Bool} (h : P.underlying t = some .bool) (w : World) : (Op.equal t (.bool a) (.bool b)).run P w = .ok (a == b) w := by
  unfold Op.equal
  rw [show Op.maxDepth = 9999 + 1 from rfl, Op.equalIn, Sem.run_bind, run_underlying h]
  rfl
theorem equal_ptr {t e : TypeId} {p : Option Addr} (h : P.underlying t = some (.pointer e)) (w : World) : (Op.equal t (.pointer p) (.pointer none)).run P w = .ok p.isNone w := by
  unfold Op.equal
  rw [show Op.maxDepth = 9999 + 1 from rfl, Op.equalIn, Sem.run_bind, run_underlying h]
  cases p <;> rfl
theorem equal_slice {t e : TypeId} {p : Option Addr} {n c m d : Nat} (h : P.underlying t = some (.slice e)) (w : World) : (Op.equal t (.slice p n c) (.slice none m d)).run P w = .ok p.isNone w := by
  unfold Op.equal
  rw [show Op.maxDepth = 9999 + 1 from rfl, Op.equalIn, Sem.run_bind, run_underlying h]
  cases p <;> rfl
theorem partV_sound {t : TypeId} {xs : Array Value} {off : Nat} {v : Value} (h : partV P t xs.toList off = some v) (w : World) : (part t xs off).run P w = .ok v w := by
  unfold partV at h
  cases hu : P.underlying t with
  | none => simp [hu] at h
  | some d =>
    cases hn : sizeT P t with
    | none => simp [hu, hn] at h
    | some n =>
      simp only [hu, hn] at h
      unfold part
      simp only [Sem.run_bind, run_isAgg hu, Result.andThen_ok]
      cases hagg : isAggT P t with
      | true =>
        simp only [hagg, Option.some.injEq] at h
        subst h
        simp only [if_true, Sem.run_bind, run_sizeOf hn, Result.andThen_ok, Sem.run_pure]
        congr 2
        apply Array.ext'
        simp
      | false =>
        simp only [hagg] at h
        rw [Array.getElem?_toList] at h
        simp only [Bool.false_eq_true, if_false, h]
        rfl
theorem eqFs_sound {e : TypeId → Value → Value → Option Bool} {D : Nat} (w : World) (he : ∀ t x y b, e t x y = some b → (Op.equalIn D t x y).run P w = .ok b w) (xs ys : Array Value) :
    ∀ (fs : List Field) (b : Bool), eqFs P e xs.toList ys.toList fs = some b → (Op.eqFields D xs ys fs).run P w = .ok b w
  | [], b, h => by simp only [eqFs, Option.some.injEq] at h; subst h; rfl
  | f :: fs, b, h => by
    unfold eqFs at h
    cases hn : f.name == "_" with
    | true => simp [hn] at h
    | false =>
      simp only [hn] at h
      cases ha : partV P f.type xs.toList f.offset with
      | none => simp [ha] at h
      | some va =>
        cases hb : partV P f.type ys.toList f.offset with
        | none => simp [ha, hb] at h
        | some vb =>
          simp only [ha, hb] at h
          cases hr : e f.type va vb with
          | none => simp [hr] at h
          | some r =>
            cases hs : eqFs P e xs.toList ys.toList fs with
            | none => simp [hr, hs] at h
            | some s =>
              simp only [hr, hs, Option.some.injEq] at h
              subst h
              unfold Op.eqFields
              have hne : f.name ≠ "_" := by simpa using hn
              simp only [hne, ne_eq, not_false_eq_true, if_true, Sem.run_bind, partV_sound ha, partV_sound hb, Result.andThen_ok, he _ _ _ _ hr]
              cases r
              · rfl
              · simp only [Bool.not_true, Bool.false_eq_true, if_false, Bool.true_and]
                exact eqFs_sound w he xs ys fs s hs
theorem eqV_sound (w : World) : ∀ (d D : Nat) (t : TypeId) (x y : Value) (b : Bool), d ≤ D → eqV P d t x y = some b → (Op.equalIn D t x y).run P w = .ok b w
  | 0, D, t, x, y, b, _, h => by simp [eqV] at h
  | d + 1, D, t, x, y, b, hD, h => by
    obtain ⟨D, rfl⟩ : ∃ m, D = m + 1 := ⟨D - 1, by omega⟩
    unfold eqV at h
    split at h
    · rename_i k' k a k2 b' hu
      split at h
      · rename_i hk; subst hk; cases h; exact run_equalIn_int w D t _ k' _ _ hu
      · cases h
    · rename_i a b' hu; cases h; exact run_equalIn_bool' w D t _ _ hu
    · rename_i a b' hu; cases h; exact run_equalIn_string w D t _ _ hu
    · rename_i fs xs ys hu
      split at h
      · cases h
      · rename_i hst
        have hf : P.fieldsOf t = fs := by simp [Program.fieldsOf, hu]
        rw [run_equalIn_struct w D t xs ys (by rw [hf]; exact hu) hst, hf]
        exact eqFs_sound w (fun t x y b hb => eqV_sound w d D t x y b (by omega) hb) xs ys fs.toList b h
    · cases h
theorem isNilPtr_spec {y : Operand} (h : isNilPtr y = true) : y = .const (.pointer none) := by
  unfold isNilPtr at h
  split at h
  · rfl
  · cases h
theorem isNilSlice_spec {y : Operand} (h : isNilSlice y = true) : ∃ n c, y = .const (.slice none n c) := by
  unfold isNilSlice at h
  split at h
  · exact ⟨_, _, rfl⟩
  · cases h

theorem pureBin_sound {op : BinOp} {t : TypeId} {x y : Operand} {vx vy v : Value} (h : pureBin P op t y vx vy = some v) (hy : ∀ c, y = .const c → c = vy) (w : World) :
    ((do eqGuard op t x y vx vy; binOp op t vx vy) : Sem Value).run P w = .ok v w := by
  by_cases hagg : ∃ xs ys, vx = .agg xs ∧ vy = .agg ys
  · obtain ⟨xs, ys, rfl, rfl⟩ := hagg
    simp only [pureBin] at h
    split at h
    · rename_i b hgt hb
      cases h
      rw [Sem.run_bind, run_eqGuard_agg w _ _ _ _ _ _ hgt, Result.andThen_ok, run_eql_struct, eqV_sound w 20 10000 t _ _ b (by omega) hb]
      rfl
    · rename_i b hgt hb
      cases h
      rw [Sem.run_bind, run_eqGuard_agg w _ _ _ _ _ _ hgt, Result.andThen_ok, run_neq_struct, eqV_sound w 20 10000 t _ _ b (by omega) hb]
      rfl
    · cases h
  have hg : (eqGuard op t x y vx vy).run P w = .ok () w := by
    refine eqGuard_scalar ?_ ?_ w
    · rintro rfl; cases vy <;> simp [pureBin] at h
    · rintro cs rfl; cases vy <;> first | (simp [pureBin] at h; done) | exact hagg ⟨_, _, rfl, rfl⟩
  rw [Sem.run_bind, hg, Result.andThen_ok]
  unfold pureBin at h
  split at h
  · rename_i k a k' b
    split at h
    · rename_i hk; subst hk; exact pureInt_sound h t w
    · cases h
  · rename_i a b
    split at h
    · rename_i hu; cases h; simp [binOp, equal_bool hu]
    · rename_i hu; cases h; simp [binOp, equal_bool hu]
    · cases h
  · rename_i a b; exact pureStr_sound h t w
  · rename_i p vy'
    split at h
    all_goals first | (cases h; done) | skip
    all_goals
      rename_i hn hu
      cases h
      have hyc := isNilPtr_spec hn
      have := hy _ hyc; subst this
      simp [binOp, equal_ptr hu]
  · rename_i p n c vy'
    split at h
    all_goals first | (cases h; done) | skip
    all_goals
      rename_i hn hu
      cases h
      obtain ⟨_, _, hyc⟩ := isNilSlice_spec hn
      have := hy _ hyc; subst this
      simp [binOp, equal_slice hu]
  · exact absurd ⟨_, _, rfl, rfl⟩ hagg
  · cases h
end pur
end Go.Sb
