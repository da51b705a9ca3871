/- The small logic is sound: whole frames; what a call comes to is what the evaluator says of its body. Conditions: none. -/
import Derived.Test.YtbpnpmknamghkaaSbL
namespace Go.Sb
open Go

section whole
variable {P : Program}
theorem goes_ordered (ops : Array Oper) (Qx : Exit → Act → World → Prop) : Goes P ops (fun _ env o kk => evOp P env o kk) (wpOps P ops Qx) where
  skip {i is o a w} ho hw h := by
    rw [wpOps_cons]; unfold wpOp; simp only [ho, hw, Bool.false_eq_true, if_false]; exact h
  value {i is o a w v} ho hw hr h := by
    rw [wpOps_cons]; unfold wpOp; simp only [ho, hw, if_true]; exact .inl (wp_val (hr w) h)
  step {i is o a w β env kk Q} ho hw hev ha hn := by
    rw [wpOps_cons]; unfold wpOp; simp only [ho, hw, if_true]; exact .inl (evOp_sound hev ha hn)

/-- the worlds that differ from this one in draws alone -/
def Alike (w : World) (w' : World) : Prop := w'.heap = w.heap ∧ Kept w w'

theorem evOpQ_sound {w0 : World} {β : Type} {env : Env} {o : Oper} {kk : Value → M β} {Q : β → Hp → Prop} {a : Act} (hev : evOpQ P β env o kk w0.heap Q) (ha : Ag env a) :
    ∃ v, (∀ w, Alike w0 w → o.quietAt P a (Alike w0) w v) ∧ kk v w0.heap Q := by
  have hval : ∀ v, (∀ w : World, w.heap = w0.heap → (execOp a.eval o).run P w = .ok (.value v) w) → ∀ w, Alike w0 w → o.quietAt P a (Alike w0) w v := by
    intro v hv w hw
    unfold Oper.quietAt
    rw [hv w hw.1]
    exact ⟨rfl, rfl⟩
  unfold evOpQ at hev
  cases hp : pureOp P env o with
  | some v =>
    rw [hp] at hev
    exact ⟨v, hval v fun w _ => pureOp_sound hp ha w, hev⟩
  | none =>
    rw [hp] at hev
    clear hp
    obtain ⟨dst, op, type, pos, after, guard⟩ := o
    have gen : ∀ op', op = op' → (match quietKind op' with
      | true => evOp P env ⟨dst, op, type, pos, after, guard⟩ kk
      | false => mFail) w0.heap Q → ∃ v, (∀ w, Alike w0 w → Oper.quietAt P ⟨dst, op, type, pos, after, guard⟩ a (Alike w0) w v) ∧ kk v w0.heap Q := by
      intro op' he hh
      subst he
      cases hq : quietKind op with
      | false => rw [hq] at hh; exact hh.elim
      | true =>
        rw [hq] at hh
        obtain ⟨v, h1, h2⟩ := evOp_quiet hh ha hq
        exact ⟨v, hval v fun w hw => h1 w fun _ => hw, h2⟩
    cases op <;> first | exact gen _ rfl hev | skip
    rename_i c
    obtain ⟨callee, args, argTypes⟩ := c
    cases callee <;> first | exact gen _ rfl hev | skip
    rename_i f
    generalize hm : (match opd env f, opds env args.toList with
      | some (.func (.func g) first cap), some vs => mCallQ P g (first ++ vs.toArray ++ cap) fun v => unR P type v kk
      | _, _ => mFail) = m at *
    have hev : m w0.heap Q := by rw [← hm]; exact hev
    split at hm <;> first | (subst hm; exact hev.elim) | skip
    rename_i g first cap vs hf hvs
    subst hm
    obtain ⟨v, h1, h2⟩ := hev
    rcases h1 with h1 | ⟨v', h1, rfl, -⟩ | h1
    · refine ⟨v, fun w hw => ?_, unR_sound h2⟩
      unfold Oper.quietAt
      have hrun : (execOp a.eval ⟨dst, .call ⟨.value f, args, argTypes⟩, type, pos, after, guard⟩).run P w = .ok (.enter g (first ++ vs.toArray ++ cap)) w := by
        simp only [execOp, resolve, ha.eval hf, opds_arr ha hvs, Deferred.ofValue, Sem.run_bind, Sem.run_pure, Result.andThen_ok, invoke]
        exact h1.1 _ w
      rw [hrun]
      refine ⟨rfl, (h1.2 w hw.1).mono ?_⟩
      rintro e w' ⟨u, rfl, hk, rfl, hh⟩
      exact ⟨rfl, hh, hw.2.trans hk⟩
    · refine ⟨v', fun w hw => ?_, unR_sound h2⟩
      unfold Oper.quietAt
      have hrun : (execOp a.eval ⟨dst, .call ⟨.value f, args, argTypes⟩, type, pos, after, guard⟩).run P w = .ok (.value v') w := by
        simp only [execOp, resolve, ha.eval hf, opds_arr ha hvs, Deferred.ofValue, Sem.run_bind, Sem.run_pure, Result.andThen_ok, invoke]
        exact h1 w hw.1
      rw [hrun]
      exact ⟨rfl, rfl⟩
    · obtain ⟨_, w', _, _, h4, _, h5⟩ := h1 w0 rfl
      rw [h5] at h4
      exact absurd h4 (Nat.lt_irrefl _)
theorem goes_quiet (ops : Array Oper) (w0 : World) (Qf : Act → Prop) :
    Goes P ops (evOpQ P) (fun is a w => Alike w0 w → wpQuiet P ops (Alike w0) Qf (is.filterMap fun i => ops[i]?) a) where
  skip {i is o a w} ho hw h := by
    intro hA
    simp only [List.filterMap_cons, ho]
    unfold wpQuiet
    simp only [hw, Bool.false_eq_true, if_false]
    exact h hA
  value {i is o a w v} ho hw hr h := by
    intro hA
    simp only [List.filterMap_cons, ho]
    unfold wpQuiet
    simp only [hw, if_true]
    exact ⟨v, fun w' hw' => by unfold Oper.quietAt; rw [hr w']; exact ⟨rfl, rfl⟩, h hA⟩
  step {i is o a w β env kk Q} ho hw hev ha hn := by
    intro hA
    simp only [List.filterMap_cons, ho]
    unfold wpQuiet
    simp only [hw, if_true]
    rw [hA.1] at hev
    obtain ⟨v, h1, h2⟩ := evOpQ_sound (w0 := w0) hev ha
    exact ⟨v, h1, hn v w (.refl w) (hA.1 ▸ h2) hA⟩

theorem map_range (ops : Array Oper) : (List.range ops.size).map (fun i => ops[i]?) = ops.toList.map some := by
  apply List.ext_getElem (by simp)
  intro i h1 h2
  simp at h1 h2 ⊢
theorem filter_range (ops : Array Oper) : (List.range ops.size).filterMap (fun i => ops[i]?) = ops.toList := by
  have h : (List.range ops.size).filterMap (fun i => ops[i]?) = ((List.range ops.size).map (fun i => ops[i]?)).filterMap id := by
    rw [List.filterMap_map]; rfl
  rw [h, map_range]
  simp

theorem retVals_sound {env : Env} {a : Act} {h : Hp} {Q : Value → Hp → Prop} (ha : Ag env a) {g : ResultVar → Sem Value} (hg : ∀ t, g (.tmp t) = pure (a.tmps.getD t undef)) (hg' : ∀ x t, g (.cell x t) = do loadVar t (← asAddr (a.tmps.getD x undef))) :
    ∀ (rs : List ResultVar) (acc : List Value) (k : List Value → M Value), retVals P env rs acc k h Q → ∃ vs, (∀ w : World, w.heap = h → (rs.mapM g).run P w = .ok vs w) ∧ k (acc ++ vs) h Q
  | [], acc, k, hh => ⟨[], fun w _ => by simp, by rw [List.append_nil]; exact hh⟩
  | .tmp t :: rs, acc, k, hh => by
    simp only [retVals] at hh
    cases hl : look env t with
    | none => rw [hl] at hh; exact hh.elim
    | some v =>
      rw [hl] at hh
      obtain ⟨vs, h1, h2⟩ := retVals_sound ha hg hg' rs _ k hh
      refine ⟨v :: vs, fun w hw => ?_, by simpa using h2⟩
      rw [List.mapM_cons, hg]
      have : a.tmps.getD t undef = v := by simp [ha.at_ _ _ hl]
      simp only [this, Sem.run_bind, Sem.run_pure, Result.andThen_ok, h1 w hw]
  | .cell x t :: rs, acc, k, hh => by
    simp only [retVals] at hh
    cases hl : look env x with
    | none => rw [hl] at hh; exact hh.elim
    | some v =>
      rw [hl] at hh
      cases v <;> first | exact hh.elim | skip
      rename_i p
      cases p with
      | none => exact hh.elim
      | some ad =>
        have hh : ldT P t ad (fun v => retVals P env rs (acc ++ [v]) k) h Q := hh
        obtain ⟨v, h3, h4⟩ := ldT_sound hh
        obtain ⟨vs, h1, h2⟩ := retVals_sound ha hg hg' rs _ k h4
        refine ⟨v :: vs, fun w hw => ?_, by simpa using h2⟩
        rw [List.mapM_cons, hg']
        have : a.tmps.getD x undef = .pointer (some ad) := by simp [ha.at_ _ _ hl]
        simp only [this, asAddr, Sem.run_bind, Sem.run_pure, Result.andThen_ok, h3 w hw, h1 w hw]
theorem retV_sound {env : Env} {a : Act} {w : World} {fn : Func} {Q : Value → Hp → Prop} (ha : Ag env a) (h : retV P env fn.results.toList w.heap Q) : ∃ v, (results fn a.tmps).run P w = .ok v w ∧ Q v w.heap := by
  unfold retV at h
  obtain ⟨vs, h1, h2⟩ := retVals_sound (g := fun
    | .tmp t => pure (a.tmps.getD t undef)
    | .cell x t => do loadVar t (← asAddr (a.tmps.getD x undef))) ha (fun _ => rfl) (fun _ _ => rfl) _ _ _ h
  rw [List.nil_append] at h2
  have hres : (results fn a.tmps).run P w = .ok (if h : vs.toArray.size = 1 then vs.toArray[0] else .tuple vs.toArray) w := by
    unfold results
    rw [Array.mapM_eq_mapM_toList]
    simp only [Sem.run_bind, Sem.run_map]
    have := h1 w rfl
    erw [this]
    rfl
  match vs, h2, hres with
  | [], h, hres => exact ⟨_, hres, h⟩
  | [v], h, hres => exact ⟨_, hres, h⟩
  | v :: u :: vs, h, hres =>
    refine ⟨_, hres, ?_⟩
    rw [dif_neg (by simp)]
    exact h
end whole
end Go.Sb
