/- The small logic is sound: whole regions. Conditions: none. -/
import Derived.Test.YtbpnpmknamghkaaSbK
namespace Go.Sb
open Go

section goes
variable {P : Program} {ops : Array Oper} {step : (β : Type) → Env → Oper → (Value → M β) → M β} {X : List Nat → Act → World → Prop}

theorem pickOf_eq {want : Bool} {c : Nat} {op : Op} {x : Operand} (h : pickOf want c op = some x) :
    (want = true ∧ op = .pick (.tmp c) x (.const (.bool false))) ∨ (want = false ∧ op = .pick (.tmp c) (.const (.bool true)) x) := by
  unfold pickOf at h
  split at h
  · rename_i c' a b
    split at h
    · rename_i x' hc
      cases h
      simp only [beq_iff_eq] at hc
      exact .inl ⟨rfl, by rw [hc]⟩
    · rename_i x' hc
      cases h
      simp only [beq_iff_eq] at hc
      exact .inr ⟨rfl, by rw [hc]⟩
    · cases h
  · cases h
/-- the choice behind a guarded part -/
theorem pick_value {want b r : Bool} {c : Nat} {o : Oper} {x : Operand} {a : Act} (hp : pickOf want c o.op = some x) (hc : a.tmps[c]? = some (.bool b)) (hr : (b = want ∧ a.eval x = .bool r) ∨ (b ≠ want ∧ r = b)) (w : World) :
    (execOp a.eval o).run P w = .ok (.value (.bool r)) w := by
  have he : a.eval (.tmp c) = .bool b := by simp [Act.eval, hc]
  obtain ⟨dst, op, type, pos, after, guard⟩ := o
  rcases pickOf_eq hp with ⟨rfl, ho⟩ | ⟨rfl, ho⟩
  · simp only at ho
    subst ho
    simp only [execOp, he]
    rcases hr with ⟨rfl, hr⟩ | ⟨hb, rfl⟩
    · rw [hr]; rfl
    · cases r with
      | true => exact absurd rfl hb
      | false => rfl
  · simp only at ho
    subst ho
    simp only [execOp, he]
    rcases hr with ⟨rfl, hr⟩ | ⟨hb, rfl⟩
    · rw [hr]; rfl
    · cases r with
      | false => exact absurd rfl hb
      | true => rfl
theorem split_map {l g r : List Oper} {p : Oper} {is : List Nat} (hi : is.map (fun i => ops[i]?) = l.map some) (hl : l = g ++ p :: r) :
    ∃ ig i ir, is = ig ++ i :: ir ∧ ig.map (fun i => ops[i]?) = g.map some ∧ ops[i]? = some p ∧ ir.map (fun i => ops[i]?) = r.map some := by
  subst hl
  rw [List.map_append, List.map_cons] at hi
  obtain ⟨ig, it, rfl, h1, h2⟩ := List.map_eq_append_iff.1 hi
  obtain ⟨i, ir, rfl, h3, h4⟩ := List.map_eq_cons_iff.1 h2
  exact ⟨ig, i, ir, rfl, h1, h3, h4⟩

theorem Away.consMid {g r : List Oper} {p : Oper} {a a' a'' : Act} {v : Value} (h : Away g a a') (h' : Away r (a'.put p.dst v) a'') : Away (g ++ p :: r) a a'' := h.app h'.put

theorem evOps_sound (G : Goes P ops step X) : ∀ (n : Nat) (α : Type) (ctx : Option (Nat × Bool)) (l : List Oper) (env : Env) (fin : Env → M α) (Q : α → Hp → Prop) (is R : List Nat) (a : Act) (w : World),
    is.map (fun i => ops[i]?) = l.map some → evOps P ops.toList step n α ctx l env fin w.heap Q → Ag env a →
    (∀ env' a' w', Ag env' a' → Kept w w' → Away l a a' → fin env' w'.heap Q → X R a' w') → X (is ++ R) a w := by
  intro n
  induction n with
  | zero => intro α ctx l env fin Q is R a w hi hev; exact hev.elim
  | succ n ih =>
    intro α ctx l env fin Q is R a w hi hev ha K
    unfold evOps at hev
    cases l with
    | nil =>
      have : is = [] := by cases is <;> simp at hi ⊢
      subst this
      exact K env a w ha (.refl w) (.refl _ a) hev
    | cons o os =>
      simp only [] at hev
      cases hs : sameGuard ctx o.guard with
      | true =>
        rw [hs] at hev
        simp only [] at hev
        cases hc : ctxHolds ops.toList ctx env with
        | false => rw [hc] at hev; exact hev.elim
        | true =>
          rw [hc] at hev
          simp only [] at hev
          cases is with
          | nil => simp at hi
          | cons i is =>
            simp only [List.map_cons, List.cons.injEq] at hi
            refine G.step hi.1 (wanted_of hs hc ha) hev ha fun v w' hk hv => ?_
            exact ih α ctx os _ fin Q is R _ w' hi.2 hv (ha.put o.dst v) fun env' a' w'' h1 h2 h3 h4 => K env' a' w'' h1 (hk.trans h2) h3.put h4
      | false =>
        rw [hs] at hev
        simp only [] at hev
        cases hg : o.guard with
        | none => rw [hg] at hev; exact hev.elim
        | some g =>
          obtain ⟨j, want⟩ := g
          rw [hg] at hev
          simp only [] at hev
          cases hj : guardSlot ops.toList j with
          | none => rw [hj] at hev; exact hev.elim
          | some c =>
            rw [hj] at hev
            simp only [] at hev
            cases hl : look env c with
            | none => rw [hl] at hev; exact hev.elim
            | some v =>
              rw [hl] at hev
              cases v <;> first | exact hev.elim | skip
              rename_i b
              simp only [] at hev
              have hcb : a.tmps[c]? = some (.bool b) := ha.at_ _ _ hl
              cases hcut : cutAt ctx (o :: os) with
              | mk grp rest =>
                rw [hcut] at hev
                cases rest with
                | nil => exact hev.elim
                | cons pk rest =>
                  simp only [] at hev
                  cases hpk : pickOf want c pk.op with
                  | none => rw [hpk] at hev; exact hev.elim
                  | some x =>
                    rw [hpk] at hev
                    cases hsk : skipOk ops.toList c (j, want) [] grp with
                    | false => rw [hsk] at hev; exact hev.elim
                    | true =>
                      rw [hsk] at hev
                      cases hch : ctxHolds ops.toList ctx (forgets env grp) with
                      | false => rw [hch] at hev; exact hev.elim
                      | true =>
                        rw [hch] at hev
                        simp only [] at hev
                        have hlist := cutAt_eq ctx hcut
                        have hpg := cutAt_head ctx hcut
                        obtain ⟨ig, ip, ir, rfl, hig, hip, hir⟩ := split_map hi hlist
                        have hdst := skipOk_dst grp [] hsk
                        rw [List.append_assoc]
                        -- what follows the choice, once its answer is known
                        have tail : ∀ (r : Bool) (a' : Act) (w' : World), Kept w w' → Away grp a a' → ((b = want ∧ a'.eval x = .bool r) ∨ (b ≠ want ∧ r = b)) →
                            evOps P ops.toList step n α ctx rest (put (forgets env grp) pk.dst (some (.bool r))) fin w'.heap Q → X (ip :: ir ++ R) a' w' := by
                          intro r a' w' hk haw hr hrest
                          have hag := ha.away haw
                          have hcb' : a'.tmps[c]? = some (.bool b) := by rw [haw.same c hdst]; exact hcb
                          refine G.value hip (wanted_of hpg hch hag) (fun w => pick_value hpk hcb' hr w) ?_
                          refine ih α ctx rest _ fin Q ir R _ w' hir hrest (hag.put pk.dst _) fun env' a'' w'' h1 h2 h3 h4 => K env' a'' w'' h1 (hk.trans h2) ?_ h4
                          rw [hlist]
                          exact haw.consMid h3
                        cases hpb : pureBool P (j, want) grp (upd env c (some (.bool want))) x with
                        | some v =>
                          rw [hpb] at hev
                          simp only [] at hev
                          by_cases hb : b = want
                          · unfold pureBool at hpb
                            cases hal : allGuard (some (j, want)) grp with
                            | false => rw [hal] at hpb; cases hpb
                            | true =>
                              rw [hal] at hpb
                              simp only [] at hpb
                              cases hep : evPure P grp (upd env c (some (.bool want))) with
                              | none => rw [hep] at hpb; cases hpb
                              | some env' =>
                                rw [hep] at hpb
                                simp only [] at hpb
                                have hox : opd env' x = some (.bool v) := by
                                  revert hpb
                                  cases opd env' x with
                                  | none => intro h; cases h
                                  | some u => cases u <;> intro h <;> simp at h; rw [h]
                                refine pure_sound G hj grp ig _ _ env' a w hig hal hdst hep (ha.set (by rw [hcb, hb])) (by rw [hcb, hb]) fun a' h1 h2 => ?_
                                refine tail _ a' w (.refl w) h2 (.inl ⟨hb, ?_⟩) hev
                                rw [h1.eval hox]
                                subst hb
                                cases b <;> rfl
                          · refine skip_sound G hj hb grp [] ig _ a w hig hsk hcb (by simp) fun a' h1 _ => ?_
                            refine tail _ a' w (.refl w) h1 (.inr ⟨hb, ?_⟩) hev
                            cases b <;> cases want <;> simp_all [comb]
                        | none =>
                          rw [hpb] at hev
                          simp only [] at hev
                          by_cases hb : b = want
                          · have hsub : evOps P ops.toList step n Bool (some (j, want)) grp (upd env c (some (.bool want))) (fun env' => boolOf env' x) w.heap
                                (fun r h' => evOps P ops.toList step n α ctx rest (put (forgets env grp) pk.dst (some (.bool r))) fin h' Q) := by
                              subst hb
                              cases b <;> exact hev
                            refine ih Bool (some (j, want)) grp _ _ _ ig _ a w hig hsub (ha.set (by rw [hcb, hb])) fun env' a' w' h1 h2 h3 h4 => ?_
                            unfold boolOf at h4
                            cases hox : opd env' x with
                            | none => rw [hox] at h4; exact h4.elim
                            | some u =>
                              rw [hox] at h4
                              cases u <;> first | exact h4.elim | skip
                              rename_i r
                              exact tail r a' w' h2 h3 (.inl ⟨hb, h1.eval hox⟩) h4
                          · refine skip_sound G hj hb grp [] ig _ a w hig hsk hcb (by simp) fun a' h1 _ => ?_
                            refine tail b a' w (.refl w) h1 (.inr ⟨hb, rfl⟩) ?_
                            cases b <;> cases want <;> first | exact hev | exact absurd rfl hb
end goes
end Go.Sb
