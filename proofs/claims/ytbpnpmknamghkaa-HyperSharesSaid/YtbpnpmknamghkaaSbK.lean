/- The small logic is sound: a region's operations, in their order. Conditions: none. -/
import Derived.Test.YtbpnpmknamghkaaSbJ
namespace Go.Sb
open Go

theorem sameGuard_eq : ∀ {a b : Option (Nat × Bool)}, sameGuard a b = true → a = b
  | none, none, _ => rfl
  | none, some _, h => by simp [sameGuard] at h
  | some (_, true), none, h => by simp [sameGuard] at h
  | some (_, false), none, h => by simp [sameGuard] at h
  | some (i, true), some (j, true), h => by simp [sameGuard] at h; rw [h]
  | some (i, false), some (j, false), h => by simp [sameGuard] at h; rw [h]
  | some (i, true), some (j, false), h => by simp [sameGuard] at h
  | some (i, false), some (j, true), h => by simp [sameGuard] at h
theorem cutAt_eq (ctx : Option (Nat × Bool)) : ∀ {l g r : List Oper}, cutAt ctx l = (g, r) → l = g ++ r
  | [], g, r, h => by simp [cutAt] at h; simp [h.1, h.2]
  | o :: l, g, r, h => by
    unfold cutAt at h
    cases hs : sameGuard ctx o.guard with
    | true => simp only [hs] at h; cases h; rfl
    | false =>
      simp only [hs] at h
      cases hc : cutAt ctx l with
      | mk x y =>
        simp only [hc] at h
        cases h
        rw [cutAt_eq ctx hc]; rfl
theorem cutAt_head (ctx : Option (Nat × Bool)) : ∀ {l g r : List Oper} {p : Oper}, cutAt ctx l = (g, p :: r) → sameGuard ctx p.guard = true
  | [], g, r, p, h => by simp [cutAt] at h
  | o :: l, g, r, p, h => by
    unfold cutAt at h
    cases hs : sameGuard ctx o.guard with
    | true => simp only [hs] at h; cases h; exact hs
    | false =>
      simp only [hs] at h
      cases hc : cutAt ctx l with
      | mk x y =>
        simp only [hc] at h
        cases h
        exact cutAt_head ctx hc
theorem guardSlot_eq {ops : Array Oper} {j c : Nat} (h : guardSlot ops.toList j = some c) : (ops[j]?).bind (·.dst) = some c := by
  unfold guardSlot at h
  rw [Array.getElem?_toList] at h
  cases ho : ops[j]? with
  | none => simp [ho] at h
  | some o => simpa [ho] using h
theorem yielded_bool {ops : Array Oper} {j c : Nat} {b : Bool} {tmps : Array Value} (h : guardSlot ops.toList j = some c) (hc : tmps[c]? = some (.bool b)) : yielded ops tmps j = some b := by
  unfold yielded
  rw [guardSlot_eq h, Option.bind_some, hc]
theorem yielded_undef {ops : Array Oper} {j c : Nat} {tmps : Array Value} (h : guardSlot ops.toList j = some c) (hc : tmps[c]? = some undef ∨ tmps[c]? = none) : yielded ops tmps j = none := by
  unfold yielded
  rw [guardSlot_eq h, Option.bind_some]
  rcases hc with hc | hc <;> rw [hc] <;> rfl
theorem wanted_of {ops : Array Oper} {ctx : Option (Nat × Bool)} {env : Env} {a : Act} {o : Oper} (hs : sameGuard ctx o.guard = true) (hc : ctxHolds ops.toList ctx env = true) (ha : Ag env a) : Region.wanted o (yielded ops a.tmps) = true := by
  have := sameGuard_eq hs
  unfold Region.wanted
  rw [← this]
  cases ctx with
  | none => rfl
  | some g =>
    obtain ⟨j, want⟩ := g
    unfold ctxHolds at hc
    simp only [] at hc
    cases hg : guardSlot ops.toList j with
    | none => simp [hg] at hc
    | some c =>
      simp only [hg] at hc
      have : look env c = some (.bool want) := by
        revert hc
        cases hl : look env c with
        | none => intro h; cases want <;> simp at h
        | some v =>
          cases v <;> cases want <;> simp
          all_goals (rename_i b; cases b <;> simp)
      have hy := yielded_bool (tmps := a.tmps) hg (ha.at_ _ _ this)
      simp [hy]

/-- only these operations' slots are another one's -/
structure Away (l : List Oper) (a a' : Act) : Prop where
  size : a'.tmps.size = a.tmps.size
  defers : a'.defers = a.defers
  same : ∀ i, (∀ o ∈ l, o.dst ≠ some i) → a'.tmps[i]? = a.tmps[i]?
theorem Away.refl (l : List Oper) (a : Act) : Away l a a := ⟨rfl, rfl, fun _ _ => rfl⟩
theorem Away.put {l : List Oper} {o : Oper} {a a' : Act} {v : Value} (h : Away l (a.put o.dst v) a') : Away (o :: l) a a' :=
  ⟨by rw [h.size, put_size], by rw [h.defers, put_defers], fun i hi => by
    rw [h.same i fun o ho => hi o (by simp [ho]), put_tmps, if_neg (fun hc => hi o (by simp) hc.1)]⟩
theorem Away.app {l l' : List Oper} {a a' a'' : Act} (h : Away l a a') (h' : Away l' a' a'') : Away (l ++ l') a a'' :=
  ⟨h'.size.trans h.size, h'.defers.trans h.defers, fun i hi => (h'.same i fun o ho => hi o (by simp [ho])).trans (h.same i fun o ho => hi o (by simp [ho]))⟩
theorem look_forgets : ∀ (l : List Oper) (env : Env) (i : Nat) {v : Value}, look (forgets env l) i = some v → look env i = some v ∧ ∀ o ∈ l, o.dst ≠ some i
  | [], env, i, v, h => ⟨h, by simp⟩
  | o :: l, env, i, v, h => by
    obtain ⟨h1, h2⟩ := look_forgets l (put env o.dst none) i h
    rw [look_put] at h1
    by_cases hc : o.dst = some i ∧ i < env.length
    · rw [if_pos hc] at h1; cases h1
    · rw [if_neg hc] at h1
      refine ⟨h1, ?_⟩
      intro x hx
      rcases List.mem_cons.1 hx with rfl | hx
      · exact fun he => hc ⟨he, look_lt h1⟩
      · exact h2 x hx
theorem length_forgets : ∀ (l : List Oper) (env : Env), (forgets env l).length = env.length
  | [], env => rfl
  | o :: l, env => by rw [forgets, length_forgets l, length_put]
theorem Ag.away {l : List Oper} {env : Env} {a a' : Act} (h : Ag env a) (hw : Away l a a') : Ag (forgets env l) a' :=
  ⟨by rw [length_forgets, h.size, hw.size], fun i v hv => by
    obtain ⟨h1, h2⟩ := look_forgets l env i hv
    rw [hw.same i h2, h.at_ i v h1], by rw [hw.defers, h.defers]⟩

/-- what is asked of a way to go through operations by their numbers -/
structure Goes (P : Program) (ops : Array Oper) (step : (β : Type) → Env → Oper → (Value → M β) → M β) (X : List Nat → Act → World → Prop) : Prop where
  skip : ∀ {i is o a w}, ops[i]? = some o → Region.wanted o (yielded ops a.tmps) = false → X is (a.put o.dst undef) w → X (i :: is) a w
  value : ∀ {i is o a w v}, ops[i]? = some o → Region.wanted o (yielded ops a.tmps) = true → (∀ w, (execOp a.eval o).run P w = .ok (.value v) w) → X is (a.put o.dst v) w → X (i :: is) a w
  step : ∀ {i is o a w β env} {kk : Value → M β} {Q : β → Hp → Prop}, ops[i]? = some o → Region.wanted o (yielded ops a.tmps) = true → step β env o kk w.heap Q → Ag env a →
    (∀ v w', Kept w w' → kk v w'.heap Q → X is (a.put o.dst v) w') → X (i :: is) a w

section goes
variable {P : Program} {ops : Array Oper} {step : (β : Type) → Env → Oper → (Value → M β) → M β} {X : List Nat → Act → World → Prop}
/-- the operations behind a guard that fails are passed by -/
theorem skip_sound (G : Goes P ops step X) {c j : Nat} {want b : Bool} (hj : guardSlot ops.toList j = some c) (hb : b ≠ want) :
    ∀ (l : List Oper) (us is R : List Nat) (a : Act) (w : World), is.map (fun i => ops[i]?) = l.map some → skipOk ops.toList c (j, want) us l = true → a.tmps[c]? = some (.bool b) →
      (∀ u ∈ us, a.tmps[u]? = some undef ∨ a.tmps[u]? = none) → (∀ a', Away l a a' → a'.tmps[c]? = some (.bool b) → X R a' w) → X (is ++ R) a w
  | [], us, is, R, a, w, hi, _, hc, _, K => by
    have : is = [] := by cases is <;> simp at hi ⊢
    subst this
    exact K a (.refl _ a) hc
  | o :: l, us, is, R, a, w, hi, hs, hc, hu, K => by
    cases is with
    | nil => simp at hi
    | cons i is =>
      simp only [List.map_cons, List.cons.injEq] at hi
      unfold skipOk at hs
      simp only [Bool.and_eq_true, bne_iff_ne, ne_eq] at hs
      obtain ⟨⟨h1, h2⟩, h3⟩ := hs
      have hwant : Region.wanted o (yielded ops a.tmps) = false := by
        unfold Region.wanted
        rcases Bool.or_eq_true _ _ ▸ h2 with h2 | h2
        · rw [← sameGuard_eq h2]
          simp only [yielded_bool hj hc, beq_eq_false_iff_ne, ne_eq, Option.some.injEq]
          exact hb
        · cases hg : o.guard with
          | none => simp [hg] at h2
          | some g =>
            obtain ⟨j', w'⟩ := g
            simp only [hg] at h2
            cases hgs : guardSlot ops.toList j' with
            | none => simp [hgs] at h2
            | some c' =>
              simp only [hgs, Bool.and_eq_true, List.contains_iff_mem] at h2
              show (yielded ops a.tmps j' == some w') = false
              rw [yielded_undef hgs (hu c' h2.1)]
              rfl
      refine G.skip hi.1 hwant (skip_sound G hj hb l (o.dst.toList ++ us) is R (a.put o.dst undef) w hi.2 h3 ?_ ?_ ?_)
      · rw [put_tmps, if_neg (fun hx => h1 hx.1)]; exact hc
      · intro u hum
        rw [put_tmps]
        by_cases hd : o.dst = some u ∧ u < a.tmps.size
        · rw [if_pos hd]; exact .inl rfl
        · rw [if_neg hd]
          rcases List.mem_append.1 hum with hm | hm
          · have : o.dst = some u := by cases ho : o.dst <;> simp [ho] at hm ⊢; exact hm.symm
            exact .inr (Array.getElem?_eq_none (Nat.le_of_not_lt fun hlt => hd ⟨this, hlt⟩))
          · exact hu u hm
      · exact fun a' haw hc' => K a' haw.put hc'
theorem skipOk_dst {ops : List Oper} {c : Nat} {g : Nat × Bool} : ∀ (l : List Oper) (us : List Nat), skipOk ops c g us l = true → ∀ o ∈ l, o.dst ≠ some c
  | [], _, _ => by simp
  | o :: l, us, h => by
    unfold skipOk at h
    simp only [Bool.and_eq_true, bne_iff_ne, ne_eq] at h
    intro x hx
    rcases List.mem_cons.1 hx with rfl | hx
    · exact h.1.1
    · exact skipOk_dst l _ h.2 x hx
/-- pure operations, all behind one guard that holds -/
theorem pure_sound (G : Goes P ops step X) {c j : Nat} {want : Bool} (hj : guardSlot ops.toList j = some c) :
    ∀ (l : List Oper) (is R : List Nat) (env env' : Env) (a : Act) (w : World), is.map (fun i => ops[i]?) = l.map some → allGuard (some (j, want)) l = true → (∀ o ∈ l, o.dst ≠ some c) → evPure P l env = some env' → Ag env a →
      a.tmps[c]? = some (.bool want) → (∀ a', Ag env' a' → Away l a a' → X R a' w) → X (is ++ R) a w
  | [], is, R, env, env', a, w, hi, _, _, he, ha, _, K => by
    have : is = [] := by cases is <;> simp at hi ⊢
    subst this
    simp only [evPure, Option.some.injEq] at he
    subst he
    exact K a ha (.refl _ a)
  | o :: l, is, R, env, env', a, w, hi, hg, hd, he, ha, hc, K => by
    cases is with
    | nil => simp at hi
    | cons i is =>
      simp only [List.map_cons, List.cons.injEq] at hi
      simp only [allGuard, Bool.and_eq_true] at hg
      simp only [evPure] at he
      cases hp : pureOp P env o with
      | none => simp [hp] at he
      | some v =>
        simp only [hp] at he
        refine G.value hi.1 ?_ (pureOp_sound hp ha) (pure_sound G hj l is R _ env' _ w hi.2 hg.2 (fun o ho => hd o (by simp [ho])) he (ha.put o.dst v) ?_ fun a' h1 h2 => K a' h1 h2.put)
        · unfold Region.wanted
          rw [← sameGuard_eq hg.1]
          simp [yielded_bool hj hc]
        · rw [put_tmps, if_neg (fun hx => hd o (by simp) hx.1)]; exact hc
end goes
end Go.Sb
