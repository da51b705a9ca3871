/- The small logic is sound: whole frames; what a call comes to is what the evaluator says of its body. Conditions: none. -/
import Derived.Test.YtbpnpmknamghkaaSbN
namespace Go.Sb
open Go
section whole
variable {P : Program}
theorem ev_sound {f : FuncId} {fn : Func} (hf : P.funcs[f]? = some fn) (hmix : P.follows .mixedOrders = true) (cuts dm : List (Nat × List Nat)) : ∀ (n : Nat) (first : Bool) (todo : List Item) (env : Env) (a : Act) (w : World) (Q : Value → Hp → Prop),
    ev P f fn.results.toList cuts dm n first todo env w.heap Q → Ag env a → Runs P f todo a w Q := by
  intro n
  induction n with
  | zero => intro first todo env a w Q hev; exact hev.elim
  | succ n ih =>
    intro first todo env a w Q hev ha
    unfold ev at hev
    cases todo with
    | nil =>
      obtain ⟨v, h1, h2⟩ := retV_sound (P := P) ha hev
      exact Runs.fin hf ha.defers h1 h2
    | cons it k =>
      cases it <;> simp only [] at hev <;> first | exact hev.elim | skip
      case inBlock i => exact Runs.inBlock (ih _ _ _ _ _ _ hev ha)
      case inLoop c => exact Runs.inLoop (ih _ _ _ _ _ _ hev ha)
      case code c =>
        cases c <;> simp only [] at hev <;> first | exact hev.elim | skip
        case skip => exact Runs.skip (ih _ _ _ _ _ _ hev ha)
        case label l => exact Runs.label (ih _ _ _ _ _ _ hev ha)
        case seq x y => exact Runs.seq (ih _ _ _ _ _ _ hev ha)
        case block i c => exact Runs.block (ih _ _ _ _ _ _ hev ha)
        case loop c => exact Runs.loop (ih _ _ _ _ _ _ hev ha)
        case ret =>
          obtain ⟨v, h1, h2⟩ := retV_sound (P := P) ha hev
          exact Runs.ret hf ha.defers h1 h2
        case exit i =>
          cases he : exitTo i k with
          | none => rw [he] at hev; exact hev.elim
          | some k' => rw [he] at hev; exact Runs.exit he (ih _ _ _ _ _ _ hev ha)
        case cond c x y =>
          cases hc : opd env c with
          | none => rw [hc] at hev; exact hev.elim
          | some v =>
            rw [hc] at hev
            cases v <;> first | exact hev.elim | skip
            rename_i b
            refine Runs.cond (ha.eval hc) ?_
            cases b
            · exact ih _ _ _ _ _ _ hev ha
            · exact ih _ _ _ _ _ _ hev ha
        case region id ops draw =>
          have body : (match draw with
              | false => evOps P ops.toList (fun _ env o kk => evOp P env o kk) (ops.toList.length + 1) Value none ops.toList env fun env' => ev P f fn.results.toList cuts dm n false k env'
              | true => match headOf dm id with
                | some hd => evDraw P ops hd env fun env' => ev P f fn.results.toList cuts dm n false k env'
                | none => match Region.lexB .any ops with
                  | true => evOps P ops.toList (evOpQ P) (ops.toList.length + 1) Value none ops.toList env fun env' => ev P f fn.results.toList cuts dm n false k env'
                  | false => mFail) w.heap Q → Runs P f (.code (.region id ops draw) :: k) a w Q := by
            intro hb
            cases draw with
            | false =>
              refine Runs.code (wp_region ?_)
              have := evOps_sound (goes_ordered (P := P) ops (fun e a' w' => e = .normal ∧ Kept w w' ∧ Runs P f k a' w' Q)) _ Value none ops.toList env _ Q (List.range ops.size) [] a w (map_range ops) hb ha
                fun env' a' w' h1 h2 _ h4 => ⟨rfl, h2, ih _ _ _ _ _ _ h4 h1⟩
              rwa [List.append_nil] at this
            | true =>
              simp only [] at hb
              cases hdm : headOf dm id with
              | some hd =>
                rw [hdm] at hb
                exact Runs.code (wp_mono (evDraw_sound (R := fun a' w' => Kept w w' ∧ Runs P f k a' w' Q) hmix hb ha fun env' a' w' h1 h2 h3 => ⟨h2, ih _ _ _ _ _ _ h3 h1⟩) fun _ _ _ h => h)
              | none =>
              rw [hdm] at hb
              simp only [] at hb
              cases hl : Region.lexB .any ops with
              | false => rw [hl] at hb; exact hb.elim
              | true =>
                rw [hl] at hb
                simp only [] at hb
                refine Runs.code (wp_region_quiet (C := Alike w) hmix hl ⟨rfl, rfl, rfl, rfl⟩ ?_)
                have := evOps_sound (goes_quiet (P := P) ops w (fun a' => ∀ w', Alike w w' → Exit.normal = .normal ∧ Kept w w' ∧ Runs P f k a' w' Q)) _ Value none ops.toList env _ Q (List.range ops.size) [] a w (map_range ops) hb ha
                  fun env' a' w' h1 h2 _ h4 hA w'' hA' => ⟨rfl, hA'.2, ih _ _ _ _ _ _ (by rw [hA'.1, ← hA.1]; exact h4) h1⟩
                have := this ⟨rfl, .refl w⟩
                rwa [List.append_nil, filter_range] at this
          cases first with
          | true => exact body hev
          | false =>
            cases hcl : cutLive cuts id with
            | none => rw [hcl] at hev; exact body hev
            | some live => rw [hcl] at hev; exact hev a w rfl (ha.keepOnly live)

/-- FROM THE EVALUATOR TO THE CALL -/
theorem Nf.of_ev {f : FuncId} {fn : Func} {c : Code} (hc : Callable P f) (hf : P.funcs[f]? = some fn) (hb : fn.body = some c) (hmix : P.follows .mixedOrders = true) (cuts dm : List (Nat × List Nat)) (n : Nat) {args : List Value} {h : Hp} {Q : Value → Hp → Prop}
    (hev : ev P f fn.results.toList cuts dm n false [.code c] (args.map some ++ List.replicate (fn.ntmps - args.length) none) h Q) : Nf P f args.toArray h Q := by
  refine Nf.of_runs hc hf hb fun w hw => ev_sound hf hmix cuts dm n false _ _ _ w Q (hw ▸ hev) ⟨?_, ?_, rfl⟩
  · simp
  · intro i v hv
    have hlook : ∀ (l : List (Option Value)) (i : Nat), look l i = (l[i]?).join := by
      intro l
      induction l with
      | nil => intro i; simp [look]
      | cons x xs ih => intro i; cases i <;> simp [look, ih]
    rw [hlook] at hv
    rcases Nat.lt_or_ge i args.length with hlt | hge
    · rw [List.getElem?_append_left (by simpa using hlt)] at hv
      simp only [List.getElem?_map, List.getElem?_eq_getElem hlt, Option.map_some, Option.join_some, Option.some.injEq] at hv
      subst hv
      simp [Array.getElem?_append, hlt]
    · rw [List.getElem?_append_right (by simpa using hge)] at hv
      simp only [List.getElem?_replicate] at hv
      split at hv <;> simp at hv
theorem Runs.mono {f : FuncId} {todo : List Item} {a : Act} {w : World} {Q Q' : Value → Hp → Prop} (h : Runs P f todo a w Q) (hq : ∀ v h', Q v h' → Q' v h') : Runs P f todo a w Q' :=
  fun b hb hk cs => let ⟨v, w', fr, h1, h2⟩ := h b hb hk cs; ⟨v, w', fr, hq _ _ h1, h2⟩
theorem Cut.mono {f : FuncId} {todo : List Item} {env : Env} {h : Hp} {Q Q' : Value → Hp → Prop} (hc : Cut P f todo env h Q) (hq : ∀ v h', Q v h' → Q' v h') : Cut P f todo env h Q' :=
  fun a w hw ha => (hc a w hw ha).mono hq
/-- FROM THE EVALUATOR TO WHAT STANDS AT A CUT -/
theorem Cut.of_ev {f : FuncId} {fn : Func} (hf : P.funcs[f]? = some fn) (hmix : P.follows .mixedOrders = true) (cuts dm : List (Nat × List Nat)) (n : Nat) {todo : List Item} {env : Env} {h : Hp} {Q : Value → Hp → Prop}
    (hev : ev P f fn.results.toList cuts dm n true todo env h Q) : Cut P f todo env h Q :=
  fun _ w hw ha => ev_sound hf hmix cuts dm n true _ _ _ w Q (hw ▸ hev) ha
end whole
end Go.Sb
