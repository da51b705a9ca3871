/- The small logic: regions that draw their order and whose calls lay new blocks, walked once. Conditions: none. -/
import Derived.Test.YtbpnpmknamghkaaSbU
set_option linter.unusedSimpArgs false
set_option linter.unusedVariables false
namespace Go.Sb
open Go
section
variable {P : Program} {α : Type}
/-- a call that hands back one value from every world grown out of this one, and only lays new blocks -/
def mU (c : Prop) (m : M Value) (k : Value → M α) : M α := fun h Q => c ∧ ∃ v, (∀ h', Under h.size h h' → m h' (fun v' h'' => v' = v ∧ Under h.size h h'')) ∧ k v h Q
def mCallU (P : Program) (g : FuncId) (args : Array Value) (k : Value → M α) : M α := mU (Callable P g) (Nf P g args) k
/-- what follows, in every world grown out of this one -/
def mGrow (k : M α) : M α := fun h Q => ∀ h', Under h.size h h' → k h' Q
def loadKind : Op → Bool
  | .load _ _ => true
  | _ => false
def evOpU (P : Program) (β : Type) (env : Env) (o : Oper) (kk : Value → M β) : M β := match pureOp P env o with
  | some v => kk v
  | none => match o.op with
    | .call { callee := .value f, args, .. } => match opd env f, opds env args.toList with
      | some (.func (.func g) first cap), some vs => mCallU P g (first ++ vs.toArray ++ cap) fun v => unR P o.type v kk
      | _, _ => mFail
    | op => match stillKind op || loadKind op with
      | true => evOp P env o kk
      | false => mFail
theorem hcell_lt {h : Hp} {a : Addr} {v : Value} (hc : hcell h a = some v) : a.block < h.size := by
  unfold hcell at hc
  rcases Nat.lt_or_ge a.block h.size with hl | hl
  · exact hl
  · rw [Array.getElem?_eq_none hl] at hc
    cases hc
theorem hcell_up {h h' : Hp} {a : Addr} {v : Value} (hc : hcell h a = some v) (hu : Under h.size h h') : hcell h' a = some v := by
  rw [hu.cell (hcell_lt hc)]; exact hc
theorem ld1_get {t : TypeId} {a : Addr} {k : Value → M α} {h : Hp} {Q : α → Hp → Prop} (hh : ld1 P t a k h Q) : ∃ v, k v h Q ∧ ∀ (h' : Hp) (k' : Value → M α) (Q' : α → Hp → Prop), Under h.size h h' → k' v h' Q' → ld1 P t a k' h' Q' := by
  unfold ld1 at hh ⊢
  cases hu : P.underlying t with
  | none =>
    rw [hu] at hh
    obtain ⟨n, h1, h2⟩ := hh
    exact ⟨_, h2, fun h' k' Q' hup hk => ⟨n, hcell_up h1 hup, hk⟩⟩
  | some d =>
    rw [hu] at hh
    cases d <;> first
      | (obtain ⟨n, h1, h2⟩ := hh; exact ⟨_, h2, fun h' k' Q' hup hk => ⟨n, hcell_up h1 hup, hk⟩⟩)
      | (obtain ⟨g, f, c, h1, h2⟩ := hh; exact ⟨_, h2, fun h' k' Q' hup hk => ⟨g, f, c, hcell_up h1 hup, hk⟩⟩)
theorem ldCells_get {a : Addr} {h : Hp} {Q : α → Hp → Prop} : ∀ (ts : List TypeId) (i : Nat) (acc : Array Value) (k : Array Value → M α), ldCells P a ts i acc k h Q →
    ∃ cs, k cs h Q ∧ ∀ (h' : Hp) (k' : Array Value → M α) (Q' : α → Hp → Prop), Under h.size h h' → k' cs h' Q' → ldCells P a ts i acc k' h' Q'
  | [], i, acc, k, hh => ⟨acc, hh, fun h' k' Q' _ hk => hk⟩
  | t :: ts, i, acc, k, hh => by
    obtain ⟨v, h1, h2⟩ := ld1_get hh
    obtain ⟨cs, h3, h4⟩ := ldCells_get ts (i + 1) (acc.push v) k h1
    exact ⟨cs, h3, fun h' k' Q' hup hk => h2 h' (fun v => ldCells P a ts (i + 1) (acc.push v) k') Q' hup (h4 h' k' Q' hup hk)⟩
theorem hcells_up {a : Addr} {h h' : Hp} (hu : Under h.size h h') : ∀ (n i : Nat) (vs : List Value), hcells h a i n = some vs → hcells h' a i n = some vs
  | 0, i, vs, hh => by simpa [hcells] using hh
  | n + 1, i, vs, hh => by
    simp only [hcells] at hh ⊢
    split at hh
    · rename_i v vs' h1 h2
      rw [hcell_up h1 hu, hcells_up hu n (i + 1) vs' h2]
      exact hh
    · cases hh
theorem ldT_get {t : TypeId} {a : Addr} {k : Value → M α} {h : Hp} {Q : α → Hp → Prop} (hh : ldT P t a k h Q) : ∃ v, k v h Q ∧ ∀ (h' : Hp) (k' : Value → M α) (Q' : α → Hp → Prop), Under h.size h h' → k' v h' Q' → ldT P t a k' h' Q' := by
  unfold ldT at hh ⊢
  cases hd : P.underlying t with
  | none => rw [hd] at hh; exact hh.elim
  | some d =>
    rw [hd] at hh
    cases hbig : isBigT P t with
    | true =>
      simp only [hbig] at hh ⊢
      cases hn : sizeT P t with
      | none => rw [hn] at hh; exact hh.elim
      | some n =>
        rw [hn] at hh
        obtain ⟨cs, h1, h2⟩ := hh
        exact ⟨_, h2, fun h' k' Q' hup hk => ⟨cs, hcells_up hup _ _ _ h1, hk⟩⟩
    | false =>
    simp only [hbig] at hh ⊢
    cases hagg : isAggT P t with
    | true =>
      simp only [hagg, if_true] at hh ⊢
      cases hk : flatK P 20 t with
      | none => rw [hk] at hh; exact hh.elim
      | some ks => cases hn : sizeT P t with
        | none => rw [hk, hn] at hh; exact hh.elim
        | some n =>
          rw [hk, hn] at hh
          by_cases hlen : ks.length = n
          · simp only [hlen, if_true] at hh ⊢
            obtain ⟨cs, h1, h2⟩ := ldCells_get _ _ _ _ hh
            exact ⟨.agg cs, h1, fun h' k' Q' hup hk => h2 h' (fun cs => k' (.agg cs)) Q' hup hk⟩
          · simp only [hlen, if_false] at hh; exact hh.elim
    | false =>
      simp only [hagg, Bool.false_eq_true, if_false] at hh ⊢
      exact ld1_get hh
theorem ldT_grown {t : TypeId} {a : Addr} {k : Value → M α} {h : Hp} {Q : α → Hp → Prop} (hh : ldT P t a k h Q) : ∃ v, (∀ w : World, Under h.size h w.heap → (loadVar t a).run P w = .ok v w) ∧ k v h Q := by
  obtain ⟨v, hk, hg⟩ := ldT_get hh
  refine ⟨v, fun w hu => ?_, hk⟩
  obtain ⟨v', h1, h2⟩ := ldT_sound (hg w.heap (fun u _ _ => u = v) Q hu rfl)
  have h2 : v' = v := h2
  rw [← h2]
  exact h1 w rfl
/-- the worlds that this one grows into -/
def Grown (w : World) (w' : World) : Prop := Under w.heap.size w.heap w'.heap ∧ Kept w w'
theorem evOpU_sound {w0 : World} {β : Type} {env : Env} {o : Oper} {kk : Value → M β} {Q : β → Hp → Prop} {a : Act} (hev : evOpU P β env o kk w0.heap Q) (ha : Ag env a) :
    ∃ v, (∀ w, Grown w0 w → o.quietAt P a (Grown w0) w v) ∧ kk v w0.heap Q := by
  have hval : ∀ v, (∀ w : World, Under w0.heap.size w0.heap w.heap → (execOp a.eval o).run P w = .ok (.value v) w) → ∀ w, Grown w0 w → o.quietAt P a (Grown w0) w v := by
    intro v hv w hw
    unfold Oper.quietAt
    rw [hv w hw.1]
    exact ⟨rfl, rfl⟩
  unfold evOpU at hev
  cases hp : pureOp P env o with
  | some v =>
    rw [hp] at hev
    exact ⟨v, hval v fun w _ => pureOp_sound hp ha w, hev⟩
  | none =>
    rw [hp] at hev
    obtain ⟨dst, op, type, pos, after, guard⟩ := o
    have gen : ∀ op', op = op' → loadKind op' = false → (match stillKind op' || loadKind op' with
      | true => evOp P env ⟨dst, op, type, pos, after, guard⟩ kk
      | false => mFail) w0.heap Q → ∃ v, (∀ w, Grown w0 w → Oper.quietAt P ⟨dst, op, type, pos, after, guard⟩ a (Grown w0) w v) ∧ kk v w0.heap Q := by
      intro op' he hl hh
      subst he
      rw [hl, Bool.or_false] at hh
      cases hq : stillKind op with
      | false => rw [hq] at hh; exact hh.elim
      | true =>
        rw [hq] at hh
        have h3 : quietKind op = true := by cases op <;> first | rfl | cases hq
        have h4 : isLoad op = false := by cases op <;> first | rfl | cases hq
        obtain ⟨v, h1, h2⟩ := evOp_quiet hh ha h3
        exact ⟨v, hval v fun w _ => h1 w fun hl => (by rw [h4] at hl; cases hl), h2⟩
    cases op <;> first | exact gen _ rfl rfl hev | skip
    case load t x =>
      have hev : evOp P env ⟨dst, .load t x, type, pos, after, guard⟩ kk w0.heap Q := hev
      generalize hm : evOp P env ⟨dst, .load t x, type, pos, after, guard⟩ kk = m at hev
      unfold evOp at hm
      rw [hp] at hm
      simp only [] at hm
      split at hm <;> first | (subst hm; exact hev.elim) | skip
      rename_i p hx
      subst hm
      cases p with
      | none => exact hev.elim
      | some ad =>
        obtain ⟨v, h1, h2⟩ := ldT_grown hev
        refine ⟨v, hval v fun w hw => ?_, h2⟩
        simp only [execOp, ha.eval hx]
        exact Sem.run_value _ w (by simp only [Instr.loadAt, Instr.sureAddr, Sem.run_bind, Sem.run_pure, Result.andThen_ok]; exact h1 w hw)
    case call c =>
      obtain ⟨callee, args, argTypes⟩ := c
      cases callee <;> first | exact gen _ rfl rfl hev | skip
      rename_i f
      generalize hm : (match opd env f, opds env args.toList with
        | some (.func (.func g) first cap), some vs => mCallU P g (first ++ vs.toArray ++ cap) fun v => unR P type v kk
        | _, _ => mFail) = m at *
      have hev : m w0.heap Q := by rw [← hm]; exact hev
      split at hm <;> first | (subst hm; exact hev.elim) | skip
      rename_i g first cap vs hf hvs
      subst hm
      obtain ⟨hcall, v, h1, h2⟩ := hev
      refine ⟨v, fun w hw => ?_, unR_sound h2⟩
      unfold Oper.quietAt
      have hrun : (execOp a.eval ⟨dst, .call ⟨.value f, args, argTypes⟩, type, pos, after, guard⟩).run P w = .ok (.enter g (first ++ vs.toArray ++ cap)) w := by
        simp only [execOp, resolve, ha.eval hf, opds_arr ha hvs, Deferred.ofValue, Sem.run_bind, Sem.run_pure, Result.andThen_ok, invoke]
        exact hcall _ w
      rw [hrun]
      have hno : ∀ (u : Value) (w' : World), (callFunc g (first ++ vs.toArray ++ cap)).run P w = .ok (.value u) w' → False := by
        intro u w' he
        rw [hcall _ w] at he
        cases he
      rcases h1 w.heap hw.1 with h1 | ⟨v', h1, _⟩ | h1
      · refine ⟨rfl, (h1.2 w rfl).mono ?_⟩
        rintro e w' ⟨u, rfl, hk, rfl, hh⟩
        exact ⟨rfl, hh, hw.2.trans hk⟩
      · exact (hno _ _ (h1 w rfl)).elim
      · obtain ⟨_, _, h5, _⟩ := h1 w rfl
        exact (hno _ _ h5).elim
theorem goes_grown (ops : Array Oper) (w0 : World) (Qf : Act → Prop) :
    Goes P ops (evOpU P) (fun is a w => w.heap = w0.heap ∧ Kept w0 w → wpQuiet P ops (Grown w0) Qf (is.filterMap fun i => ops[i]?) a) where
  skip {i is o a w} ho hw h := by
    intro hA
    simp only [List.filterMap_cons, ho]
    unfold wpQuiet
    simp only [hw, Bool.false_eq_true, if_false]
    exact h hA
  value {i is o a w v} ho hw hr h := by
    intro hA
    simp only [List.filterMap_cons, ho]
    unfold wpQuiet
    simp only [hw, if_true]
    exact ⟨v, fun w' hw' => by unfold Oper.quietAt; rw [hr w']; exact ⟨rfl, rfl⟩, h hA⟩
  step {i is o a w β env kk Q} ho hw hev ha hn := by
    intro hA
    simp only [List.filterMap_cons, ho]
    unfold wpQuiet
    simp only [hw, if_true]
    rw [hA.1] at hev
    obtain ⟨v, h1, h2⟩ := evOpU_sound (w0 := w0) hev ha
    exact ⟨v, h1, hn v w (.refl w) (hA.1 ▸ h2) hA⟩
/-- the evaluator, for a frame without cuts; regions listed in us are walked once, their calls laying new blocks -/
def evU (P : Program) (f : FuncId) (res : List ResultVar) (us : List Nat) : Nat → List Item → Env → M Value
  | 0, _, _ => mFail
  | n + 1, todo, env => match todo with
    | [] => retV P env res
    | .code c :: k => match c with
      | .ret => retV P env res
      | .skip => evU P f res us n k env
      | .label _ => evU P f res us n k env
      | .seq x y => evU P f res us n (.code x :: .code y :: k) env
      | .cond c x y => match opd env c with
        | some (.bool b) => mIf b (evU P f res us n (.code x :: k) env) (evU P f res us n (.code y :: k) env)
        | _ => mFail
      | .block i c => evU P f res us n (.code c :: .inBlock i :: k) env
      | .exit i => match exitTo i k with
        | some k' => evU P f res us n k' env
        | none => mFail
      | .region id ops draw => match draw with
        | false => evOps P ops.toList (fun _ env o kk => evOp P env o kk) (ops.toList.length + 1) Value none ops.toList env fun env' => evU P f res us n k env'
        | true => match Region.lexB .any ops, us.contains id with
          | true, true => evOps P ops.toList (evOpU P) (ops.toList.length + 1) Value none ops.toList env fun env' => mGrow (evU P f res us n k env')
          | _, _ => mFail
      | _ => mFail
    | .inBlock _ :: k => evU P f res us n k env
    | _ => mFail
theorem evU_sound {f : FuncId} {fn : Func} (hf : P.funcs[f]? = some fn) (hmix : P.follows .mixedOrders = true) (us : List Nat) : ∀ (n : Nat) (todo : List Item) (env : Env) (a : Act) (w : World) (Q : Value → Hp → Prop),
    evU P f fn.results.toList us n todo env w.heap Q → Ag env a → Runs P f todo a w Q := by
  intro n
  induction n with
  | zero => intro todo env a w Q hev; exact hev.elim
  | succ n ih =>
    intro todo env a w Q hev ha
    unfold evU at hev
    cases todo with
    | nil =>
      obtain ⟨v, h1, h2⟩ := retV_sound (P := P) ha hev
      exact Runs.fin hf ha.defers h1 h2
    | cons it k =>
      cases it <;> simp only [] at hev <;> first | exact hev.elim | skip
      case inBlock i => exact Runs.inBlock (ih _ _ _ _ _ hev ha)
      case code c =>
        cases c <;> simp only [] at hev <;> first | exact hev.elim | skip
        case skip => exact Runs.skip (ih _ _ _ _ _ hev ha)
        case label l => exact Runs.label (ih _ _ _ _ _ hev ha)
        case seq x y => exact Runs.seq (ih _ _ _ _ _ hev ha)
        case block i c => exact Runs.block (ih _ _ _ _ _ hev ha)
        case ret =>
          obtain ⟨v, h1, h2⟩ := retV_sound (P := P) ha hev
          exact Runs.ret hf ha.defers h1 h2
        case exit i =>
          cases he : exitTo i k with
          | none => rw [he] at hev; exact hev.elim
          | some k' => rw [he] at hev; exact Runs.exit he (ih _ _ _ _ _ hev ha)
        case cond c x y =>
          cases hc : opd env c with
          | none => rw [hc] at hev; exact hev.elim
          | some v =>
            rw [hc] at hev
            cases v <;> first | exact hev.elim | skip
            rename_i b
            refine Runs.cond (ha.eval hc) ?_
            cases b
            · exact ih _ _ _ _ _ hev ha
            · exact ih _ _ _ _ _ hev ha
        case region id ops draw =>
          cases draw with
          | false =>
            refine Runs.code (wp_region ?_)
            have := evOps_sound (goes_ordered (P := P) ops (fun e a' w' => e = .normal ∧ Kept w w' ∧ Runs P f k a' w' Q)) _ Value none ops.toList env _ Q (List.range ops.size) [] a w (map_range ops) hev ha
              fun env' a' w' h1 h2 _ h4 => ⟨rfl, h2, ih _ _ _ _ _ h4 h1⟩
            rwa [List.append_nil] at this
          | true =>
            simp only [] at hev
            cases hl : Region.lexB .any ops with
            | false => rw [hl] at hev; exact hev.elim
            | true =>
              cases hus : us.contains id with
              | false => rw [hl, hus] at hev; exact hev.elim
              | true =>
                rw [hl, hus] at hev
                simp only [] at hev
                refine Runs.code (wp_region_quiet (C := Grown w) hmix hl ⟨.refl _ _, rfl, rfl, rfl⟩ ?_)
                have := evOps_sound (goes_grown (P := P) ops w (fun a' => ∀ w', Grown w w' → Exit.normal = .normal ∧ Kept w w' ∧ Runs P f k a' w' Q)) _ Value none ops.toList env _ Q (List.range ops.size) [] a w (map_range ops) hev ha
                  fun env' a' w' h1 h2 _ h4 hA w'' hA' => ⟨rfl, hA'.2, ih _ _ _ _ _ (h4 w''.heap (by rw [hA.1]; exact hA'.1)) h1⟩
                have := this ⟨rfl, .refl w⟩
                rwa [List.append_nil, filter_range] at this
/-- FROM THIS EVALUATOR TO THE CALL -/
theorem Nf.of_evU {f : FuncId} {fn : Func} {c : Code} (hc : Callable P f) (hf : P.funcs[f]? = some fn) (hb : fn.body = some c) (hmix : P.follows .mixedOrders = true) (us : List Nat) (n : Nat) {args : List Value} {h : Hp} {Q : Value → Hp → Prop}
    (hev : evU P f fn.results.toList us n [.code c] (args.map some ++ List.replicate (fn.ntmps - args.length) none) h Q) : Nf P f args.toArray h Q := by
  refine Nf.of_runs hc hf hb fun w hw => evU_sound hf hmix us n _ _ _ w Q (hw ▸ hev) ⟨?_, ?_, rfl⟩
  · simp
  · intro i v hv
    have hlook : ∀ (l : List (Option Value)) (i : Nat), look l i = (l[i]?).join := by
      intro l
      induction l with
      | nil => intro i; simp [look]
      | cons x xs ih => intro i; cases i <;> simp [look, ih]
    rw [hlook] at hv
    rcases Nat.lt_or_ge i args.length with hlt | hge
    · rw [List.getElem?_append_left (by simpa using hlt)] at hv
      simp only [List.getElem?_map, List.getElem?_eq_getElem hlt, Option.map_some, Option.join_some, Option.some.injEq] at hv
      subst hv
      simp [Array.getElem?_append, hlt]
    · rw [List.getElem?_append_right (by simpa using hge)] at hv
      simp only [List.getElem?_replicate] at hv
      split at hv <;> simp at hv
end
end Go.Sb
