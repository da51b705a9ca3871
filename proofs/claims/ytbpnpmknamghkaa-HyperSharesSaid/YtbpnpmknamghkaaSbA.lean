/- A small logic of memory over the model's machine: predicate transformers over heaps, and what a frame runs to. Conditions: none; every theorem here is proved over any program. -/
import Derived.Deep.Quiet
import Derived.Laws.Sem
import Derived.Laws.World
namespace Go.Sb
open Go

abbrev Hp := Array Obj

/-- What is the same behind a run: the tape, the outer world, what was written. -/
def Kept (w w' : World) : Prop := w'.tape = w.tape ∧ w'.os = w.os ∧ w'.output = w.output
theorem Kept.refl (w : World) : Kept w w := ⟨rfl, rfl, rfl⟩
theorem Kept.trans {a b c : World} (h : Kept a b) (h' : Kept b c) : Kept a c := ⟨h'.1.trans h.1, h'.2.1.trans h.2.1, h'.2.2.trans h.2.2⟩

def M (α : Type) : Type := Hp → (α → Hp → Prop) → Prop

section comb
variable {α β : Type}
def mFail : M α := fun _ _ => False
def mRet (a : α) : M α := fun h Q => Q a h
def mBind (m : M α) (k : α → M β) : M β := fun h Q => m h fun a h' => k a h' Q
def mIf (b : Bool) (x y : M α) : M α := match b with
  | true => x
  | false => y
def mAnd (x y : M α) : M α := fun h Q => x h Q ∧ y h Q
end comb

def hcell (h : Hp) (a : Addr) : Option Value :=
  match h[a.block]? with
  | some (.cells c _ _) => if a.spot.isSome then none else c[a.off]?
  | _ => none
def hfrozen (h : Hp) (a : Addr) : Bool :=
  match h[a.block]? with
  | some (.cells _ _ (lo, hi)) => lo ≤ a.off && a.off < hi
  | _ => false
def hset (h : Hp) (a : Addr) (v : Value) : Hp :=
  h.modify a.block fun
      | .cells c elem frozen => .cells (if a.spot.isSome then c else c.setIfInBounds a.off v) elem frozen
      | o => o

/-- a call of this function enters its body -/
def Callable (P : Program) (f : FuncId) : Prop := ∀ args w, (callFunc f args).run P w = .ok (.enter f args) w
/-- What a call comes to, said of heaps alone: it returns. -/
def Nf (P : Program) (f : FuncId) (args : Array Value) : M Value := fun h Q =>
  (Callable P f ∧ ∀ w : World, w.heap = h → Calls P f args w fun e w' => ∃ v, e = .returned v ∧ Kept w w' ∧ Q v w'.heap) ∨
    (∃ v, (∀ w : World, w.heap = h → (callFunc f args).run P w = .ok (.value v) w) ∧ Q v h) ∨
    ∀ w : World, w.heap = h → ∃ v w', (callFunc f args).run P w = .ok (.value v) w' ∧ Kept w w' ∧ w.heap.size < w'.heap.size ∧ Q v w'.heap

theorem Nf.mono {P : Program} {f : FuncId} {args : Array Value} {h : Hp} {Q Q' : Value → Hp → Prop} (hh : Nf P f args h Q) (hq : ∀ v h', Q v h' → Q' v h') : Nf P f args h Q' :=
  match hh with
  | .inl hh => .inl ⟨hh.1, fun w hw => (hh.2 w hw).mono fun _ _ ⟨v, he, hk, hQ⟩ => ⟨v, he, hk, hq _ _ hQ⟩⟩
  | .inr (.inl ⟨v, h1, h2⟩) => .inr (.inl ⟨v, h1, hq _ _ h2⟩)
  | .inr (.inr hh) => .inr (.inr fun w hw => by
    obtain ⟨v, w', h1, h2, h4, h3⟩ := hh w hw
    exact ⟨v, w', h1, h2, h4, hq _ _ h3⟩)
/-- a call without a body that leaves the world as it is -/
theorem Nf.ext {P : Program} {f : FuncId} {args : Array Value} {h : Hp} {Q : Value → Hp → Prop} (v : Value) (hv : ∀ w : World, w.heap = h → (callFunc f args).run P w = .ok (.value v) w) (hq : Q v h) : Nf P f args h Q :=
  .inr (.inl ⟨v, hv, hq⟩)

/-- The frame of function f, with this still to do, returns. -/
def Runs (P : Program) (f : FuncId) (todo : List Item) (a : Act) (w : World) (Q : Value → Hp → Prop) : Prop :=
  ∀ b : Frame, b.fn = f → b.kind = .normal → ∀ cs, ∃ v w' fr, Q v w'.heap ∧ Kept w w' ∧ Steps P (lone (b.at a todo) cs w) (lone fr cs w') ∧ fr.fn = f ∧ fr.leaving P w' (.returned v)

section runs
variable {P : Program} {f : FuncId} {a : Act} {w : World} {Q : Value → Hp → Prop} {k : List Item}

theorem Runs.step {todo todo' : List Item} (hs : ∀ (b : Frame) cs, step P (lone (b.at a todo) cs w) = .next (lone (b.at a todo') cs w)) (h : Runs P f todo' a w Q) : Runs P f todo a w Q := by
  intro b hb hk cs
  obtain ⟨v, w', fr, hQ, hkp, hst, h1, h2⟩ := h b hb hk cs
  exact ⟨v, w', fr, hQ, hkp, .head (hs b cs) hst, h1, h2⟩
theorem Runs.skip (h : Runs P f k a w Q) : Runs P f (.code .skip :: k) a w Q := .step (fun _ _ => step_skip) h
theorem Runs.label {l : Nat} (h : Runs P f k a w Q) : Runs P f (.code (.label l) :: k) a w Q := .step (fun _ _ => step_label) h
theorem Runs.inBlock {i : Nat} (h : Runs P f k a w Q) : Runs P f (.inBlock i :: k) a w Q := .step (fun _ _ => step_inBlock) h
theorem Runs.seq {x y : Code} (h : Runs P f (.code x :: .code y :: k) a w Q) : Runs P f (.code (.seq x y) :: k) a w Q := .step (fun _ _ => step_seq) h
theorem Runs.cond {c : Operand} {x y : Code} {t : Bool} (hc : a.eval c = .bool t) (h : Runs P f (.code (if t then x else y) :: k) a w Q) : Runs P f (.code (.cond c x y) :: k) a w Q := .step (fun _ _ => step_cond hc) h
theorem Runs.block {i : Nat} {c : Code} (h : Runs P f (.code c :: .inBlock i :: k) a w Q) : Runs P f (.code (.block i c) :: k) a w Q := .step (fun _ _ => step_block) h
theorem Runs.loop {c : Code} (h : Runs P f (.code c :: .inLoop c :: k) a w Q) : Runs P f (.code (.loop c) :: k) a w Q := .step (fun _ _ => step_loop) h
theorem Runs.inLoop {c : Code} (h : Runs P f (.code c :: .inLoop c :: k) a w Q) : Runs P f (.inLoop c :: k) a w Q := .step (fun _ _ => step_inLoop) h
theorem Runs.exit {i : Nat} {k' : List Item} (hk : exitTo i k = some k') (h : Runs P f k' a w Q) : Runs P f (.code (.exit i) :: k) a w Q := .step (fun _ _ => step_exit hk) h
theorem Runs.code {c : Code} (h : c.wp P (fun e a' w' => e = .normal ∧ Kept w w' ∧ Runs P f k a' w' Q) a w) : Runs P f (.code c :: k) a w Q := by
  intro b hb hk cs
  obtain ⟨e, a', w', ⟨rfl, hkp, hr⟩, harr⟩ := h b k cs
  obtain ⟨v, w₂, fr, hQ, hkp₂, hst, h1, h2⟩ := hr b hb hk cs
  exact ⟨v, w₂, fr, hQ, hkp.trans hkp₂, Steps.trans harr hst, h1, h2⟩
theorem Runs.ret {fn : Func} {v : Value} (hf : P.funcs[f]? = some fn) (hd : a.defers = []) (hr : (results fn a.tmps).run P w = .ok v w) (hQ : Q v w.heap) : Runs P f (.code .ret :: k) a w Q := by
  intro b hb hk cs
  exact ⟨v, w, _, hQ, .refl w, .one step_ret, hb, rfl, hd, hk, fn, by simpa [Frame.at, hb] using hf, hr⟩
theorem Runs.fin {fn : Func} {v : Value} (hf : P.funcs[f]? = some fn) (hd : a.defers = []) (hr : (results fn a.tmps).run P w = .ok v w) (hQ : Q v w.heap) : Runs P f [] a w Q := by
  intro b hb hk cs
  exact ⟨v, w, _, hQ, .refl w, .one step_end, hb, rfl, hd, hk, fn, by simpa [Frame.at, hb] using hf, hr⟩

/-- A call is its body's run. -/
theorem Nf.of_runs {fn : Func} {c : Code} {args : Array Value} {h : Hp} (hc : Callable P f) (hf : P.funcs[f]? = some fn) (hb : fn.body = some c)
    (hr : ∀ w : World, w.heap = h → Runs P f [.code c] { tmps := args ++ Array.replicate (fn.ntmps - args.size) undef, defers := [] } w Q) : Nf P f args h Q := by
  refine .inl ⟨hc, fun w hw cs => ?_⟩
  let b : Frame := { (default : Frame) with fn := f, kind := .normal }
  have henter : Frame.enter P f args .normal = b.at { tmps := args ++ Array.replicate (fn.ntmps - args.size) undef, defers := [] } [.code c] := by
    simp [Frame.enter, Frame.at, hf, hb, b]
  obtain ⟨v, w', fr, hQ, hkp, hst, h1, h2⟩ := hr w hw b rfl rfl cs
  exact ⟨.returned v, w', fr, ⟨v, rfl, hkp, hQ⟩, by rw [henter]; exact hst, h1, h2⟩
end runs
end Go.Sb
