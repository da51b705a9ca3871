/- The evaluator of the small logic: a frame's code as a predicate transformer. Conditions: none. -/
import Derived.Test.YtbpnpmknamghkaaSbB
namespace Go.Sb
open Go

section ev
variable {α : Type}

def setCells : List Value → Nat → List Value → List Value
  | cs, _, [] => cs
  | cs, i, v :: vs => setCells (cs.set i v) (i + 1) vs
/-- a struct's or an array's parts laid into its zero -/
def fillL (place : Nat → Option (Nat × Nat)) (cells : List Value) : List (Nat × Value) → Option (List Value)
  | [] => some cells
  | (i, v) :: rest => match place i with
    | none => none
    | some (off, size) =>
      if v.cells.toList.length = size ∧ off + v.cells.toList.length ≤ cells.length then fillL place (setCells cells off v.cells.toList) rest else none
def zeroT (P : Program) (t : TypeId) : Option Value := match P.info? t with
  | some i => i.zero
  | none => none
def bytesT (P : Program) (t : TypeId) : Option Nat := (P.info? t).map (·.bytes)
def fieldPlaces (P : Program) : List Field → Option (List (Nat × Nat))
  | [] => some []
  | f :: fs => match sizeT P f.type, fieldPlaces P fs with
    | some n, some l => some ((f.offset, n) :: l)
    | _, _ => none

def pureOp (P : Program) (env : Env) (o : Oper) : Option Value := match o.op with
  | .move x => opd env x
  | .assign x => opd env x
  | .pick c a b => match opd env c, opd env a, opd env b with
    | some (.bool c), some (.bool x), some (.bool y) => some (.bool (match c with | true => x | false => y))
    | _, _, _ => none
  | .extract t i => match opd env t with
    | some (.tuple vs) => vs.toList[i]?
    | _ => none
  | .unOp op _ x => match op, opd env x with
    | .not, some (.bool b) => some (.bool (!b))
    | .neg, some (.int k n) => some (.int k (k.wrap (0 - n)))
    | _, _ => none
  | .binOp op t x y _ => match opd env x, opd env y with
    | some vx, some vy => pureBin P op t y vx vy
    | _, _ => none
  | .convert s d x => match P.underlying s, P.underlying d, opd env x with
    | some _, some (.int k), some (.int _ n) => some (.int k (k.wrap n))
    | _, _, _ => none
  | .field t x f => match P.underlying t, opd env x with
    | some (.struct fs), some (.agg cs) => match fs.toList[f]? with
      | some g => match P.underlying g.type, sizeT P g.type with
        | some _, some n => if isAggT P g.type then some (.agg (cs.toList.extract g.offset (g.offset + n)).toArray) else cs.toList[g.offset]?
        | _, _ => none
      | none => none
    | _, _ => none
  | .build t parts => match P.underlying t, zeroT P t, opdParts env parts.toList with
    | some (.struct fs), some z, some ps => match fieldPlaces P fs.toList with
      | some pl => match fillL (fun i => pl[i]?) z.cells.toList ps with
        | some cs => some (.agg cs.toArray)
        | none => none
      | none => none
    | some (.array _ e), some z, some ps => match sizeT P e with
      | some n => match fillL (fun i => some (i * n, n)) z.cells.toList ps with
        | some cs => some (.agg cs.toArray)
        | none => none
      | none => none
    | _, _, _ => none
  | .makeFunc fn first captured => match opds env first.toList, opds env captured.toList with
    | some a, some b => some (.func fn a.toArray b.toArray)
    | _, _ => none
  | .call { callee := .builtin b, args, argTypes } => match b, opds env args.toList, argTypes.toList with
    | .len, some [.slice _ n _], t :: _ => match P.underlying t with
      | some (.slice _) => some (.int .i64 n)
      | _ => none
    | .len, some [.string s], t :: _ => match P.underlying t with
      | some .string => some (.int .i64 s.size)
      | _ => none
    | .len, some (_ :: _), t :: _ => match P.underlying t with
      | some (.array n _) => some (.int .i64 n)
      | _ => none
    | .max, some (.int k x :: vs), _ => match intsOf vs with
      | some l => some (maxOf k x l)
      | none => none
    | .min, some (.int k x :: vs), _ => match intsOf vs with
      | some l => some (minOf k x l)
      | none => none
    | _, _, _ => none
  | _ => none

/-- the bound of a slice expression: given, or else this -/
def bound (env : Env) (d : Int) : Option Operand → Option Int
  | none => some d
  | some x => match opd env x with
    | some (.int _ n) => some n
    | _ => none

def evBin (op : BinOp) (k : IntKind) (a b : Int) (kk : Value → M α) : M α := match op with
  | .quo => mGuard (b ≠ 0) (kk (.int k (k.wrap (a.tdiv b))))
  | .rem => mGuard (b ≠ 0) (kk (.int k (a.tmod b)))
  | _ => mFail
def evOp (P : Program) (env : Env) (o : Oper) (kk : Value → M α) : M α :=
  match pureOp P env o with
  | some v => kk v
  | none => match o.op with
    | .binOp op _ x y _ => match opd env x, opd env y with
      | some (.int k a), some (.int k' b) => match op with
        | .shl => mGuard (0 ≤ b) (kk (.int k (k.wrap (a * 2 ^ (min b.toNat k.bits)))))
        | .shr => mGuard (0 ≤ b) (kk (.int k (a.fdiv (2 ^ (min b.toNat k.bits)))))
        | _ => if k = k' then evBin op k a b kk else mFail
      | some (.string a), some (.string b) => match op with
        | .add => mGuard (((a.size + b.size : Nat) : Int) ≤ IntKind.i64.max) (kk (.string (a ++ b)))
        | _ => mFail
      | _, _ => mFail
    | .pick c x y => match opd env c with
      | some (.bool b) => mIf b (match opd env x with
        | some v => kk v
        | none => mFail) (match opd env y with
        | some v => kk v
        | none => mFail)
      | _ => mFail
    | .nilCheck x => match opd env x with
      | some (.pointer p) => mNil p fun a => kk (.pointer (some a))
      | some (.func (.func g) f c) => kk (.func (.func g) f c)
      | _ => mFail
    | .load t x => match opd env x with
      | some (.pointer p) => mNil p fun a => ldT P t a kk
      | _ => mFail
    | .store t x y => match opd env x, opd env y, sizeT P t with
      | some (.pointer p), some v, some n => mNil p fun a => match isBigT P t with
        | true => mGuard (v.cells.toList.length = n) (mStN a v.cells.toList (kk undef))
        | false => if v.cells.toList.length = n then stCells a v.cells.toList 0 (kk undef) else mFail
      | _, _, _ => mFail
    | .alloc T => match zeroT P T with
      | some z => mNew z.cells T fun a => kk (.pointer (some a))
      | none => mFail
    | .box T x => match opd env x with
      | some v => mNew v.cells T fun a => kk (.pointer (some a))
      | none => mFail
    | .buildSlice t len parts => match P.underlying t, opdParts env parts.toList with
      | some (.slice e), some ps => match sizeT P e, zeroT P e with
        | some n, some z => if len * n ≤ 2 ^ 24 then match fillL (fun i => some (i * n, n)) (mRow z.cells len).toList ps with
            | some cs => if z.cells.toList.length = n then mNew cs.toArray e fun a => kk (.slice (some a) len len) else mFail
            | none => mFail
          else mFail
        | _, _ => mFail
      | _, _ => mFail
    | .makeSlice t l c => match P.underlying t, opd env l, opd env c with
      | some (.slice e), some (.int _ l), some (.int _ c) => match sizeT P e, zeroT P e, bytesT P e with
        | some n, some z, some b => if z.cells.toList.length = n then mMake e b z.cells l c fun s => kk (.slice s.p s.n s.c) else mFail
        | _, _, _ => mFail
      | _, _, _ => mFail
    | .slice t x lo hi mx => match P.underlying t, opd env x with
      | some .string, some (.string s) => match mx, bound env 0 lo, bound env s.size hi with
        | none, some l, some h => mSlcS s l h fun s => kk (.string s)
        | _, _, _ => mFail
      | some (.slice e), some (.slice p n c) => match sizeT P e, bound env 0 lo, bound env n hi, bound env c mx with
        | some z, some l, some h, some m => if mx.isSome && hi.isNone then mFail else mSlc ⟨p, n, c⟩ z l h m fun s => kk (.slice s.p s.n s.c)
        | _, _, _, _ => mFail
      | _, _ => mFail
    | .fieldAddr s x f => match P.underlying s, opd env x with
      | some (.struct fs), some (.pointer p) => match fs.toList[f]? with
        | some g => match sizeT P g.type with
          | some n => if n = 0 then mFail else mNil p fun a => kk (.pointer (some (a.add g.offset)))
          | none => mFail
        | none => mFail
      | _, _ => mFail
    | .indexAddr t x i => match P.underlying t, opd env x, opd env i with
      | some (.slice e), some (.slice p n c), some (.int _ j) => match sizeT P e with
        | some z => mIdx ⟨p, n, c⟩ j z fun a => kk (.pointer (some a))
        | none => mFail
      | some (.array n e), some (.pointer p), some (.int _ j) => match sizeT P e with
        | some z => mIdx ⟨p, n, n⟩ j z fun a => kk (.pointer (some a))
        | none => mFail
      | _, _, _ => mFail
    | .index t x i => match P.underlying t, opd env x, opd env i with
      | some .string, some (.string s), some (.int _ j) => mIdxS s j fun n => kk (.int .u8 n)
      | some (.array m e), some (.agg cs), some (.int _ j) => match sizeT P e, isAggT P e, P.underlying e with
        | some 1, false, some _ => match isBigT P t with
          | true => mGuard (cs.toList.length = m) (mIdxA cs.toList j fun v => un1 P e v kk)
          | false => if cs.toList.length = m then mIdxA cs.toList j fun v => un1 P e v kk else mFail
        | _, _, _ => mFail
      | _, _, _ => mFail
    | .makeMap t none => match P.underlying t with
      | some (.map _ _) => mMapNew fun r => kk (.map (some r))
      | _ => mFail
    | .lookup t x i ok => match P.underlying t, opd env x, opd env i with
      | some (.map kt e), some (.map p), some (.int kd key) => match P.underlying kt, zeroT P e, isAggT P e with
        | some (.int kd'), some z, false => if kd = kd' then mNilM p fun r => mMapGet kd r key z fun v b => un1 P e v fun v => kk (match ok with
            | true => .tuple #[v, .bool b]
            | false => v)
          else mFail
        | _, _, _ => mFail
      | _, _, _ => mFail
    | .mapUpdate t x i y => match P.underlying t, opd env x, opd env i with
      | some (.map kt e), some (.map p), some (.int kd key) => match P.underlying kt, opd env y, isAggT P e with
        | some (.int kd'), some v, false => if kd = kd' then mNilM p fun r => mMapSet kd r key v (kk undef) else mFail
        | _, _, _ => mFail
      | _, _, _ => mFail
    | .convert s d x => match P.underlying s, P.underlying d, opd env x with
      | some .string, some (.slice e), some (.string b) => match P.underlying e with
        | some (.int .u8) => mBytes e b fun s => kk (.slice s.p s.n s.c)
        | _ => mFail
      | some (.slice e), some .string, some (.slice p n c) => match P.underlying e with
        | some (.int .u8) => mStr ⟨p, n, c⟩ fun b => kk (.string b)
        | _ => mFail
      | some (.slice _), some (.slice e), some (.slice p n c) => match P.underlying e, s == d with
        | some (.int .u8), true => mMark ⟨p, n, c⟩ (kk (.slice p n c))
        | _, _ => mFail
      | _, _, _ => mFail
    | .call { callee := .value f, args, .. } => match opd env f, opds env args.toList with
      | some (.func (.func g) first cap), some vs => mBind (Nf P g (first ++ vs.toArray ++ cap)) fun v => unR P o.type v kk
      | _, _ => mFail
    | .call { callee := .builtin .append, args, argTypes } => match opds env args.toList, argTypes.toList with
      | some [.slice p n c, .slice q m d], [st, xt] => match P.underlying st, P.underlying xt with
        | some (.slice e), some (.slice _) => match sizeT P e, bytesT P e, zeroT P e with
          | some z, some b, some zv => if zv.cells.toList.length = z then mApp e z b zv.cells ⟨p, n, c⟩ ⟨q, m, d⟩ fun s => kk (.slice s.p s.n s.c) else mFail
          | _, _, _ => mFail
        | _, _ => mFail
      | _, _ => mFail
    | .call { callee := .builtin .copy, args, argTypes } => match opds env args.toList, argTypes.toList with
      | some [.slice p n c, .slice q m d], st :: _ => match P.underlying st with
        | some (.slice e) => match sizeT P e with
          | some z => mCopy z ⟨p, n, c⟩ ⟨q, m, d⟩ fun n => kk (.int .i64 n)
          | none => mFail
        | _ => mFail
      | _, _ => mFail
    | .call { callee := .builtin .clear, args, argTypes } => match opds env args.toList, argTypes.toList with
      | some [.slice p n c], st :: _ => match P.underlying st with
        | some (.slice e) => match sizeT P e, zeroT P e with
          | some z, some zv => mClear z zv.cells ⟨p, n, c⟩ (kk undef)
          | _, _ => mFail
        | _ => mFail
      | _, _ => mFail
    | .call { callee := .builtin .len, args, argTypes } => match opds env args.toList, argTypes.toList with
      | some [.map p], st :: _ => match P.underlying st with
        | some (.map kt _) => match P.underlying kt with
          | some (.int kd) => mNilM p fun r => mMapLen kd r fun n => kk (.int .i64 n)
          | _ => mFail
        | _ => mFail
      | _, _ => mFail
    | .call { callee := .builtin .delete, args, argTypes } => match opds env args.toList, argTypes.toList with
      | some [.map p, .int kd key], st :: _ => match P.underlying st with
        | some (.map kt _) => match P.underlying kt with
          | some (.int kd') => if kd = kd' then mNilM p fun r => mMapDel kd r key (kk undef) else mFail
          | _ => mFail
        | _ => mFail
      | _, _ => mFail
    | _ => mFail

/-- how a region is gone through -/
def guardSlot (ops : List Oper) (j : Nat) : Option Nat := match ops[j]? with
  | some o => o.dst
  | none => none
def put (env : Env) (d : Option Tmp) (v : Option Value) : Env := match d with
  | some d => upd env d v
  | none => env
def forgets (env : Env) : List Oper → Env
  | [] => env
  | o :: os => forgets (put env o.dst none) os
/-- is the guard of this operation the one that is gone through now? -/
def sameGuard : Option (Nat × Bool) → Option (Nat × Bool) → Bool
  | none, none => true
  | some (i, true), some (j, true) => i == j
  | some (i, false), some (j, false) => i == j
  | _, _ => false
def evPure (P : Program) : List Oper → Env → Option Env
  | [], env => some env
  | o :: os, env => match pureOp P env o with
    | some v => evPure P os (put env o.dst (some v))
    | none => none
/-- the operations up to the first one that bears the guard 'ctx' again: they, and the rest -/
def cutAt (ctx : Option (Nat × Bool)) : List Oper → List Oper × List Oper
  | [] => ([], [])
  | o :: os => match sameGuard ctx o.guard with
    | true => ([], o :: os)
    | false => match cutAt ctx os with
      | (a, b) => (o :: a, b)
def allGuard (g : Option (Nat × Bool)) : List Oper → Bool
  | [] => true
  | o :: os => sameGuard g o.guard && allGuard g os
def pickOf (want : Bool) (c : Nat) : Op → Option Operand
  | .pick (.tmp c') a b => match want, a, b, c' == c with
    | true, x, .const (.bool false), true => some x
    | false, .const (.bool true), x, true => some x
    | _, _, _, _ => none
  | _ => none
/-- does the guard that is gone through hold, as far as is known? -/
def ctxHolds (ops : List Oper) (ctx : Option (Nat × Bool)) (env : Env) : Bool := match ctx with
  | none => true
  | some (j, want) => match guardSlot ops j with
    | none => false
    | some c => match look env c, want with
      | some (.bool true), true => true
      | some (.bool false), false => true
      | _, _ => false
/-- behind a guard that fails: is every operation passed by? 'us': slots that then hold nothing -/
def skipOk (ops : List Oper) (c : Nat) (g : Nat × Bool) : List Nat → List Oper → Bool
  | _, [] => true
  | us, o :: os => (o.dst != some c) && (sameGuard (some g) o.guard || (match o.guard with
      | some (j, _) => match guardSlot ops j with
        | some c' => us.contains c' && c' != c
        | none => false
      | none => false)) && skipOk ops c g (o.dst.toList ++ us) os
def mIf2 (want b : Bool) (m : M Bool) : M Bool := match want with
  | true => mIf b m (mRet false)
  | false => mIf b (mRet true) m
def comb (want b v : Bool) : Bool := match want with
  | true => b && v
  | false => b || v
def boolOf (env : Env) (x : Operand) : M Bool := match opd env x with
  | some (.bool r) => mRet r
  | _ => mFail
def pureBool (P : Program) (g : Nat × Bool) (grp : List Oper) (env : Env) (x : Operand) : Option Bool := match allGuard (some g) grp with
  | false => none
  | true => match evPure P grp env with
    | none => none
    | some env' => match opd env' x with
      | some (.bool r) => some r
      | _ => none

/-- the operations of a region in their order; 'step' is one operation -/
def evOps (P : Program) (ops : List Oper) (step : (β : Type) → Env → Oper → (Value → M β) → M β) : Nat → (α : Type) → Option (Nat × Bool) → List Oper → Env → (Env → M α) → M α
  | 0, _, _, _, _, _ => mFail
  | n + 1, α, ctx, l, env, fin => match l with
    | [] => fin env
    | o :: os => match sameGuard ctx o.guard with
      | true => match ctxHolds ops ctx env with
        | true => step α env o fun v => evOps P ops step n α ctx os (put env o.dst (some v)) fin
        | false => mFail
      | false => match o.guard with
        | none => mFail
        | some (j, want) => match guardSlot ops j with
          | none => mFail
          | some c => match look env c with
            | some (.bool b) => match cutAt ctx (o :: os) with
              | (grp, pk :: rest) => match pickOf want c pk.op, skipOk ops c (j, want) [] grp, ctxHolds ops ctx (forgets env grp) with
                | some x, true, true => match pureBool P (j, want) grp (upd env c (some (.bool want))) x with
                  | some v => evOps P ops step n α ctx rest (put (forgets env grp) pk.dst (some (.bool (comb want b v)))) fin
                  | none => mBind (mIf2 want b (evOps P ops step n Bool (some (j, want)) grp (upd env c (some (.bool want))) fun env' => boolOf env' x)) fun r =>
                    evOps P ops step n α ctx rest (put (forgets env grp) pk.dst (some (.bool r))) fin
                | _, _, _ => mFail
              | _ => mFail
            | _ => mFail

/-- a call that leaves the memory alone, and whose answer is one -/
def mQ (m : M Value) (k : Value → M α) : M α := fun h Q => ∃ v, m h (fun v' h' => v' = v ∧ h' = h) ∧ k v h Q
def mCallQ (P : Program) (g : FuncId) (args : Array Value) (k : Value → M α) : M α := mQ (Nf P g args) k
def isLoad : Op → Bool
  | .load _ _ => true
  | .lookup _ _ _ _ => true
  | _ => false
/-- operations that leave the memory alone -/
def quietKind : Op → Bool
  | .nilCheck _ | .load _ _ | .lookup _ _ _ _ | .binOp _ _ _ _ _ | .fieldAddr _ _ _ | .indexAddr _ _ _ | .index _ _ _ | .slice _ _ _ _ _ => true
  | _ => false
def evOpQ (P : Program) (β : Type) (env : Env) (o : Oper) (kk : Value → M β) : M β := match pureOp P env o with
  | some v => kk v
  | none => match o.op with
    | .call { callee := .value f, args, .. } => match opd env f, opds env args.toList with
      | some (.func (.func g) first cap), some vs => mCallQ P g (first ++ vs.toArray ++ cap) fun v => unR P o.type v kk
      | _, _ => mFail
    | op => match quietKind op with
      | true => evOp P env o kk
      | false => mFail

/-- keep what is live -/
def keepOnly : List Nat → Nat → Env → Env
  | _, _, [] => []
  | live, i, x :: xs => (match live.contains i with
    | true => x
    | false => none) :: keepOnly live (i + 1) xs
structure Ag (env : Env) (a : Act) : Prop where
  size : env.length = a.tmps.size
  at_ : ∀ i v, look env i = some v → a.tmps[i]? = some v
  defers : a.defers = []
/-- what a frame that stands there, its slots as said, comes to -/
def Cut (P : Program) (f : FuncId) (todo : List Item) (env : Env) : M Value := fun h Q =>
  ∀ a w, w.heap = h → Ag env a → Runs P f todo a w Q
def cutLive (cuts : List (Nat × List Nat)) (id : Nat) : Option (List Nat) := match cuts with
  | [] => none
  | (i, l) :: cs => match i == id with
    | true => some l
    | false => cutLive cs id
def retVals (P : Program) (env : Env) : List ResultVar → List Value → (List Value → M Value) → M Value
  | [], acc, k => k acc
  | .tmp t :: rs, acc, k => match look env t with
    | some v => retVals P env rs (acc ++ [v]) k
    | none => mFail
  | .cell x t :: rs, acc, k => match look env x with
    | some (.pointer p) => mNil p fun a => ldT P t a fun v => retVals P env rs (acc ++ [v]) k
    | _ => mFail
def retV (P : Program) (env : Env) (rs : List ResultVar) : M Value := retVals P env rs [] fun vs => match vs with
  | [v] => mRet v
  | vs => mRet (.tuple vs.toArray)
/-- operations that do not look at the memory -/
def stillKind : Op → Bool
  | .nilCheck _ | .binOp _ _ _ _ _ | .fieldAddr _ _ _ | .indexAddr _ _ _ | .index _ _ _ | .slice _ _ _ _ _ => true
  | _ => false
/-- is the operation's guard known, or has it none? -/
def guardKnown (ops : List Oper) (env : Env) : Option (Nat × Bool) → Bool
  | none => true
  | some (j, _) => match guardSlot ops j with
    | none => false
    | some c => match look env c with
      | some (.bool _) => true
      | some (.tuple _) => true
      | _ => false
/-- may operation i be taken first, whatever else may come up? -/
def firstOf (P : Program) (ops : Array Oper) (listed : Array Bool) (env : Env) : List Nat → Option Nat
  | [] => none
  | i :: is => match ops.toList[i]? with
    | none => none
    | some o => match guardKnown ops.toList env o.guard, Region.free .any ops listed i, (pureOp P env o).isSome || stillKind o.op with
      | true, true, true => some i
      | _, _, _ => firstOf P ops listed env is
/-- one operation, its guard asked -/
def evOne (P : Program) (ops : List Oper) (o : Oper) (env : Env) (k : Env → M Value) : M Value := match o.guard with
  | none => evOp P env o fun v => k (put env o.dst (some v))
  | some (j, want) => match guardSlot ops j with
    | none => mFail
    | some c => match look env c with
      | some (.tuple _) => k (put env o.dst (some undef))
      | some (.bool b) => match want with
        | true => mIf b (evOp P (upd env c (some (.bool true))) o fun v => k (put (upd env c (some (.bool true))) o.dst (some v))) (k (put (upd env c (some (.bool false))) o.dst (some undef)))
        | false => mIf b (k (put (upd env c (some (.bool true))) o.dst (some undef))) (evOp P (upd env c (some (.bool false))) o fun v => k (put (upd env c (some (.bool false))) o.dst (some v)))
      | _ => mFail
/-- each of these, whichever comes up -/
def evEach (P : Program) (ops : List Oper) (env : Env) (k : Nat → Env → M Value) : List Nat → M Value
  | [] => mFail
  | [i] => match ops[i]? with
    | none => mFail
    | some o => evOne P ops o env (k i)
  | i :: is => match ops[i]? with
    | none => mFail
    | some o => mAnd (evOne P ops o env (k i)) (evEach P ops env k is)
/-- whatever order the edges allow -/
def evAny (P : Program) (ops : Array Oper) : Nat → Array Bool → Env → (Env → M Value) → M Value
  | 0, listed, env, fin => match Region.ready .any ops listed with
    | [] => fin env
    | _ :: _ => mFail
  | n + 1, listed, env, fin => match Region.ready .any ops listed with
    | [] => fin env
    | rs => match firstOf P ops listed env rs with
      | some i => match ops.toList[i]? with
        | none => mFail
        | some o => evOne P ops.toList o env fun env' => evAny P ops n (listed.setIfInBounds i true) env' fin
      | none => evEach P ops.toList env (fun i env' => evAny P ops n (listed.setIfInBounds i true) env' fin) rs
def atAll (ops : List Oper) : List Nat → Option (List Oper)
  | [] => some []
  | i :: is => match ops[i]?, atAll ops is with
    | some o, some os => some (o :: os)
    | _, _ => none
def marksOf (listed : Array Bool) : List Nat → Array Bool
  | [] => listed
  | i :: is => marksOf (listed.setIfInBounds i true) is
def lexT (ops : Array Oper) : List Nat → Array Bool → Bool
  | [], _ => true
  | k :: ks, listed => (Region.ready .any ops listed).contains k && Region.free .any ops listed k && lexT ops ks (listed.setIfInBounds k true)
/-- every other operation waits for each of these -/
def tailB (ops : Array Oper) (hd : List Nat) : Bool := (List.range ops.size).all fun j => hd.contains j || hd.all fun i => match ops.toList[j]? with
  | some oj => oj.after.any fun e => Region.binds .any e && e.on == i
  | none => false
def headOf (dm : List (Nat × List Nat)) (id : Nat) : Option (List Nat) := cutLive dm id
def evDraw (P : Program) (ops : Array Oper) (hd : List Nat) (env : Env) (fin : Env → M Value) : M Value :=
  match lexT ops hd (Array.replicate ops.size false) && Region.noSelect ops && tailB ops hd && hd.all (fun i => decide (i < ops.size)) && decide (hd.length ≤ ops.size), atAll ops.toList hd with
  | true, some l => evOps P ops.toList (evOpQ P) (l.length + 1) Value none l env fun env' => evAny P ops (ops.size - hd.length) (marksOf (Array.replicate ops.size false) hd) env' fin
  | _, _ => mFail
def bodyOf (fn : Func) : Code := match fn.body with
  | some c => c
  | none => .skip
/-- what is still to be done where region 'id' begins -/
def todoAt (id : Nat) : Code → List Item → Option (List Item)
  | .region i ops d, k => match i == id with
    | true => some (.code (.region i ops d) :: k)
    | false => none
  | .seq a b, k => match todoAt id a (.code b :: k) with
    | some t => some t
    | none => todoAt id b k
  | .cond _ x y, k => match todoAt id x k with
    | some t => some t
    | none => todoAt id y k
  | .block i c, k => todoAt id c (.inBlock i :: k)
  | .loop c, k => todoAt id c (.inLoop c :: k)
  | _, _ => none
def todoOf (fn : Func) (id : Nat) : List Item := match todoAt id (bodyOf fn) [] with
  | some t => t
  | none => []
def assoc : List (Nat × Value) → Nat → Option Value
  | [], _ => none
  | (j, v) :: l, i => match j == i with
    | true => some v
    | false => assoc l i
/-- n slots, from number i on: what is listed -/
def mkEnv (l : List (Nat × Value)) : Nat → Nat → Env
  | 0, _ => []
  | n + 1, i => assoc l i :: mkEnv l n (i + 1)

/-- THE EVALUATOR: what is still to be done, step by step, up to the next cut -/
def ev (P : Program) (f : FuncId) (res : List ResultVar) (cuts dm : List (Nat × List Nat)) : Nat → Bool → List Item → Env → M Value
  | 0, _, _, _ => mFail
  | n + 1, first, todo, env => match todo with
    | [] => retV P env res
    | .code c :: k => match c with
      | .ret => retV P env res
      | .skip => ev P f res cuts dm n first k env
      | .label _ => ev P f res cuts dm n first k env
      | .seq x y => ev P f res cuts dm n first (.code x :: .code y :: k) env
      | .cond c x y => match opd env c with
        | some (.bool b) => mIf b (ev P f res cuts dm n false (.code x :: k) env) (ev P f res cuts dm n false (.code y :: k) env)
        | _ => mFail
      | .block i c => ev P f res cuts dm n first (.code c :: .inBlock i :: k) env
      | .loop c => ev P f res cuts dm n first (.code c :: .inLoop c :: k) env
      | .exit i => match exitTo i k with
        | some k' => ev P f res cuts dm n first k' env
        | none => mFail
      | .region id ops draw => match first, cutLive cuts id with
        | false, some live => Cut P f (.code (.region id ops draw) :: k) (keepOnly live 0 env)
        | _, _ => match draw with
          | false => evOps P ops.toList (fun _ env o kk => evOp P env o kk) (ops.toList.length + 1) Value none ops.toList env fun env' => ev P f res cuts dm n false k env'
          | true => match headOf dm id with
            | some hd => evDraw P ops hd env fun env' => ev P f res cuts dm n false k env'
            | none => match Region.lexB .any ops with
              | true => evOps P ops.toList (evOpQ P) (ops.toList.length + 1) Value none ops.toList env fun env' => ev P f res cuts dm n false k env'
              | false => mFail
      | _ => mFail
    | .inBlock _ :: k => ev P f res cuts dm n first k env
    | .inLoop c :: k => ev P f res cuts dm n first (.code c :: .inLoop c :: k) env
    | _ => mFail
end ev
end Go.Sb
