/- The typed steps of the small logic: what each operation of the model comes to over heaps, as predicate transformers. Conditions: none. -/
import Derived.Test.YtbpnpmknamghkaaSbA
namespace Go.Sb
open Go

structure Sl where
  p : Option Addr
  n : Nat
  c : Nat

section prim
variable {α : Type}
def mLdI (kd : IntKind) (a : Addr) (k : Int → M α) : M α := fun h Q => ∃ n, hcell h a = some (.int kd n) ∧ k n h Q
def mLdB (a : Addr) (k : Bool → M α) : M α := fun h Q => ∃ n, hcell h a = some (.bool n) ∧ k n h Q
def mLdS (a : Addr) (k : ByteArray → M α) : M α := fun h Q => ∃ n, hcell h a = some (.string n) ∧ k n h Q
def mLdP (a : Addr) (k : Option Addr → M α) : M α := fun h Q => ∃ n, hcell h a = some (.pointer n) ∧ k n h Q
def mLdL (a : Addr) (k : Sl → M α) : M α := fun h Q => ∃ s : Sl, hcell h a = some (.slice s.p s.n s.c) ∧ k s h Q
def mLdF (a : Addr) (k : Nat → Array Value → Array Value → M α) : M α := fun h Q => ∃ g f c, hcell h a = some (.func (.func g) f c) ∧ k g f c h Q
def mLdM (a : Addr) (k : Option Nat → M α) : M α := fun h Q => ∃ r, hcell h a = some (.map r) ∧ k r h Q
def mLdV (a : Addr) (k : Value → M α) : M α := fun h Q => ∃ v, hcell h a = some v ∧ k v h Q
def mSt (a : Addr) (v : Value) (k : M α) : M α := fun h Q => v.oneCell' = true ∧ (hcell h a).isSome = true ∧ hfrozen h a = false ∧ k (hset h a v) Q
def mNew (cs : Array Value) (T : TypeId) (k : Addr → M α) : M α := fun h Q => k ⟨h.size, 0, none⟩ (h.push (.cells cs T)) Q
def mNil (p : Option Addr) (k : Addr → M α) : M α := match p with
  | some a => k a
  | none => mFail
def mGuard (c : Prop) (k : M α) : M α := fun h Q => c ∧ k h Q
def mIdx (s : Sl) (i : Int) (sz : Nat) (k : Addr → M α) : M α := fun h Q => ∃ a, s.p = some a ∧ 0 ≤ i ∧ i < s.n ∧ k (a.add (i.toNat * sz)) h Q
def mRow (zero : Array Value) (n : Nat) : Array Value := (Array.range (n * zero.size)).map fun i => zero[i % zero.size]!
def mMake (T : TypeId) (bytes : Nat) (zero : Array Value) (l c : Int) (k : Sl → M α) : M α := fun h Q =>
  0 ≤ l ∧ l ≤ c ∧ bytes * c ≤ 2 ^ 48 ∧ c ≤ IntKind.i64.max ∧ k ⟨some ⟨h.size, 0, none⟩, l.toNat, c.toNat⟩ (h.push (.cells (mRow zero c.toNat) T)) Q
/-- what stands in n cells from a on -/
def hcells (h : Hp) (a : Addr) : Nat → Nat → Option (List Value)
  | _, 0 => some []
  | i, n + 1 => match hcell h (a.add i), hcells h a (i + 1) n with
    | some v, some vs => some (v :: vs)
    | _, _ => none
def hsets (h : Hp) (a : Addr) : Nat → List Value → Hp
  | _, [] => h
  | i, v :: vs => hsets (hset h (a.add i) v) a (i + 1) vs
/-- every one of n cells from a on may be written -/
def hfree (h : Hp) (a : Addr) (i n : Nat) : Prop := ∀ j, i ≤ j → j < i + n → (hcell h (a.add j)).isSome = true ∧ hfrozen h (a.add j) = false
/-- what a slice's n elements hold -/
def slcells (h : Hp) (s : Sl) (n sz : Nat) : Option (List Value) := match s.p with
  | some a => hcells h a 0 (n * sz)
  | none => some []
def mApp (T : TypeId) (sz bytes : Nat) (zero : Array Value) (s x : Sl) (k : Sl → M α) : M α := fun h Q =>
  ∃ xs, slcells h x x.n sz = some xs ∧ (∀ v ∈ xs, v.oneCell' = true) ∧
    if s.n + x.n ≤ s.c then
      match s.p with
      | some a => hfree h (a.add (s.n * sz)) 0 xs.length ∧ k ⟨s.p, s.n + x.n, s.c⟩ (hsets h (a.add (s.n * sz)) 0 xs) Q
      | none => k ⟨s.p, s.n + x.n, s.c⟩ h Q
    else
      0 < bytes ∧ Builtin.nextslicecap (s.n + x.n) s.c * bytes ≤ 2 ^ 48 ∧ ∃ old, slcells h s s.n sz = some old ∧
        ∀ c, s.n + x.n ≤ c → k ⟨some ⟨h.size, 0, none⟩, s.n + x.n, c⟩ (h.push (.cells ((old ++ xs).toArray ++ mRow zero (c - (s.n + x.n))) T)) Q
def mCopy (sz : Nat) (d x : Sl) (k : Int → M α) : M α := fun h Q =>
  ∃ xs, slcells h x (min x.n d.n) sz = some xs ∧ (∀ v ∈ xs, v.oneCell' = true) ∧
    match d.p with
    | some a => hfree h a 0 xs.length ∧ k (min x.n d.n : Nat) (hsets h a 0 xs) Q
    | none => k (min x.n d.n : Nat) h Q
/-- clear(s) -/
def mClear (sz : Nat) (zero : Array Value) (s : Sl) (k : M α) : M α := fun h Q => match s.p with
  | some a => (∀ v ∈ (mRow zero s.n).toList, v.oneCell' = true) ∧ (mRow zero s.n).toList.length = s.n * sz ∧ hfree h a 0 (mRow zero s.n).toList.length ∧ k (hsets h a 0 (mRow zero s.n).toList) Q
  | none => k h Q
/-- a map whose keys are whole numbers: what each key tells, and how many there are -/
def ment (kd : IntKind) (e : Int × Value × Nat) : MapEntry := { key := .int kd e.1, val := e.2.1, born := e.2.2 }
def HMap (h : Hp) (r : Nat) (kd : IntKind) (f : Int → Option Value) (n : Nat) : Prop :=
  ∃ (m : List (Int × Value × Nat)) (clock : Nat), h[r]? = some (.map (m.map (ment kd)).toArray clock) ∧ (m.map (·.1)).Nodup ∧ m.length = n ∧ ∀ k, f k = (m.find? (·.1 == k)).map (·.2.1)
def mMapNew (k : Nat → M α) : M α := fun h Q => k h.size (h.push (.map #[] 0)) Q
def mNilM (p : Option Nat) (k : Nat → M α) : M α := match p with
  | some a => k a
  | none => mFail
def mMapGet (kd : IntKind) (r : Nat) (key : Int) (z : Value) (k : Value → Bool → M α) : M α := fun h Q => ∃ f n, HMap h r kd f n ∧ k ((f key).getD z) (f key).isSome h Q
def mMapSet (kd : IntKind) (r : Nat) (key : Int) (v : Value) (K : M α) : M α := fun h Q => ∃ f n, HMap h r kd f n ∧
  ∀ h', h'.size = h.size → (∀ b, b ≠ r → h'[b]? = h[b]?) → HMap h' r kd (fun j => if j = key then some v else f j) (if (f key).isSome then n else n + 1) → K h' Q
def mMapDel (kd : IntKind) (r : Nat) (key : Int) (K : M α) : M α := fun h Q => ∃ f n, HMap h r kd f n ∧
  ∀ h', h'.size = h.size → (∀ b, b ≠ r → h'[b]? = h[b]?) → HMap h' r kd (fun j => if j = key then none else f j) (if (f key).isSome then n - 1 else n) → K h' Q
def mMapLen (kd : IntKind) (r : Nat) (K : Nat → M α) : M α := fun h Q => ∃ f n, HMap h r kd f n ∧ K n h Q
/-- x[lo:hi:mx] of a slice -/
def mSlc (s : Sl) (sz : Nat) (lo hi : Int) (mx : Int) (k : Sl → M α) : M α := fun h Q =>
  0 ≤ lo ∧ lo ≤ hi ∧ hi ≤ mx ∧ mx ≤ s.c ∧ k ⟨if mx.toNat = lo.toNat then s.p else s.p.map (·.add (lo.toNat * sz)), hi.toNat - lo.toNat, mx.toNat - lo.toNat⟩ h Q
def mSlcS (s : ByteArray) (lo hi : Int) (k : ByteArray → M α) : M α := fun h Q =>
  0 ≤ lo ∧ lo ≤ hi ∧ hi ≤ s.size ∧ k (s.extract lo.toNat hi.toNat) h Q
/-- an array's element, by value -/
def mIdxA (cs : List Value) (i : Int) (k : Value → M α) : M α := fun h Q => ∃ v, 0 ≤ i ∧ cs[i.toNat]? = some v ∧ k v h Q
def mIdxS (s : ByteArray) (i : Int) (k : Int → M α) : M α := fun h Q => ∃ b, 0 ≤ i ∧ s[i.toNat]? = some b ∧ k (b.toNat : Int) h Q
/-- []byte(s) -/
def mBytes (T : TypeId) (s : ByteArray) (k : Sl → M α) : M α := fun h Q =>
  ∀ c, s.size ≤ c → k ⟨some ⟨h.size, 0, none⟩, s.size, c⟩ (h.push (.cells ((s.data.map fun b => Value.int .u8 b.toNat) ++ Array.replicate (c - s.size) (.int .u8 0)) T (c, c + 1))) Q
/-- a row of constant bytes gets its mark: the one place behind its last cell -/
def mMark (s : Sl) (k : M α) : M α := fun h Q =>
  ∃ b o cs T, s.p = some ⟨b, o, none⟩ ∧ h[b]? = some (.cells cs T (0, 0)) ∧ k (h.setIfInBounds b (.cells cs T (cs.size, cs.size + 1))) Q
/-- string(x) of bytes -/
def mStr (x : Sl) (k : ByteArray → M α) : M α := fun h Q =>
  ∃ bs : List UInt8, slcells h x x.n 1 = some (bs.map fun b => .int .u8 b.toNat) ∧ k ⟨bs.toArray⟩ h Q

def unI (kd : IntKind) (v : Value) (k : Int → M α) : M α := match v with
  | .int k' n => if k' = kd then k n else mFail
  | _ => mFail
def unB (v : Value) (k : Bool → M α) : M α := match v with
  | .bool b => k b
  | _ => mFail
def unS (v : Value) (k : ByteArray → M α) : M α := match v with
  | .string b => k b
  | _ => mFail
def unP (v : Value) (k : Option Addr → M α) : M α := match v with
  | .pointer b => k b
  | _ => mFail
def unL (v : Value) (k : Sl → M α) : M α := match v with
  | .slice p n c => k ⟨p, n, c⟩
  | _ => mFail
def unM (v : Value) (k : Option Nat → M α) : M α := match v with
  | .map r => k r
  | _ => mFail
def unF (v : Value) (k : Nat → Array Value → Array Value → M α) : M α := match v with
  | .func (.func g) f c => k g f c
  | _ => mFail
def unA (v : Value) (k : List Value → M α) : M α := match v with
  | .agg cs => k cs.toList
  | _ => mFail
def unT (v : Value) (k : List Value → M α) : M α := match v with
  | .tuple cs => k cs.toList
  | _ => mFail
def unE (cs : List Value) (k : M α) : M α := match cs with
  | [] => k
  | _ :: _ => mFail
def unC (cs : List Value) (k : Value → List Value → M α) : M α := match cs with
  | c :: cs => k c cs
  | [] => mFail
/-- two results at once; three -/
def un2 {β γ : Type} (u : Value → (β → M α) → M α) (u' : Value → (γ → M α) → M α) (v : Value) (k : β → γ → M α) : M α :=
  unT v fun l => unC l fun c l => u c fun x => unC l fun d l => u' d fun y => unE l (k x y)
def un3 {β γ δ : Type} (u : Value → (β → M α) → M α) (u' : Value → (γ → M α) → M α) (u'' : Value → (δ → M α) → M α) (v : Value) (k : β → γ → δ → M α) : M α :=
  unT v fun l => unC l fun c l => u c fun x => unC l fun d l => u' d fun y => unC l fun e l => u'' e fun z => unE l (k x y z)
/-- numbers bit by bit -/
def iand (k : IntKind) (a b : Int) : Int := k.wrap (BitVec.ofInt k.bits a &&& BitVec.ofInt k.bits b).toNat
def ior (k : IntKind) (a b : Int) : Int := k.wrap (BitVec.ofInt k.bits a ||| BitVec.ofInt k.bits b).toNat
def ixor (k : IntKind) (a b : Int) : Int := k.wrap (BitVec.ofInt k.bits a ^^^ BitVec.ofInt k.bits b).toNat
def iandn (k : IntKind) (a b : Int) : Int := k.wrap (BitVec.ofInt k.bits a &&& ~~~BitVec.ofInt k.bits b).toNat
def ishl (k : IntKind) (a b : Int) : Int := k.wrap (a * 2 ^ (min b.toNat k.bits))
def ishr (k : IntKind) (a b : Int) : Int := a.fdiv (2 ^ (min b.toNat k.bits))
end prim

section ev
variable {α : Type}
/-- the scalar types of a type's cells, one by one -/
def flatK (P : Program) : Nat → TypeId → Option (List TypeId)
  | 0, _ => none
  | d + 1, t => match P.underlying t with
    | some (.struct fs) => fs.toList.foldr (fun f acc => match flatK P d f.type, acc with
      | some x, some y => some (x ++ y)
      | _, _ => none) (some [])
    | some (.array n e) => match flatK P d e with
      | some x => some ((List.replicate n x).flatten)
      | none => none
    | _ => some [t]
def isAggT (P : Program) (t : TypeId) : Bool := match P.underlying t with
  | some (.struct _) | some (.array _ _) => true
  | _ => false
/-- arrays of many cells, by value: their cells are held as one list -/
def isBigT (P : Program) (t : TypeId) : Bool := match P.underlying t with
  | some (.array n _) => Nat.blt 16 n
  | _ => false
def mLdN (a : Addr) (n : Nat) (k : List Value → M α) : M α := fun h Q => ∃ cs, hcells h a 0 n = some cs ∧ k cs h Q
def mStN (a : Addr) (cs : List Value) (k : M α) : M α := fun h Q => (∀ v ∈ cs, v.oneCell' = true) ∧ hfree h a 0 cs.length ∧ k (hsets h a 0 cs) Q
def ld1 (P : Program) (t : TypeId) (a : Addr) (k : Value → M α) : M α := match P.underlying t with
  | some (.int kd) => mLdI kd a fun n => k (.int kd n)
  | some .bool => mLdB a fun b => k (.bool b)
  | some .string => mLdS a fun b => k (.string b)
  | some (.pointer _) => mLdP a fun b => k (.pointer b)
  | some (.slice _) => mLdL a fun s => k (.slice s.p s.n s.c)
  | some (.func _ _ _) => mLdF a fun g f c => k (.func (.func g) f c)
  | some (.map _ _) => mLdM a fun r => k (.map r)
  | _ => mLdV a k
def ldCells (P : Program) (a : Addr) : List TypeId → Nat → Array Value → (Array Value → M α) → M α
  | [], _, acc, k => k acc
  | t :: ts, i, acc, k => ld1 P t (a.add i) fun v => ldCells P a ts (i + 1) (acc.push v) k
def sizeT (P : Program) (t : TypeId) : Option Nat := (P.info? t).map (·.size)
def ldT (P : Program) (t : TypeId) (a : Addr) (k : Value → M α) : M α :=
  match P.underlying t with
  | none => mFail
  | some _ => match isBigT P t with
    | true => match sizeT P t with
      | some n => mLdN a n fun cs => k (.agg cs.toArray)
      | none => mFail
    | false => if isAggT P t then match flatK P 20 t, sizeT P t with
        | some ks, some n => if ks.length = n then ldCells P a ks 0 #[] fun cs => k (.agg cs) else mFail
        | _, _ => mFail
      else ld1 P t a k
def stCells (a : Addr) : List Value → Nat → M α → M α
  | [], _, k => k
  | v :: vs, i, k => mSt (a.add i) v (stCells a vs (i + 1) k)
def un1 (P : Program) (t : TypeId) (v : Value) (k : Value → M α) : M α := match P.underlying t with
  | some (.int kd) => unI kd v fun n => k (.int kd n)
  | some .bool => unB v fun b => k (.bool b)
  | some .string => unS v fun b => k (.string b)
  | some (.pointer _) => unP v fun b => k (.pointer b)
  | some (.slice _) => unL v fun s => k (.slice s.p s.n s.c)
  | some (.func _ _ _) => unF v fun g f c => k (.func (.func g) f c)
  | some (.map _ _) => unM v fun r => k (.map r)
  | _ => k v
def unCells (P : Program) : List TypeId → List Value → Array Value → (Array Value → M α) → M α
  | [], cs, acc, k => unE cs (k acc)
  | t :: ts, cs, acc, k => unC cs fun c cs => un1 P t c fun v => unCells P ts cs (acc.push v) k
def unV (P : Program) (t : TypeId) (v : Value) (k : Value → M α) : M α := match isBigT P t with
  | true => unA v fun cs => k (.agg cs.toArray)
  | false => if isAggT P t then match flatK P 20 t with
      | some ks => unA v fun cs => unCells P ks cs #[] fun cs => k (.agg cs)
      | none => mFail
    else un1 P t v k
def unVs (P : Program) : List TypeId → List Value → Array Value → (Array Value → M α) → M α
  | [], cs, acc, k => unE cs (k acc)
  | t :: ts, cs, acc, k => unC cs fun c cs => unV P t c fun v => unVs P ts cs (acc.push v) k
/-- a call's result, by the call's type -/
def unR (P : Program) (t : TypeId) (v : Value) (k : Value → M α) : M α := match P.underlying t with
  | some (.tuple ⟨[]⟩) => k v
  | some (.tuple ts) => unT v fun cs => unVs P ts.toList cs #[] fun vs => k (.tuple vs)
  | _ => unV P t v k

abbrev Env := List (Option Value)
def look : Env → Nat → Option Value
  | [], _ => none
  | x :: _, 0 => x
  | _ :: xs, n + 1 => look xs n
def upd : Env → Nat → Option Value → Env
  | [], _, _ => []
  | _ :: xs, 0, v => v :: xs
  | x :: xs, n + 1, v => x :: upd xs n v
def opd (env : Env) : Operand → Option Value
  | .tmp t => look env t
  | .const v => some v
  | .global g => some (.pointer (some ⟨g, 0, none⟩))
  | .func f => some (.func (.func f) #[] #[])
def opds (env : Env) : List Operand → Option (List Value)
  | [] => some []
  | x :: xs => match opd env x, opds env xs with
    | some v, some vs => some (v :: vs)
    | _, _ => none
def opdParts (env : Env) : List (Nat × Operand) → Option (List (Nat × Value))
  | [] => some []
  | x :: xs => match opd env x.2, opdParts env xs with
    | some v, some vs => some ((x.1, v) :: vs)
    | _, _ => none

def pureInt (op : BinOp) (k : IntKind) (a b : Int) : Option Value := match op with
  | .add => some (.int k (k.wrap (a + b)))
  | .sub => some (.int k (k.wrap (a - b)))
  | .mul => some (.int k (k.wrap (a * b)))
  | .eql => some (.bool (a == b))
  | .neq => some (.bool (a != b))
  | .lss => some (.bool (a < b))
  | .leq => some (.bool (a ≤ b))
  | .gtr => some (.bool (a > b))
  | .geq => some (.bool (a ≥ b))
  | .and => some (.int k (k.wrap (BitVec.ofInt k.bits a &&& BitVec.ofInt k.bits b).toNat))
  | .or => some (.int k (k.wrap (BitVec.ofInt k.bits a ||| BitVec.ofInt k.bits b).toNat))
  | .xor => some (.int k (k.wrap (BitVec.ofInt k.bits a ^^^ BitVec.ofInt k.bits b).toNat))
  | .andNot => some (.int k (k.wrap (BitVec.ofInt k.bits a &&& ~~~BitVec.ofInt k.bits b).toNat))
  | _ => none
def pureStr (op : BinOp) (a b : ByteArray) : Option Value := match op with
  | .eql => some (.bool (a.toList == b.toList))
  | .neq => some (.bool (!(a.toList == b.toList)))
  | .lss => some (.bool (Op.bytesLess a.toList b.toList))
  | .leq => some (.bool (Op.bytesLess a.toList b.toList || a.toList == b.toList))
  | .gtr => some (.bool (!(Op.bytesLess a.toList b.toList || a.toList == b.toList)))
  | .geq => some (.bool (!(Op.bytesLess a.toList b.toList)))
  | _ => none
def isNilPtr : Operand → Bool
  | .const (.pointer none) => true
  | _ => false
def isNilSlice : Operand → Bool
  | .const (.slice none _ _) => true
  | _ => false
def partV (P : Program) (t : TypeId) (xs : List Value) (off : Nat) : Option Value := match P.underlying t, sizeT P t with
  | some _, some n => match isAggT P t with
    | true => some (.agg (xs.extract off (off + n)).toArray)
    | false => xs[off]?
  | _, _ => none
def eqFs (P : Program) (e : TypeId → Value → Value → Option Bool) (xs ys : List Value) : List Field → Option Bool
  | [] => some true
  | f :: fs => match f.name == "_" with
    | true => none
    | false => match partV P f.type xs f.offset, partV P f.type ys f.offset with
      | some a, some b => match e f.type a b, eqFs P e xs ys fs with
        | some r, some s => some (r && s)
        | _, _ => none
      | _, _ => none
/-- two values of one type are one: what is asked -/
def eqV (P : Program) : Nat → TypeId → Value → Value → Option Bool
  | 0, _, _, _ => none
  | d + 1, t, x, y => match P.underlying t, x, y with
    | some (.int _), .int k a, .int k' b => if k = k' then some (a == b) else none
    | some .bool, .bool a, .bool b => some (a == b)
    | some .string, .string a, .string b => some (a.toList == b.toList)
    | some (.struct fs), .agg xs, .agg ys => match P.stoodInHeld t with
      | true => none
      | false => eqFs P (eqV P d) xs.toList ys.toList fs.toList
    | _, _, _ => none
def pureBin (P : Program) (op : BinOp) (t : TypeId) (y : Operand) (vx vy : Value) : Option Value := match vx, vy with
  | .int k a, .int k' b => if k = k' then pureInt op k a b else none
  | .bool a, .bool b => match op, P.underlying t with
    | .eql, some .bool => some (.bool (a == b))
    | .neq, some .bool => some (.bool (!(a == b)))
    | _, _ => none
  | .string a, .string b => pureStr op a b
  | .pointer p, _ => match isNilPtr y, op, P.underlying t with
    | true, .eql, some (.pointer _) => some (.bool p.isNone)
    | true, .neq, some (.pointer _) => some (.bool (!p.isNone))
    | _, _, _ => none
  | .slice p _ _, _ => match isNilSlice y, op, P.underlying t with
    | true, .eql, some (.slice _) => some (.bool p.isNone)
    | true, .neq, some (.slice _) => some (.bool (!p.isNone))
    | _, _, _ => none
  | .agg xs, .agg ys => match op, P.eqGuardType P.depth t, eqV P 20 t (.agg xs) (.agg ys) with
    | .eql, false, some b => some (.bool b)
    | .neq, false, some b => some (.bool (!b))
    | _, _, _ => none
  | _, _ => none
def intsOf : List Value → Option (List (IntKind × Int))
  | [] => some []
  | .int k n :: vs => match intsOf vs with
    | some l => some ((k, n) :: l)
    | none => none
  | _ => none
def maxOf : IntKind → Int → List (IntKind × Int) → Value
  | k, x, [] => .int k x
  | k, x, (_, y) :: l => maxOf k (if y > x then y else x) l
def minOf : IntKind → Int → List (IntKind × Int) → Value
  | k, x, [] => .int k x
  | k, x, (_, y) :: l => minOf k (if y < x then y else x) l
end ev
end Go.Sb
