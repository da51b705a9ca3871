/- What TopFaults stands on, part 1. Conditions: none. -/
import Derived.Deep.Quiet
import Derived.Laws.Sem
import Derived.Laws.World
import Derived.Laws.StructEq
import Derived.Laws.BytesString
import Derived.Lib.ConvBytes
import Derived.IntWalk
import Derived.OrdersHeld
import Derived.WalkKit
import Derived.ProofKit
import Derived.OpenShut
import Derived.ShutString
import Derived.ChangeOld
import Derived.Below
import Derived.Deep.Slices
set_option linter.unusedSimpArgs false
set_option linter.unusedVariables false
set_option linter.unusedSectionVars false
section
namespace Go.Sb
open Go
abbrev Hp:=Array Obj
theorem sz0 {α:Type}(x:α)(xs:List α)(a:α):(x::xs).set 0 a=a::xs:=rfl
theorem sz1 {α:Type}(x:α)(xs:List α)(n:Nat)(a:α):(x::xs).set (n+1) a=x::xs.set n a:=rfl
theorem sz2 {α:Type}{l:List α}:l.toArray.toList=l:=rfl
def Kept (w w':World):Prop:=w'.tape=w.tape∧w'.os=w.os∧w'.output=w.output
theorem Kept.refl (w:World):Kept w w:=⟨rfl,rfl,rfl⟩
theorem Kept.trans {a b c:World}(h:Kept a b)(h':Kept b c):Kept a c:=⟨h'.1.trans h.1,h'.2.1.trans h.2.1,h'.2.2.trans h.2.2⟩
def M (α:Type):Type:=Hp→(α→Hp→Prop)→Prop
section comb
variable {α β:Type}
def aN:M α:=fun _ _=>False
def af (a:α):M α:=fun h Q=>Q a h
def ai (m:M α)(k:α→M β):M β:=fun h Q=>m h fun a h'=>k a h' Q
def aI (b:Bool)(x y:M α):M α:=match b with
 |true=>x
 |false=>y
def aG (x y:M α):M α:=fun h Q=>x h Q∧y h Q
end comb
def hcell (h:Hp)(a:Addr):Option Value:=
 match h[a.block]? with
 |some (.cells c _ _)=>if a.spot.isSome then none else c[a.off]?
 |_=>none
def gM (h:Hp)(a:Addr):Bool:=
 match h[a.block]? with
 |some (.cells _ _ (lo,hi))=>lo≤a.off&&a.off<hi
 |_=>false
def gA (h:Hp)(a:Addr)(v:Value):Hp:=
 h.modify a.block fun
   | .cells c elem frozen=>.cells (if a.spot.isSome then c else c.setIfInBounds a.off v) elem frozen
   |o=>o
def jm (P:Program)(f:FuncId):Prop:=∀args w,(callFunc f args).run P w= .ok (.enter f args) w
def Nf (P:Program)(f:FuncId)(args:Array Value):M Value:=fun h Q=>
 (jm P f∧∀w:World,w.heap=h→Calls P f args w fun e w'=>∃v,e= .returned v∧Kept w w'∧Q v w'.heap)∨
 (∃v,(∀w:World,w.heap=h→(callFunc f args).run P w= .ok (.value v) w)∧Q v h)∨
 ∀w:World,w.heap=h→∃v w',(callFunc f args).run P w= .ok (.value v) w'∧Kept w w'∧w.heap.size<w'.heap.size∧Q v w'.heap
theorem Nf.mono {P:Program}{f:FuncId}{args:Array Value}{h:Hp}{Q Q':Value→Hp→Prop}(hh:Nf P f args h Q)(hq:∀v h',Q v h'→Q' v h'):Nf P f args h Q':=
 match hh with
 | .inl hh=>.inl ⟨hh.1,fun w hw=>(hh.2 w hw).mono fun _ _ ⟨v,he,hk,hQ⟩=>⟨v,he,hk,hq _ _ hQ⟩⟩
 | .inr (.inl ⟨v,h1,h2⟩)=>.inr (.inl ⟨v,h1,hq _ _ h2⟩)
 | .inr (.inr hh)=>.inr (.inr fun w hw=>by
  obtain⟨v,w',h1,h2,h4,h3⟩:=hh w hw
  exact⟨v,w',h1,h2,h4,hq _ _ h3⟩)
theorem Nf.ext {P:Program}{f:FuncId}{args:Array Value}{h:Hp}{Q:Value→Hp→Prop}(v:Value)(hv:∀w:World,w.heap=h→(callFunc f args).run P w= .ok (.value v) w)(hq:Q v h):Nf P f args h Q:=
 .inr (.inl ⟨v,hv,hq⟩)
def bM (P:Program)(f:FuncId)(todo:List Item)(a:Act)(w:World)(Q:Value→Hp→Prop):Prop:=
 ∀b:Frame,b.fn=f→b.kind= .normal→∀cs,∃v w' fr,Q v w'.heap∧Kept w w'∧Steps P (lone (b.at a todo) cs w) (lone fr cs w')∧fr.fn=f∧fr.leaving P w' (.returned v)
section runs
variable {P:Program}{f:FuncId}{a:Act}{w:World}{Q:Value→Hp→Prop}{k:List Item}
theorem bM.step {todo todo':List Item}(hs:∀(b:Frame) cs,step P (lone (b.at a todo) cs w)= .next (lone (b.at a todo') cs w))(h:bM P f todo' a w Q):bM P f todo a w Q:=by
 intro b hb hk cs
 obtain⟨v,w',fr,hQ,hkp,hst,h1,h2⟩:=h b hb hk cs
 exact⟨v,w',fr,hQ,hkp,.head (hs b cs) hst,h1,h2⟩
theorem bM.skip (h:bM P f k a w Q):bM P f (.code .skip::k) a w Q:=.step (fun _ _=>step_skip) h
theorem bM.label {l:Nat}(h:bM P f k a w Q):bM P f (.code (.label l)::k) a w Q:=.step (fun _ _=>step_label) h
theorem bM.inBlock {i:Nat}(h:bM P f k a w Q):bM P f (.inBlock i::k) a w Q:=.step (fun _ _=>step_inBlock) h
theorem bM.seq {x y:Code}(h:bM P f (.code x:: .code y::k) a w Q):bM P f (.code (.seq x y)::k) a w Q:=.step (fun _ _=>step_seq) h
theorem bM.cond {c:Operand}{x y:Code}{t:Bool}(hc:a.eval c= .bool t)(h:bM P f (.code (if t then x else y)::k) a w Q):bM P f (.code (.cond c x y)::k) a w Q:=.step (fun _ _=>step_cond hc) h
theorem bM.block {i:Nat}{c:Code}(h:bM P f (.code c:: .inBlock i::k) a w Q):bM P f (.code (.block i c)::k) a w Q:=.step (fun _ _=>step_block) h
theorem bM.loop {c:Code}(h:bM P f (.code c:: .inLoop c::k) a w Q):bM P f (.code (.loop c)::k) a w Q:=.step (fun _ _=>step_loop) h
theorem bM.inLoop {c:Code}(h:bM P f (.code c:: .inLoop c::k) a w Q):bM P f (.inLoop c::k) a w Q:=.step (fun _ _=>step_inLoop) h
theorem bM.exit {i:Nat}{k':List Item}(hk:exitTo i k=some k')(h:bM P f k' a w Q):bM P f (.code (.exit i)::k) a w Q:=.step (fun _ _=>step_exit hk) h
theorem bM.code {c:Code}(h:c.wp P (fun e a' w'=>e= .normal∧Kept w w'∧bM P f k a' w' Q) a w):bM P f (.code c::k) a w Q:=by
 intro b hb hk cs
 obtain⟨e,a',w',⟨rfl,hkp,hr⟩,harr⟩:=h b k cs
 obtain⟨v,w₂,fr,hQ,e5H,hst,h1,h2⟩:=hr b hb hk cs
 exact⟨v,w₂,fr,hQ,hkp.trans e5H,Steps.trans harr hst,h1,h2⟩
theorem bM.ret {fn:Func}{v:Value}(hf:P.funcs[f]? =some fn)(hd:a.defers=[])(hr:(results fn a.tmps).run P w= .ok v w)(hQ:Q v w.heap):bM P f (.code .ret::k) a w Q:=by
 intro b hb hk cs
 exact⟨v,w,_,hQ,.refl w,.one step_ret,hb,rfl,hd,hk,fn,by simpa[Frame.at,hb]using hf,hr⟩
theorem bM.fin {fn:Func}{v:Value}(hf:P.funcs[f]? =some fn)(hd:a.defers=[])(hr:(results fn a.tmps).run P w= .ok v w)(hQ:Q v w.heap):bM P f [] a w Q:=by
 intro b hb hk cs
 exact⟨v,w,_,hQ,.refl w,.one step_end,hb,rfl,hd,hk,fn,by simpa[Frame.at,hb]using hf,hr⟩
theorem Nf.AH {fn:Func}{c:Code}{args:Array Value}{h:Hp}(hc:jm P f)(hf:P.funcs[f]? =some fn)(hb:fn.body=some c)
  (hr:∀w:World,w.heap=h→bM P f [.code c] { tmps:=args++Array.replicate (fn.ntmps-args.size) undef,defers:=[]} w Q):Nf P f args h Q:=by
 refine .inl ⟨hc,fun w hw cs=>?_⟩
 let b:Frame:={ (default:Frame) with fn:=f,kind:=.normal}
 have b7k:Frame.enter P f args .normal=b.at { tmps:=args++Array.replicate (fn.ntmps-args.size) undef,defers:=[]} [.code c]:=by
  simp[Frame.enter,Frame.at,hf,hb,b]
 obtain⟨v,w',fr,hQ,hkp,hst,h1,h2⟩:=hr w hw b rfl rfl cs
 exact⟨.returned v,w',fr,⟨v,rfl,hkp,hQ⟩,by rw[b7k];exact hst,h1,h2⟩
end runs
end Go.Sb
end
section
namespace Go.Sb
open Go
structure Sl where
 p:Option Addr
 n:Nat
 c:Nat
section prim
variable {α:Type}
def ab (kd:IntKind)(a:Addr)(k:Int→M α):M α:=fun h Q=>∃n,hcell h a=some (.int kd n)∧k n h Q
def g9 (a:Addr)(k:Bool→M α):M α:=fun h Q=>∃n,hcell h a=some (.bool n)∧k n h Q
def e5I (a:Addr)(k:ByteArray→M α):M α:=fun h Q=>∃n,hcell h a=some (.string n)∧k n h Q
def bz (a:Addr)(k:Option Addr→M α):M α:=fun h Q=>∃n,hcell h a=some (.pointer n)∧k n h Q
def aw (a:Addr)(k:Sl→M α):M α:=fun h Q=>∃s:Sl,hcell h a=some (.slice s.p s.n s.c)∧k s h Q
def e5J (a:Addr)(k:Nat→Array Value→Array Value→M α):M α:=fun h Q=>∃g f c,hcell h a=some (.func (.func g) f c)∧k g f c h Q
def uJ (a:Addr)(k:Option Nat→M α):M α:=fun h Q=>∃r,hcell h a=some (.map r)∧k r h Q
def e5K (a:Addr)(k:Value→M α):M α:=fun h Q=>∃v,hcell h a=some v∧k v h Q
def an (a:Addr)(v:Value)(k:M α):M α:=fun h Q=>v.oneCell'=true∧(hcell h a).isSome=true∧gM h a=false∧k (gA h a v) Q
def aJ (cs:Array Value)(T:TypeId)(k:Addr→M α):M α:=fun h Q=>k ⟨h.size,0,none⟩ (h.push (.cells cs T)) Q
def ax (p:Option Addr)(k:Addr→M α):M α:=match p with
 |some a=>k a
 |none=>aN
def cD (c:Prop)(k:M α):M α:=fun h Q=>c∧k h Q
def bd (s:Sl)(i:Int)(sz:Nat)(k:Addr→M α):M α:=fun h Q=>∃a,s.p=some a∧0≤i∧i<s.n∧k (a.add (i.toNat*sz)) h Q
def eK (zero:Array Value)(n:Nat):Array Value:=(Array.range (n*zero.size)).map fun i=>zero[i%zero.size]!
def uK (T:TypeId)(bytes:Nat)(zero:Array Value)(l c:Int)(k:Sl→M α):M α:=fun h Q=>
 0≤l∧l≤c∧bytes*c≤2 ^ 48∧c≤IntKind.i64.max∧k ⟨some ⟨h.size,0,none⟩,l.toNat,c.toNat⟩ (h.push (.cells (eK zero c.toNat) T)) Q
def hcells (h:Hp)(a:Addr):Nat→Nat→Option (List Value)
 |_,0=>some []
 |i,n+1=>match hcell h (a.add i),hcells h a (i+1) n with
  |some v,some vs=>some (v::vs)
  |_,_=>none
def dQ (h:Hp)(a:Addr):Nat→List Value→Hp
 |_,[]=>h
 |i,v::vs=>dQ (gA h (a.add i) v) a (i+1) vs
def hfree (h:Hp)(a:Addr)(i n:Nat):Prop:=∀j,i≤j→j<i+n→(hcell h (a.add j)).isSome=true∧gM h (a.add j)=false
def cn (h:Hp)(s:Sl)(n sz:Nat):Option (List Value):=match s.p with
 |some a=>hcells h a 0 (n*sz)
 |none=>some []
def bU (T:TypeId)(sz bytes:Nat)(zero:Array Value)(s x:Sl)(k:Sl→M α):M α:=fun h Q=>
 ∃xs,cn h x x.n sz=some xs∧(∀v∈xs,v.oneCell'=true)∧
  if s.n+x.n≤s.c then
   match s.p with
   |some a=>hfree h (a.add (s.n*sz)) 0 xs.length∧k ⟨s.p,s.n+x.n,s.c⟩ (dQ h (a.add (s.n*sz)) 0 xs) Q
   |none=>k ⟨s.p,s.n+x.n,s.c⟩ h Q
  else
   0<bytes∧Builtin.nextslicecap (s.n+x.n) s.c*bytes≤2 ^ 48∧∃old,cn h s s.n sz=some old∧
    ∀c,s.n+x.n≤c→k ⟨some ⟨h.size,0,none⟩,s.n+x.n,c⟩ (h.push (.cells ((old++xs).toArray++eK zero (c-(s.n+x.n))) T)) Q
def TS (sz:Nat)(d x:Sl)(k:Int→M α):M α:=fun h Q=>
 ∃xs,cn h x (min x.n d.n) sz=some xs∧(∀v∈xs,v.oneCell'=true)∧
  match d.p with
  |some a=>hfree h a 0 xs.length∧k (min x.n d.n:Nat) (dQ h a 0 xs) Q
  |none=>k (min x.n d.n:Nat) h Q
def b7l (sz:Nat)(zero:Array Value)(s:Sl)(k:M α):M α:=fun h Q=>match s.p with
 |some a=>(∀v∈(eK zero s.n).toList,v.oneCell'=true)∧(eK zero s.n).toList.length=s.n*sz∧hfree h a 0 (eK zero s.n).toList.length∧k (dQ h a 0 (eK zero s.n).toList) Q
 |none=>k h Q
def mu (kd:IntKind)(e:Int×Value×Nat):MapEntry:={ key:=.int kd e.1,val:=e.2.1,born:=e.2.2}
def ke (h:Hp)(r:Nat)(kd:IntKind)(f:Int→Option Value)(n:Nat):Prop:=
 ∃(m:List (Int×Value×Nat)) (clock:Nat),h[r]? =some (.map (m.map (mu kd)).toArray clock)∧(m.map (·.1)).Nodup∧m.length=n∧∀k,f k=(m.find? (·.1 == k)).map (·.2.1)
def mv (k:Nat→M α):M α:=fun h Q=>k h.size (h.push (.map #[] 0)) Q
def gT (p:Option Nat)(k:Nat→M α):M α:=match p with
 |some a=>k a
 |none=>aN
def qs (kd:IntKind)(r:Nat)(key:Int)(z:Value)(k:Value→Bool→M α):M α:=fun h Q=>∃f n,ke h r kd f n∧k ((f key).getD z) (f key).isSome h Q
def gb (kd:IntKind)(r:Nat)(key:Int)(v:Value)(K:M α):M α:=fun h Q=>∃f n,ke h r kd f n∧
 ∀h',h'.size=h.size→(∀b,b≠r→h'[b]? =h[b]?)→ke h' r kd (fun j=>if j=key then some v else f j) (if (f key).isSome then n else n+1)→K h' Q
def a7J (kd:IntKind)(r:Nat)(key:Int)(K:M α):M α:=fun h Q=>∃f n,ke h r kd f n∧
 ∀h',h'.size=h.size→(∀b,b≠r→h'[b]? =h[b]?)→ke h' r kd (fun j=>if j=key then none else f j) (if (f key).isSome then n-1 else n)→K h' Q
def a7K (kd:IntKind)(r:Nat)(K:Nat→M α):M α:=fun h Q=>∃f n,ke h r kd f n∧K n h Q
def TT {β:Type}(P:Program)(s:Sem β)(k:β→M α):M α:=fun h Q=>∃v,(∀w:World,w.heap=h→s.run P w= .ok v w)∧k v h Q
def Cv {β:Type}(P:Program)(s:Sem β)(k:β→M α):M α:=fun h Q=>∃v h',(∀w:World,w.heap=h→s.run P w= .ok v { w with heap:=h'})∧k v h' Q
def a7L (T:TypeId)(v:Value)(k:Value→M α):M α:=match v with
 | .iface t u=>match Nat.beq t T with
  |true=>k u
  |false=>aN
 |_=>aN
def mw (s:Sl)(sz:Nat)(lo hi:Int)(mx:Int)(k:Sl→M α):M α:=fun h Q=>
 0≤lo∧lo≤hi∧hi≤mx∧mx≤s.c∧k ⟨if mx.toNat=lo.toNat then s.p else s.p.map (·.add (lo.toNat*sz)),hi.toNat-lo.toNat,mx.toNat-lo.toNat⟩ h Q
def d3a (s:ByteArray)(lo hi:Int)(k:ByteArray→M α):M α:=fun h Q=>
 0≤lo∧lo≤hi∧hi≤s.size∧k (s.extract lo.toNat hi.toNat) h Q
def TU (cs:List Value)(i:Int)(k:Value→M α):M α:=fun h Q=>∃v,0≤i∧cs[i.toNat]? =some v∧k v h Q
def I5 (s:ByteArray)(i:Int)(k:Int→M α):M α:=fun h Q=>∃b,0≤i∧s[i.toNat]? =some b∧k (b.toNat:Int) h Q
def b7m (T:TypeId)(s:ByteArray)(k:Sl→M α):M α:=fun h Q=>
 ∀c,s.size≤c→k ⟨some ⟨h.size,0,none⟩,s.size,c⟩ (h.push (.cells ((s.data.map fun b=>Value.int .u8 b.toNat)++Array.replicate (c-s.size) (.int .u8 0)) T (c,c+1))) Q
def d3b (s:Sl)(k:M α):M α:=fun h Q=>
 ∃b o cs T,s.p=some ⟨b,o,none⟩∧h[b]? =some (.cells cs T (0,0))∧k (h.setIfInBounds b (.cells cs T (cs.size,cs.size+1))) Q
def e5L (x:Sl)(k:ByteArray→M α):M α:=fun h Q=>
 ∃bs:List UInt8,cn h x x.n 1=some (bs.map fun b=>.int .u8 b.toNat)∧k ⟨bs.toArray⟩ h Q
def aP (kd:IntKind)(v:Value)(k:Int→M α):M α:=match v with
 | .int k' n=>if k'=kd then k n else aN
 |_=>aN
def da (v:Value)(k:Bool→M α):M α:=match v with
 | .bool b=>k b
 |_=>aN
def unS (v:Value)(k:ByteArray→M α):M α:=match v with
 | .string b=>k b
 |_=>aN
def gx (v:Value)(k:Option Addr→M α):M α:=match v with
 | .pointer b=>k b
 |_=>aN
def sI (v:Value)(k:Sl→M α):M α:=match v with
 | .slice p n c=>k ⟨p,n,c⟩
 |_=>aN
def unM (v:Value)(k:Option Nat→M α):M α:=match v with
 | .map r=>k r
 |_=>aN
def unF (v:Value)(k:Nat→Array Value→Array Value→M α):M α:=match v with
 | .func (.func g) f c=>k g f c
 |_=>aN
def kg (v:Value)(k:List Value→M α):M α:=match v with
 | .agg cs=>k cs.toList
 |_=>aN
def tM (v:Value)(k:List Value→M α):M α:=match v with
 | .tuple cs=>k cs.toList
 |_=>aN
def fO (cs:List Value)(k:M α):M α:=match cs with
 |[]=>k
 |_::_=>aN
def bB (cs:List Value)(k:Value→List Value→M α):M α:=match cs with
 |c::cs=>k c cs
 |[]=>aN
def ki {β γ:Type}(u:Value→(β→M α)→M α)(u':Value→(γ→M α)→M α)(v:Value)(k:β→γ→M α):M α:=
 tM v fun l=>bB l fun c l=>u c fun x=>bB l fun d l=>u' d fun y=>fO l (k x y)
def un3 {β γ δ:Type}(u:Value→(β→M α)→M α)(u':Value→(γ→M α)→M α)(u'':Value→(δ→M α)→M α)(v:Value)(k:β→γ→δ→M α):M α:=
 tM v fun l=>bB l fun c l=>u c fun x=>bB l fun d l=>u' d fun y=>bB l fun e l=>u'' e fun z=>fO l (k x y z)
def qt (k:IntKind)(a b:Int):Int:=k.wrap (BitVec.ofInt k.bits a&&& BitVec.ofInt k.bits b).toNat
def ior (k:IntKind)(a b:Int):Int:=k.wrap (BitVec.ofInt k.bits a|||BitVec.ofInt k.bits b).toNat
def Cw (k:IntKind)(a b:Int):Int:=k.wrap (BitVec.ofInt k.bits a&&& ~~~BitVec.ofInt k.bits b).toNat
def a7M (k:IntKind)(a b:Int):Int:=k.wrap (a*2 ^ (min b.toNat k.bits))
def tN (k:IntKind)(a b:Int):Int:=a.fdiv (2 ^ (min b.toNat k.bits))
end prim
section ev
variable {α:Type}
def uL (P:Program):Nat→TypeId→Option (List TypeId)
 |0,_=>none
 |d+1,t=>match P.underlying t with
  |some (.struct fs)=>fs.toList.foldr (fun f acc=>match uL P d f.type,acc with
   |some x,some y=>some (x++y)
   |_,_=>none) (some [])
  |some (.array n e)=>match uL P d e with
   |some x=>some ((List.replicate n x).flatten)
   |none=>none
  |_=>some [t]
def en (P:Program)(t:TypeId):Bool:=match P.underlying t with
 |some (.struct _)|some (.array _ _)=>true
 |_=>false
def lB (P:Program)(t:TypeId):Bool:=match P.underlying t with
 |some (.array n _)=>Nat.blt 16 n
 |_=>false
def e5M (a:Addr)(n:Nat)(k:List Value→M α):M α:=fun h Q=>∃cs,hcells h a 0 n=some cs∧k cs h Q
def e5N (a:Addr)(cs:List Value)(k:M α):M α:=fun h Q=>(∀v∈cs,v.oneCell'=true)∧hfree h a 0 cs.length∧k (dQ h a 0 cs) Q
def ld1 (P:Program)(t:TypeId)(a:Addr)(k:Value→M α):M α:=match P.underlying t with
 |some (.int kd)=>ab kd a fun n=>k (.int kd n)
 |some .bool=>g9 a fun b=>k (.bool b)
 |some .string=>e5I a fun b=>k (.string b)
 |some (.pointer _)=>bz a fun b=>k (.pointer b)
 |some (.slice _)=>aw a fun s=>k (.slice s.p s.n s.c)
 |some (.func _ _ _)=>e5J a fun g f c=>k (.func (.func g) f c)
 |some (.map _ _)=>uJ a fun r=>k (.map r)
 |_=>e5K a k
def n7 (P:Program)(a:Addr):List TypeId→Nat→Array Value→(Array Value→M α)→M α
 |[],_,acc,k=>k acc
 |t::ts,i,acc,k=>ld1 P t (a.add i) fun v=>n7 P a ts (i+1) (acc.push v) k
def cI (P:Program)(t:TypeId):Option Nat:=(P.info? t).map (·.size)
def TV (P:Program)(t:TypeId)(a:Addr)(k:Value→M α):M α:=
 match P.underlying t with
 |none=>aN
 |some _=>match lB P t with
  |true=>match cI P t with
   |some n=>e5M a n fun cs=>k (.agg cs.toArray)
   |none=>aN
  |false=>if en P t then match uL P 20 t,cI P t with
    |some ks,some n=>if ks.length=n then n7 P a ks 0 #[] fun cs=>k (.agg cs) else aN
    |_,_=>aN
   else ld1 P t a k
def AI (a:Addr):List Value→Nat→M α→M α
 |[],_,k=>k
 |v::vs,i,k=>an (a.add i) v (AI a vs (i+1) k)
def un1 (P:Program)(t:TypeId)(v:Value)(k:Value→M α):M α:=match P.underlying t with
 |some (.int kd)=>aP kd v fun n=>k (.int kd n)
 |some .bool=>da v fun b=>k (.bool b)
 |some .string=>unS v fun b=>k (.string b)
 |some (.pointer _)=>gx v fun b=>k (.pointer b)
 |some (.slice _)=>sI v fun s=>k (.slice s.p s.n s.c)
 |some (.func _ _ _)=>unF v fun g f c=>k (.func (.func g) f c)
 |some (.map _ _)=>unM v fun r=>k (.map r)
 |_=>k v
def qu (P:Program):List TypeId→List Value→Array Value→(Array Value→M α)→M α
 |[],cs,acc,k=>fO cs (k acc)
 |t::ts,cs,acc,k=>bB cs fun c cs=>un1 P t c fun v=>qu P ts cs (acc.push v) k
def unV (P:Program)(t:TypeId)(v:Value)(k:Value→M α):M α:=match lB P t with
 |true=>kg v fun cs=>k (.agg cs.toArray)
 |false=>if en P t then match uL P 20 t with
   |some ks=>kg v fun cs=>qu P ks cs #[] fun cs=>k (.agg cs)
   |none=>aN
  else un1 P t v k
def TW (P:Program):List TypeId→List Value→Array Value→(Array Value→M α)→M α
 |[],cs,acc,k=>fO cs (k acc)
 |t::ts,cs,acc,k=>bB cs fun c cs=>unV P t c fun v=>TW P ts cs (acc.push v) k
def I6 (P:Program)(t:TypeId)(v:Value)(k:Value→M α):M α:=match P.underlying t with
 |some (.tuple ⟨[]⟩)=>k v
 |some (.tuple ts)=>tM v fun cs=>TW P ts.toList cs #[] fun vs=>k (.tuple vs)
 |_=>unV P t v k
abbrev Env:=List (Option Value)
def look:Env→Nat→Option Value
 |[],_=>none
 |x::_,0=>x
 |_::xs,n+1=>look xs n
def pc:Env→Nat→Option Value→Env
 |[],_,_=>[]
 |_::xs,0,v=>v::xs
 |x::xs,n+1,v=>x::pc xs n v
def fF (env:Env):Operand→Option Value
 | .tmp t=>look env t
 | .const v=>some v
 | .global g=>some (.pointer (some ⟨g,0,none⟩))
 | .func f=>some (.func (.func f) #[] #[])
def iS (env:Env):List Operand→Option (List Value)
 |[]=>some []
 |x::xs=>match fF env x,iS env xs with
  |some v,some vs=>some (v::vs)
  |_,_=>none
def eo (env:Env):List (Nat×Operand)→Option (List (Nat×Value))
 |[]=>some []
 |x::xs=>match fF env x.2,eo env xs with
  |some v,some vs=>some ((x.1,v)::vs)
  |_,_=>none
def oc (op:BinOp)(k:IntKind)(a b:Int):Option Value:=match op with
 | .add=>some (.int k (k.wrap (a+b)))
 | .sub=>some (.int k (k.wrap (a-b)))
 | .mul=>some (.int k (k.wrap (a*b)))
 | .eql=>some (.bool (a == b))
 | .neq=>some (.bool (a != b))
 | .lss=>some (.bool (a<b))
 | .leq=>some (.bool (a≤b))
 | .gtr=>some (.bool (a>b))
 | .geq=>some (.bool (a≥b))
 | .and=>some (.int k (k.wrap (BitVec.ofInt k.bits a&&& BitVec.ofInt k.bits b).toNat))
 | .or=>some (.int k (k.wrap (BitVec.ofInt k.bits a|||BitVec.ofInt k.bits b).toNat))
 | .xor=>some (.int k (k.wrap (BitVec.ofInt k.bits a ^^^ BitVec.ofInt k.bits b).toNat))
 | .andNot=>some (.int k (k.wrap (BitVec.ofInt k.bits a&&& ~~~BitVec.ofInt k.bits b).toNat))
 |_=>none
def qv (op:BinOp)(a b:ByteArray):Option Value:=match op with
 | .eql=>some (.bool (a.toList == b.toList))
 | .neq=>some (.bool (!(a.toList == b.toList)))
 | .lss=>some (.bool (Op.bytesLess a.toList b.toList))
 | .leq=>some (.bool (Op.bytesLess a.toList b.toList||a.toList == b.toList))
 | .gtr=>some (.bool (!(Op.bytesLess a.toList b.toList||a.toList == b.toList)))
 | .geq=>some (.bool (!(Op.bytesLess a.toList b.toList)))
 |_=>none
def uM:Operand→Bool
 | .const (.pointer none)=>true
 |_=>false
def pd:Operand→Bool
 | .const (.slice none _ _)=>true
 |_=>false
def oM (P:Program)(t:TypeId)(xs:List Value)(off:Nat):Option Value:=match P.underlying t,cI P t with
 |some _,some n=>match en P t with
  |true=>some (.agg (xs.extract off (off+n)).toArray)
  |false=>xs[off]?
 |_,_=>none
def AJ (P:Program)(e:TypeId→Value→Value→Option Bool)(xs ys:List Value):List Field→Option Bool
 |[]=>some true
 |f::fs=>match f.name == "_" with
  |true=>none
  |false=>match oM P f.type xs f.offset,oM P f.type ys f.offset with
   |some a,some b=>match e f.type a b,AJ P e xs ys fs with
    |some r,some s=>some (r&&s)
    |_,_=>none
   |_,_=>none
def xK (P:Program):Nat→TypeId→Value→Value→Option Bool
 |0,_,_,_=>none
 |d+1,t,x,y=>match P.underlying t,x,y with
  |some (.int _),.int k a,.int k' b=>if k=k' then some (a == b) else none
  |some .bool,.bool a,.bool b=>some (a == b)
  |some .string,.string a,.string b=>some (a.toList == b.toList)
  |some (.struct fs),.agg xs,.agg ys=>match P.stoodInHeld t with
   |true=>none
   |false=>AJ P (xK P d) xs.toList ys.toList fs.toList
  |_,_,_=>none
def dR (P:Program)(op:BinOp)(t:TypeId)(y:Operand)(vx vy:Value):Option Value:=match vx,vy with
 | .int k a,.int k' b=>if k=k' then oc op k a b else none
 | .bool a,.bool b=>match op,P.underlying t with
  | .eql,some .bool=>some (.bool (a == b))
  | .neq,some .bool=>some (.bool (!(a == b)))
  |_,_=>none
 | .string a,.string b=>qv op a b
 | .pointer p,_=>match uM y,op,P.underlying t with
  |true,.eql,some (.pointer _)=>some (.bool p.isNone)
  |true,.neq,some (.pointer _)=>some (.bool (!p.isNone))
  |_,_,_=>none
 | .slice p _ _,_=>match pd y,op,P.underlying t with
  |true,.eql,some (.slice _)=>some (.bool p.isNone)
  |true,.neq,some (.slice _)=>some (.bool (!p.isNone))
  |_,_,_=>none
 | .agg xs,.agg ys=>match op,P.eqGuardType P.depth t,xK P 20 t (.agg xs) (.agg ys) with
  | .eql,false,some b=>some (.bool b)
  | .neq,false,some b=>some (.bool (!b))
  |_,_,_=>none
 |_,_=>none
def gQ:List Value→Option (List (IntKind×Int))
 |[]=>some []
 | .int k n::vs=>match gQ vs with
  |some l=>some ((k,n)::l)
  |none=>none
 |_=>none
def qw:IntKind→Int→List (IntKind×Int)→Value
 |k,x,[]=>.int k x
 |k,x,(_,y)::l=>qw k (if y>x then y else x) l
def qx:IntKind→Int→List (IntKind×Int)→Value
 |k,x,[]=>.int k x
 |k,x,(_,y)::l=>qx k (if y<x then y else x) l
end ev
structure ck (B:Nat) (h h':Hp):Prop where
 size:h.size≤h'.size
 at_:∀b,b<B→h'[b]? =h[b]?
theorem ck.refl (B:Nat)(h:Hp):ck B h h:=⟨Nat.le_refl _,fun _ _=>rfl⟩
theorem ck.trans {B:Nat}{a b c:Hp}(h:ck B a b)(h':ck B b c):ck B a c:=⟨Nat.le_trans h.size h'.size,fun i hi=>(h'.at_ i hi).trans (h.at_ i hi)⟩
theorem ck.cell {B:Nat}{h h':Hp}(hu:ck B h h'){a:Addr}(ha:a.block<B):hcell h' a=hcell h a:=by
 unfold hcell;rw[hu.at_ a.block ha]
end Go.Sb
end
section
namespace Go.Sb
open Go
section ev
variable {α:Type}
def setCells:List Value→Nat→List Value→List Value
 |cs,_,[]=>cs
 |cs,i,v::vs=>setCells (cs.set i v) (i+1) vs
def gU (place:Nat→Option (Nat×Nat))(cells:List Value):List (Nat×Value)→Option (List Value)
 |[]=>some cells
 |(i,v)::rest=>match place i with
  |none=>none
  |some (off,size)=>
   if v.cells.toList.length=size∧off+v.cells.toList.length≤cells.length then gU place (setCells cells off v.cells.toList) rest else none
def gv (P:Program)(t:TypeId):Option Value:=match P.info? t with
 |some i=>i.zero
 |none=>none
def nu (P:Program)(t:TypeId):Option Nat:=(P.info? t).map (·.bytes)
def eL (P:Program):List Field→Option (List (Nat×Nat))
 |[]=>some []
 |f::fs=>match cI P f.type,eL P fs with
  |some n,some l=>some ((f.offset,n)::l)
  |_,_=>none
def cJ (P:Program)(env:Env)(o:Oper):Option Value:=match o.op with
 | .move x=>fF env x
 | .assign x=>fF env x
 | .pick c a b=>match fF env c,fF env a,fF env b with
  |some (.bool c),some (.bool x),some (.bool y)=>some (.bool (match c with|true=>x|false=>y))
  |_,_,_=>none
 | .extract t i=>match fF env t with
  |some (.tuple vs)=>vs.toList[i]?
  |_=>none
 | .unOp op _ x=>match op,fF env x with
  | .not,some (.bool b)=>some (.bool (!b))
  | .neg,some (.int k n)=>some (.int k (k.wrap (0-n)))
  |_,_=>none
 | .binOp op t x y _=>match fF env x,fF env y with
  |some vx,some vy=>dR P op t y vx vy
  |_,_=>none
 | .convert s d x=>match P.underlying s,P.underlying d,fF env x with
  |some _,some (.int k),some (.int _ n)=>some (.int k (k.wrap n))
  |_,_,_=>none
 | .field t x f=>match P.underlying t,fF env x with
  |some (.struct fs),some (.agg cs)=>match fs.toList[f]? with
   |some g=>match P.underlying g.type,cI P g.type with
    |some _,some n=>if en P g.type then some (.agg (cs.toList.extract g.offset (g.offset+n)).toArray) else cs.toList[g.offset]?
    |_,_=>none
   |none=>none
  |_,_=>none
 | .build t parts=>match P.underlying t,gv P t,eo env parts.toList with
  |some (.struct fs),some z,some ps=>match eL P fs.toList with
   |some pl=>match gU (fun i=>pl[i]?) z.cells.toList ps with
    |some cs=>some (.agg cs.toArray)
    |none=>none
   |none=>none
  |some (.array _ e),some z,some ps=>match cI P e with
   |some n=>match gU (fun i=>some (i*n,n)) z.cells.toList ps with
    |some cs=>some (.agg cs.toArray)
    |none=>none
   |none=>none
  |_,_,_=>none
 | .makeFunc fn first captured=>match iS env first.toList,iS env captured.toList with
  |some a,some b=>some (.func fn a.toArray b.toArray)
  |_,_=>none
 | .call { callee:=.builtin b,args,argTypes}=>match b,iS env args.toList,argTypes.toList with
  | .len,some [.slice _ n _],t::_=>match P.underlying t with
   |some (.slice _)=>some (.int .i64 n)
   |_=>none
  | .len,some [.string s],t::_=>match P.underlying t with
   |some .string=>some (.int .i64 s.size)
   |_=>none
  | .len,some (_::_),t::_=>match P.underlying t with
   |some (.array n _)=>some (.int .i64 n)
   |_=>none
  | .max,some (.int k x::vs),_=>match gQ vs with
   |some l=>some (qw k x l)
   |none=>none
  | .min,some (.int k x::vs),_=>match gQ vs with
   |some l=>some (qx k x l)
   |none=>none
  |_,_,_=>none
 |_=>none
def bound (env:Env)(d:Int):Option Operand→Option Int
 |none=>some d
 |some x=>match fF env x with
  |some (.int _ n)=>some n
  |_=>none
def b5u (op:BinOp)(k:IntKind)(a b:Int)(kk:Value→M α):M α:=match op with
 | .quo=>cD (b≠0) (kk (.int k (k.wrap (a.tdiv b))))
 | .rem=>cD (b≠0) (kk (.int k (a.tmod b)))
 |_=>aN
def uN (P:Program)(t:TypeId)(name:String):Option (FuncId×Option TypeId):=match P.info? t with
 |some i=>match i.methods.toList.find? (fun m=>decide (m.name=name)) with
  |some m=>match m.path.toList,m.func,P.underlying t with
   |[],some (f,true),some (.pointer _)=>some (f,none)
   |[],some (f,false),some (.pointer e)=>some (f,some e)
   |_,_,_=>none
  |none=>none
 |none=>none
def ee (P:Program)(env:Env)(o:Oper)(kk:Value→M α):M α:=
 match cJ P env o with
 |some v=>kk v
 |none=>match o.op with
  | .binOp op _ x y _=>match fF env x,fF env y with
   |some (.int k a),some (.int k' b)=>match op with
    | .shl=>cD (0≤b) (kk (.int k (k.wrap (a*2 ^ (min b.toNat k.bits)))))
    | .shr=>cD (0≤b) (kk (.int k (a.fdiv (2 ^ (min b.toNat k.bits)))))
    |_=>if k=k' then b5u op k a b kk else aN
   |some (.string a),some (.string b)=>match op with
    | .add=>cD (((a.size+b.size:Nat):Int)≤IntKind.i64.max) (kk (.string (a++b)))
    |_=>aN
   |_,_=>aN
  | .pick c x y=>match fF env c with
   |some (.bool b)=>aI b (match fF env x with
    |some v=>kk v
    |none=>aN) (match fF env y with
    |some v=>kk v
    |none=>aN)
   |_=>aN
  | .nilCheck x=>match fF env x with
   |some (.pointer p)=>ax p fun a=>kk (.pointer (some a))
   |some (.func (.func g) f c)=>kk (.func (.func g) f c)
   |_=>aN
  | .load t x=>match fF env x with
   |some (.pointer p)=>ax p fun a=>TV P t a kk
   |_=>aN
  | .store t x y=>match fF env x,fF env y,cI P t with
   |some (.pointer p),some v,some n=>ax p fun a=>match lB P t with
    |true=>cD (v.cells.toList.length=n) (e5N a v.cells.toList (kk undef))
    |false=>if v.cells.toList.length=n then AI a v.cells.toList 0 (kk undef) else aN
   |_,_,_=>aN
  | .alloc T=>match gv P T with
   |some z=>aJ z.cells T fun a=>kk (.pointer (some a))
   |none=>aN
  | .box T x=>match fF env x with
   |some v=>aJ v.cells T fun a=>kk (.pointer (some a))
   |none=>aN
  | .buildSlice t len parts=>match P.underlying t,eo env parts.toList with
   |some (.slice e),some ps=>match cI P e,gv P e with
    |some n,some z=>if len*n≤2 ^ 24 then match gU (fun i=>some (i*n,n)) (eK z.cells len).toList ps with
      |some cs=>if z.cells.toList.length=n then aJ cs.toArray e fun a=>kk (.slice (some a) len len) else aN
      |none=>aN
     else aN
    |_,_=>aN
   |_,_=>aN
  | .makeSlice t l c=>match P.underlying t,fF env l,fF env c with
   |some (.slice e),some (.int _ l),some (.int _ c)=>match cI P e,gv P e,nu P e with
    |some n,some z,some b=>if z.cells.toList.length=n then uK e b z.cells l c fun s=>kk (.slice s.p s.n s.c) else aN
    |_,_,_=>aN
   |_,_,_=>aN
  | .slice t x lo hi mx=>match P.underlying t,fF env x with
   |some .string,some (.string s)=>match mx,bound env 0 lo,bound env s.size hi with
    |none,some l,some h=>d3a s l h fun s=>kk (.string s)
    |_,_,_=>aN
   |some (.slice e),some (.slice p n c)=>match cI P e,bound env 0 lo,bound env n hi,bound env c mx with
    |some z,some l,some h,some m=>if mx.isSome&&hi.isNone then aN else mw ⟨p,n,c⟩ z l h m fun s=>kk (.slice s.p s.n s.c)
    |_,_,_,_=>aN
   |_,_=>aN
  | .fieldAddr s x f=>match P.underlying s,fF env x with
   |some (.struct fs),some (.pointer p)=>match fs.toList[f]? with
    |some g=>match cI P g.type with
     |some n=>if n=0 then aN else ax p fun a=>kk (.pointer (some (a.add g.offset)))
     |none=>aN
    |none=>aN
   |_,_=>aN
  | .indexAddr t x i=>match P.underlying t,fF env x,fF env i with
   |some (.slice e),some (.slice p n c),some (.int _ j)=>match cI P e with
    |some z=>bd ⟨p,n,c⟩ j z fun a=>kk (.pointer (some a))
    |none=>aN
   |some (.array n e),some (.pointer p),some (.int _ j)=>match cI P e with
    |some z=>bd ⟨p,n,n⟩ j z fun a=>kk (.pointer (some a))
    |none=>aN
   |_,_,_=>aN
  | .index t x i=>match P.underlying t,fF env x,fF env i with
   |some .string,some (.string s),some (.int _ j)=>I5 s j fun n=>kk (.int .u8 n)
   |some (.array m e),some (.agg cs),some (.int _ j)=>match cI P e,en P e,P.underlying e with
    |some 1,false,some _=>match lB P t with
     |true=>cD (cs.toList.length=m) (TU cs.toList j fun v=>un1 P e v kk)
     |false=>if cs.toList.length=m then TU cs.toList j fun v=>un1 P e v kk else aN
    |_,_,_=>aN
   |_,_,_=>aN
  | .makeMap t none=>match P.underlying t with
   |some (.map _ _)=>mv fun r=>kk (.map (some r))
   |_=>aN
  | .lookup t x i ok=>match P.underlying t,fF env x,fF env i with
   |some (.map kt e),some (.map p),some (.int kd key)=>match P.underlying kt,gv P e,en P e with
    |some (.int TX),some z,false=>if kd=TX then gT p fun r=>qs kd r key z fun v b=>un1 P e v fun v=>kk (match ok with
      |true=>.tuple #[v,.bool b]
      |false=>v)
     else aN
    |_,_,_=>aN
   |some (.map _ e),some (.map p),some (.agg cs)=>match ok,en P e with
    |false,false=>gT p fun r=>TT P (Instr.lookup t (.map (some r)) (.agg cs) false) fun v=>un1 P e v kk
    |_,_=>aN
   |_,_,_=>aN
  | .mapUpdate t x i y=>match P.underlying t,fF env x,fF env i with
   |some (.map kt e),some (.map p),some (.int kd key)=>match P.underlying kt,fF env y,en P e with
    |some (.int TX),some v,false=>if kd=TX then gT p fun r=>gb kd r key v (kk undef) else aN
    |_,_,_=>aN
   |some (.map _ _),some (.map p),some (.agg cs)=>match fF env y with
    |some v=>gT p fun r=>Cv P (Instr.mapUpdate t (.map (some r)) (.agg cs) v) fun _=>kk undef
    |none=>aN
   |_,_,_=>aN
  | .makeInterface t x=>match P.underlying t,fF env x with
   |some (.interface _),_=>aN
   |some _,some v=>kk (.iface t v)
   |_,_=>aN
  | .typeAssert x _ T ok=>match P.underlying T,fF env x with
   |some (.interface _),_=>aN
   |some _,some v=>a7L T v fun u=>unV P T u fun u=>kk (match ok with
    |true=>.tuple #[u,.bool true]
    |false=>u)
   |_,_=>aN
  | .convert s d x=>match P.underlying s,P.underlying d,fF env x with
   |some .string,some (.slice e),some (.string b)=>match P.underlying e with
    |some (.int .u8)=>b7m e b fun s=>kk (.slice s.p s.n s.c)
    |_=>aN
   |some (.slice e),some .string,some (.slice p n c)=>match P.underlying e with
    |some (.int .u8)=>e5L ⟨p,n,c⟩ fun b=>kk (.string b)
    |_=>aN
   |some (.slice _),some (.slice e),some (.slice p n c)=>match P.underlying e,s == d with
    |some (.int .u8),true=>d3b ⟨p,n,c⟩ (kk (.slice p n c))
    |_,_=>aN
   |_,_,_=>aN
  | .call { callee:=.value f,args,..}=>match fF env f,iS env args.toList with
   |some (.func (.func g) first cap),some vs=>ai (Nf P g (first++vs.toArray++cap)) fun v=>I6 P o.type v kk
   |_,_=>aN
  | .call { callee:=.builtin .append,args,argTypes}=>match iS env args.toList,argTypes.toList with
   |some [.slice p n c,.slice q m d],[st,xt]=>match P.underlying st,P.underlying xt with
    |some (.slice e),some (.slice _)=>match cI P e,nu P e,gv P e with
     |some z,some b,some zv=>if zv.cells.toList.length=z then bU e z b zv.cells ⟨p,n,c⟩ ⟨q,m,d⟩ fun s=>kk (.slice s.p s.n s.c) else aN
     |_,_,_=>aN
    |_,_=>aN
   |_,_=>aN
  | .call { callee:=.builtin .copy,args,argTypes}=>match iS env args.toList,argTypes.toList with
   |some [.slice p n c,.slice q m d],st::_=>match P.underlying st with
    |some (.slice e)=>match cI P e with
     |some z=>TS z ⟨p,n,c⟩ ⟨q,m,d⟩ fun n=>kk (.int .i64 n)
     |none=>aN
    |_=>aN
   |_,_=>aN
  | .call { callee:=.builtin .clear,args,argTypes}=>match iS env args.toList,argTypes.toList with
   |some [.slice p n c],st::_=>match P.underlying st with
    |some (.slice e)=>match cI P e,gv P e with
     |some z,some zv=>b7l z zv.cells ⟨p,n,c⟩ (kk undef)
     |_,_=>aN
    |_=>aN
   |_,_=>aN
  | .call { callee:=.builtin .len,args,argTypes}=>match iS env args.toList,argTypes.toList with
   |some [.map p],st::_=>match P.underlying st with
    |some (.map kt _)=>match P.underlying kt with
     |some (.int kd)=>gT p fun r=>a7K kd r fun n=>kk (.int .i64 n)
     |_=>aN
    |_=>aN
   |_,_=>aN
  | .call { callee:=.builtin .delete,args,argTypes}=>match iS env args.toList,argTypes.toList with
   |some [.map p,.int kd key],st::_=>match P.underlying st with
    |some (.map kt _)=>match P.underlying kt with
     |some (.int TX)=>if kd=TX then gT p fun r=>a7J kd r key (kk undef) else aN
     |_=>aN
    |_=>aN
   |some [.map p,.agg cs],_::_=>gT p fun r=>Cv P (Builtin.delete_ argTypes o.type #[.map (some r),.agg cs]) fun u=>cD (u=undef) (kk undef)
   |_,_=>aN
  | .call { callee:=.invoke x name,args,..}=>match fF env x,iS env args.toList with
   |some (.iface t v),some vs=>match uN P t name with
    |some (f,none)=>ai (Nf P f (v::vs).toArray) fun r=>I6 P o.type r kk
    |some (f,some e)=>match v with
     | .pointer p=>ax p fun a=>TV P e a fun rv=>ai (Nf P f (rv::vs).toArray) fun r=>I6 P o.type r kk
     |_=>aN
    |none=>aN
   |_,_=>aN
  |_=>aN
def cB (ops:List Oper)(j:Nat):Option Nat:=match ops[j]? with
 |some o=>o.dst
 |none=>none
def put (env:Env)(d:Option Tmp)(v:Option Value):Env:=match d with
 |some d=>pc env d v
 |none=>env
def ij (env:Env):List Oper→Env
 |[]=>env
 |o::os=>ij (put env o.dst none) os
def cK:Option (Nat×Bool)→Option (Nat×Bool)→Bool
 |none,none=>true
 |some (i,true),some (j,true)=>i == j
 |some (i,false),some (j,false)=>i == j
 |_,_=>false
def rI (P:Program):List Oper→Env→Option Env
 |[],env=>some env
 |o::os,env=>match cJ P env o with
  |some v=>rI P os (put env o.dst (some v))
  |none=>none
def cutAt (ctx:Option (Nat×Bool)):List Oper→List Oper×List Oper
 |[]=>([],[])
 |o::os=>match cK ctx o.guard with
  |true=>([],o::os)
  |false=>match cutAt ctx os with
   |(a,b)=>(o::a,b)
def nv (g:Option (Nat×Bool)):List Oper→Bool
 |[]=>true
 |o::os=>cK g o.guard&&nv g os
def uO (want:Bool)(c:Nat):Op→Option Operand
 | .pick (.tmp c') a b=>match want,a,b,c' == c with
  |true,x,.const (.bool false),true=>some x
  |false,.const (.bool true),x,true=>some x
  |_,_,_,_=>none
 |_=>none
def lJ (ops:List Oper)(ctx:Option (Nat×Bool))(env:Env):Bool:=match ctx with
 |none=>true
 |some (j,want)=>match cB ops j with
  |none=>false
  |some c=>match look env c,want with
   |some (.bool true),true=>true
   |some (.bool false),false=>true
   |_,_=>false
def pf (ops:List Oper)(c:Nat)(g:Nat×Bool):List Nat→List Oper→Bool
 |_,[]=>true
 |us,o::os=>(o.dst != some c)&&(cK (some g) o.guard||(match o.guard with
   |some (j,_)=>match cB ops j with
    |some c'=>us.contains c'&&c' != c
    |none=>false
   |none=>false))&&pf ops c g (o.dst.toList++us) os
def e5O (want b:Bool)(m:M Bool):M Bool:=match want with
 |true=>aI b m (af false)
 |false=>aI b (af true) m
def comb (want b v:Bool):Bool:=match want with
 |true=>b&&v
 |false=>b||v
def FA (env:Env)(x:Operand):M Bool:=match fF env x with
 |some (.bool r)=>af r
 |_=>aN
def uP (P:Program)(g:Nat×Bool)(ue:List Oper)(env:Env)(x:Operand):Option Bool:=match nv (some g) ue with
 |false=>none
 |true=>match rI P ue env with
  |none=>none
  |some env'=>match fF env' x with
   |some (.bool r)=>some r
   |_=>none
def jL (P:Program)(ops:List Oper)(step:(β:Type)→Env→Oper→(Value→M β)→M β):Nat→(α:Type)→Option (Nat×Bool)→List Oper→Env→(Env→M α)→M α
 |0,_,_,_,_,_=>aN
 |n+1,α,ctx,l,env,fin=>match l with
  |[]=>fin env
  |o::os=>match cK ctx o.guard with
   |true=>match lJ ops ctx env with
    |true=>step α env o fun v=>jL P ops step n α ctx os (put env o.dst (some v)) fin
    |false=>aN
   |false=>match o.guard with
    |none=>aN
    |some (j,want)=>match cB ops j with
     |none=>aN
     |some c=>match look env c with
      |some (.bool b)=>match cutAt ctx (o::os) with
       |(ue,pk::rest)=>match uO want c pk.op,pf ops c (j,want) [] ue,lJ ops ctx (ij env ue) with
        |some x,true,true=>match uP P (j,want) ue (pc env c (some (.bool want))) x with
         |some v=>jL P ops step n α ctx rest (put (ij env ue) pk.dst (some (.bool (comb want b v)))) fin
         |none=>ai (e5O want b (jL P ops step n Bool (some (j,want)) ue (pc env c (some (.bool want))) fun env'=>FA env' x)) fun r=>
          jL P ops step n α ctx rest (put (ij env ue) pk.dst (some (.bool r))) fin
        |_,_,_=>aN
       |_=>aN
      |_=>aN
def mQ (m:M Value)(k:Value→M α):M α:=fun h Q=>∃v,m h (fun v' h'=>v'=v∧h'=h)∧k v h Q
def TY (P:Program)(g:FuncId)(args:Array Value)(k:Value→M α):M α:=mQ (Nf P g args) k
def ph:Op→Bool
 | .load _ _=>true
 | .lookup _ _ _ _=>true
 |_=>false
def er:Op→Bool
 | .nilCheck _| .load _ _| .lookup _ _ _ _| .binOp _ _ _ _ _| .fieldAddr _ _ _| .indexAddr _ _ _| .index _ _ _| .slice _ _ _ _ _=>true
 |_=>false
def yy (P:Program)(β:Type)(env:Env)(o:Oper)(kk:Value→M β):M β:=match cJ P env o with
 |some v=>kk v
 |none=>match o.op with
  | .call { callee:=.value f,args,..}=>match fF env f,iS env args.toList with
   |some (.func (.func g) first cap),some vs=>TY P g (first++vs.toArray++cap) fun v=>I6 P o.type v kk
   |_,_=>aN
  |op=>match er op with
   |true=>ee P env o kk
   |false=>aN
def fP:List Nat→Nat→Env→Env
 |_,_,[]=>[]
 |live,i,x::xs=>(match live.contains i with
  |true=>x
  |false=>none)::fP live (i+1) xs
structure Ag (env:Env) (a:Act):Prop where
 size:env.length=a.tmps.size
 at_:∀i v,look env i=some v→a.tmps[i]? =some v
 defers:a.defers=[]
def Cut (P:Program)(f:FuncId)(todo:List Item)(env:Env):M Value:=fun h Q=>
 ∀a w,w.heap=h→Ag env a→bM P f todo a w Q
def uf (cuts:List (Nat×List Nat))(id:Nat):Option (List Nat):=match cuts with
 |[]=>none
 |(i,l)::cs=>match i == id with
  |true=>some l
  |false=>uf cs id
def my (P:Program)(env:Env):List ResultVar→List Value→(List Value→M Value)→M Value
 |[],acc,k=>k acc
 | .tmp t::rs,acc,k=>match look env t with
  |some v=>my P env rs (acc++[v]) k
  |none=>aN
 | .cell x t::rs,acc,k=>match look env x with
  |some (.pointer p)=>ax p fun a=>TV P t a fun v=>my P env rs (acc++[v]) k
  |_=>aN
def a7N (P:Program)(env:Env)(rs:List ResultVar):M Value:=my P env rs [] fun vs=>match vs with
 |[v]=>af v
 |vs=>af (.tuple vs.toArray)
def fb:Op→Bool
 | .nilCheck _| .binOp _ _ _ _ _| .fieldAddr _ _ _| .indexAddr _ _ _| .index _ _ _| .slice _ _ _ _ _=>true
 |_=>false
def mU (c:Prop)(m:M Value)(k:Value→M α):M α:=fun h Q=>c∧∃v,(∀h',ck h.size h h'→m h' (fun v' h''=>v'=v∧ck h.size h h''))∧k v h Q
def TZ (P:Program)(g:FuncId)(args:Array Value)(k:Value→M α):M α:=mU (jm P g) (Nf P g args) k
def b5v (k:M α):M α:=fun h Q=>∀h',ck h.size h h'→k h' Q
def lK:Op→Bool
 | .load _ _=>true
 |_=>false
def I7 (P:Program)(β:Type)(env:Env)(o:Oper)(kk:Value→M β):M β:=match cJ P env o with
 |some v=>kk v
 |none=>match o.op with
  | .call { callee:=.value f,args,..}=>match fF env f,iS env args.toList with
   |some (.func (.func g) first cap),some vs=>TZ P g (first++vs.toArray++cap) fun v=>I6 P o.type v kk
   |_,_=>aN
  |op=>match fb op||lK op with
   |true=>ee P env o kk
   |false=>aN
def pj (ops:List Oper)(env:Env):Option (Nat×Bool)→Bool
 |none=>true
 |some (j,_)=>match cB ops j with
  |none=>false
  |some c=>match look env c with
   |some (.bool _)=>true
   |some (.tuple _)=>true
   |_=>false
def od (P:Program)(ops:Array Oper)(listed:Array Bool)(env:Env):List Nat→Option Nat
 |[]=>none
 |i::is=>match ops.toList[i]? with
  |none=>none
  |some o=>match pj ops.toList env o.guard,Region.free .any ops listed i,(cJ P env o).isSome||fb o.op with
   |true,true,true=>some i
   |_,_,_=>od P ops listed env is
def uQ (P:Program)(ops:List Oper)(o:Oper)(env:Env)(k:Env→M Value):M Value:=match o.guard with
 |none=>ee P env o fun v=>k (put env o.dst (some v))
 |some (j,want)=>match cB ops j with
  |none=>aN
  |some c=>match look env c with
   |some (.tuple _)=>k (put env o.dst (some undef))
   |some (.bool b)=>match want with
    |true=>aI b (ee P (pc env c (some (.bool true))) o fun v=>k (put (pc env c (some (.bool true))) o.dst (some v))) (k (put (pc env c (some (.bool false))) o.dst (some undef)))
    |false=>aI b (k (put (pc env c (some (.bool true))) o.dst (some undef))) (ee P (pc env c (some (.bool false))) o fun v=>k (put (pc env c (some (.bool false))) o.dst (some v)))
   |_=>aN
def uR (P:Program)(ops:List Oper)(env:Env)(k:Nat→Env→M Value):List Nat→M Value
 |[]=>aN
 |[i]=>match ops[i]? with
  |none=>aN
  |some o=>uQ P ops o env (k i)
 |i::is=>match ops[i]? with
  |none=>aN
  |some o=>aG (uQ P ops o env (k i)) (uR P ops env k is)
def oN (P:Program)(ops:Array Oper):Nat→Array Bool→Env→(Env→M Value)→M Value
 |0,listed,env,fin=>match Region.ready .any ops listed with
  |[]=>fin env
  |_::_=>aN
 |n+1,listed,env,fin=>match Region.ready .any ops listed with
  |[]=>fin env
  |rs=>match od P ops listed env rs with
   |some i=>match ops.toList[i]? with
    |none=>aN
    |some o=>uQ P ops.toList o env fun env'=>oN P ops n (listed.setIfInBounds i true) env' fin
   |none=>uR P ops.toList env (fun i env'=>oN P ops n (listed.setIfInBounds i true) env' fin) rs
def jM (ops:List Oper):List Nat→Option (List Oper)
 |[]=>some []
 |i::is=>match ops[i]?,jM ops is with
  |some o,some os=>some (o::os)
  |_,_=>none
def marksOf (listed:Array Bool):List Nat→Array Bool
 |[]=>listed
 |i::is=>marksOf (listed.setIfInBounds i true) is
def xL (ops:Array Oper):List Nat→Array Bool→Bool
 |[],_=>true
 |k::ks,listed=>(Region.ready .any ops listed).contains k&&Region.free .any ops listed k&&xL ops ks (listed.setIfInBounds k true)
def yz (ops:Array Oper)(hd:List Nat):Bool:=(List.range ops.size).all fun j=>hd.contains j||hd.all fun i=>match ops.toList[j]? with
 |some oj=>oj.after.any fun e=>Region.binds .any e&&e.on == i
 |none=>false
def FB (dm:List (Nat×List Nat))(id:Nat):Option (List Nat):=uf dm id
def T1:List Nat→Option (List Nat)
 |n::l=>match n == 1000000 with
  |true=>some l
  |false=>none
 |_=>none
def AK (P:Program)(ops:Array Oper)(hd:List Nat)(env:Env)(fin:Env→M Value):M Value:=
 match xL ops hd (Array.replicate ops.size false)&&Region.noSelect ops&&yz ops hd&&hd.all (fun i=>decide (i<ops.size))&&decide (hd.length≤ops.size),jM ops.toList hd with
 |true,some l=>jL P ops.toList (yy P) (l.length+1) Value none l env fun env'=>oN P ops (ops.size-hd.length) (marksOf (Array.replicate ops.size false) hd) env' fin
 |_,_=>aN
def ug (P:Program)(ops:Array Oper)(hd:List Nat)(env:Env)(fin:Env→M Value):M Value:=
 match xL ops hd (Array.replicate ops.size false)&&Region.noSelect ops&&yz ops hd&&hd.all (fun i=>decide (i<ops.size))&&decide (hd.length≤ops.size),jM ops.toList hd with
 |true,some l=>jL P ops.toList (I7 P) (l.length+1) Value none l env fun env'=>b5v (oN P ops (ops.size-hd.length) (marksOf (Array.replicate ops.size false) hd) env' fin)
 |_,_=>aN
def I8 (P:Program)(β:Type)(env:Env)(o:Oper)(kk:Value→M β):M β:=match cJ P env o with
 |some v=>kk v
 |none=>match fb o.op||lK o.op with
  |true=>ee P env o kk
  |false=>aN
def FC:Nat→List (Nat×M Value)→(Nat→Value)→((Nat→Value)→M α)→M α
 |_,[],f,k=>k f
 |0,_::_,_,_=>aN
 |n+1,c::cs,f,k=>fun h Q=>∀x∈c::cs,x.2 h fun v h'=>ck h.size h h'∧FC n ((c::cs).filter fun y=> !(y.1 == x.1)) (fun j=>if j=x.1 then v else f j) k h' Q
def gN (P:Program)(ops:List Oper)(env:Env):List Nat→List (Nat×M Value)
 |[]=>[]
 |i::is=>(i,match ops[i]? with
  |some o=>ee P env o af
  |none=>aN)::gN P ops env is
def unG (P:Program)(o:Oper)(v:Value)(k:Value→M α):M α:=match o.op with
 | .call _=>I6 P o.type v k
 | .makeMap _ _=>unM v fun r=>k (.map r)
 | .makeSlice _ _ _=>sI v fun s=>k (.slice s.p s.n s.c)
 | .box _ _=>gx v fun p=>k (.pointer p)
 | .alloc _=>gx v fun p=>k (.pointer p)
 |_=>aN
def T2 (P:Program)(ops:List Oper)(f:Nat→Value):List Nat→Env→(Env→M α)→M α
 |[],env,k=>k env
 |i::is,env,k=>match ops[i]? with
  |some o=>unG P o (f i) fun v=>T2 P ops f is (put env o.dst (some v)) k
  |none=>aN
def Cx:Op→Bool
 | .box _ _| .alloc _| .build _ _| .move _| .assign _=>true
 |_=>false
def pq (P:Program)(ops:List Oper):List Nat→Env→(Env→M α)→M α
 |[],env,k=>k env
 |i::is,env,k=>match ops[i]? with
  |some o=>match o.guard,Cx o.op with
   |none,true=>ee P env o fun v=>pq P ops is (put env o.dst (some v)) k
   |_,_=>aN
  |none=>aN
def uS (ops:Array Oper):List Nat→Array Bool→Bool
 |[],listed=>match Region.ready .any ops listed with
  |[]=>true
  |_=>false
 |k::ks,listed=>(match Region.ready .any ops listed with
  |[j]=>j == k
  |_=>false)&&uS ops ks (listed.setIfInBounds k true)
def gsB (ops:List Oper)(hd:List Nat):List Nat→List Nat→Bool
 |_,[]=>true
 |kR,g::gs=>(match ops[g]? with
  |some o=>o.guard.isNone&&o.dst.isSome&&o.after.all (fun e=> !Region.binds .any e||(hd.contains e.on||kR.contains e.on))
  |none=>false)&& !hd.contains g&& !kR.contains g&&gsB ops hd (g::kR) gs
def oO (ops:List Oper)(i:Nat):Nat:=match ops[i]? with
 |some o=>match o.dst with
  |some d=>d
  |none=>0
 |none=>0
def Cy (ops:List Oper):List Nat→Bool
 |[]=>true
 |g::gs=>gs.all (fun j=>oO ops j != oO ops g)&&Cy ops gs
def AL (ops:List Oper)(env:Env)(gs:List Nat):Bool:=gs.all fun i=>(look env (oO ops i)).isNone&&decide (oO ops i<env.length)
def vB (ops:Array Oper)(hd gs tl:List Nat):Bool:=
 Region.noSelect ops&&xL ops hd (Array.replicate ops.size false)&&(List.range ops.size).all (fun i=>hd.contains i||gs.contains i||tl.contains i)&&hd.all (fun i=>decide (i<ops.size))&&gsB ops.toList hd [] gs&&Cy ops.toList gs&&
  tl.all (fun j=>match ops.toList[j]? with
   |some o=>(gs.all fun g=>o.after.any fun e=>Region.binds .any e&&e.on == g)||o.after.any fun e=>Region.binds .any e&&(!hd.contains e.on&& !gs.contains e.on)
   |none=>false)&&uS ops tl (marksOf (marksOf (Array.replicate ops.size false) hd) gs)&&decide (hd.length+(gs.length+tl.length)=ops.size)
def uh (P:Program)(ops:Array Oper)(hd gs tl:List Nat)(env:Env)(fin:Env→M Value):M Value:=
 match vB ops hd gs tl,jM ops.toList hd with
 |true,some l=>jL P ops.toList (I8 P) (l.length+1) Value none l env fun env'=>match AL ops.toList env' gs with
  |true=>FC gs.length (gN P ops.toList env' gs) (fun _=>undef) fun f=>T2 P ops.toList f gs env' fun uT=>pq P ops.toList tl uT fin
  |false=>aN
 |_,_=>aN
def uU:List Nat→List Nat×List Nat
 |[]=>([],[])
 |n::l=>match n == 2000001 with
  |true=>([],l)
  |false=>let r:=uU l;(n::r.1,r.2)
def T3:List Nat→Option (List Nat×List Nat×List Nat)
 |n::l=>match n == 2000000 with
  |true=>let a:=uU l;let b:=uU a.2;some (a.1,b.1,b.2)
  |false=>none
 |_=>none
def FD (fn:Func):Code:=match fn.body with
 |some c=>c
 |none=>.skip
def pt (id:Nat):Code→List Item→Option (List Item)
 | .region i ops d,k=>match i == id with
  |true=>some (.code (.region i ops d)::k)
  |false=>none
 | .seq a b,k=>match pt id a (.code b::k) with
  |some t=>some t
  |none=>pt id b k
 | .cond _ x y,k=>match pt id x k with
  |some t=>some t
  |none=>pt id y k
 | .block i c,k=>pt id c (.inBlock i::k)
 | .loop c,k=>pt id c (.inLoop c::k)
 |_,_=>none
def aQ (fn:Func)(id:Nat):List Item:=match pt id (FD fn) [] with
 |some t=>t
 |none=>[]
def assoc:List (Nat×Value)→Nat→Option Value
 |[],_=>none
 |(j,v)::l,i=>match j == i with
  |true=>some v
  |false=>assoc l i
def bf (l:List (Nat×Value)):Nat→Nat→Env
 |0,_=>[]
 |n+1,i=>assoc l i::bf l n (i+1)
def ev (P:Program)(f:FuncId)(res:List ResultVar)(cuts dm:List (Nat×List Nat)):Nat→Bool→List Item→Env→M Value
 |0,_,_,_=>aN
 |n+1,first,todo,env=>match todo with
  |[]=>a7N P env res
  | .code c::k=>match c with
   | .ret=>a7N P env res
   | .skip=>ev P f res cuts dm n first k env
   | .label _=>ev P f res cuts dm n first k env
   | .seq x y=>ev P f res cuts dm n first (.code x:: .code y::k) env
   | .cond c x y=>match fF env c with
    |some (.bool b)=>aI b (ev P f res cuts dm n false (.code x::k) env) (ev P f res cuts dm n false (.code y::k) env)
    |_=>aN
   | .block i c=>ev P f res cuts dm n first (.code c:: .inBlock i::k) env
   | .loop c=>ev P f res cuts dm n first (.code c:: .inLoop c::k) env
   | .exit i=>match exitTo i k with
    |some k'=>ev P f res cuts dm n first k' env
    |none=>aN
   | .region id ops draw=>match first,uf cuts id with
    |false,some live=>Cut P f (.code (.region id ops draw)::k) (fP live 0 env)
    |_,_=>match draw with
     |false=>jL P ops.toList (fun _ env o kk=>ee P env o kk) (ops.toList.length+1) Value none ops.toList env fun env'=>ev P f res cuts dm n false k env'
     |true=>match FB dm id with
      |some hd=>match T1 hd with
       |some hu=>ug P ops hu env fun env'=>ev P f res cuts dm n false k env'
       |none=>match T3 hd with
        |some hv=>uh P ops hv.1 hv.2.1 hv.2.2 env fun env'=>ev P f res cuts dm n false k env'
        |none=>AK P ops hd env fun env'=>ev P f res cuts dm n false k env'
      |none=>match Region.lexB .any ops with
       |true=>jL P ops.toList (yy P) (ops.toList.length+1) Value none ops.toList env fun env'=>ev P f res cuts dm n false k env'
       |false=>aN
   |_=>aN
  | .inBlock _::k=>ev P f res cuts dm n first k env
  | .inLoop c::k=>ev P f res cuts dm n first (.code c:: .inLoop c::k) env
  |_=>aN
end ev
end Go.Sb
end
section
namespace Go.Sb
open Go
theorem Cz (env:Env)(d i:Nat)(v:Option Value):look (pc env d v) i=if i=d∧d<env.length then v else look env i:=by
 induction env generalizing d i with
 |nil=>cases i<;>simp[look,pc]
 |cons x xs ih=>
  cases d with
  |zero=>cases i<;>simp[look,pc]
  |succ d=>cases i with
   |zero=>simp[look,pc]
   |succ i=>simp[look,pc,ih]
theorem uV (env:Env)(d:Nat)(v:Option Value):(pc env d v).length=env.length:=by
 induction env generalizing d with
 |nil=>rfl
 |cons x xs ih=>cases d<;>simp[pc,ih]
theorem uW (env:Env)(d:Option Tmp)(v:Option Value):(put env d v).length=env.length:=by
 cases d<;>simp[put,uV]
theorem CA (env:Env)(d:Option Tmp)(i:Nat)(v:Option Value):look (put env d v) i=if d=some i∧i<env.length then v else look env i:=by
 cases d with
 |none=>simp[put]
 |some d=>
  simp only[put,Cz,Option.some.injEq]
  by_cases h:i=d
  ·subst h;simp
  ·have:¬d=i:=fun e=>h e.symm
   simp[h,this]
theorem a7O {env:Env}{i:Nat}{v:Value}(h:look env i=some v):i<env.length:=by
 induction env generalizing i with
 |nil=>cases i<;>simp[look]at h
 |cons x xs ih=>cases i with
  |zero=>simp
  |succ i=>have:=ih (i:=i) (by simpa[look]using h);simp;omega
theorem gB (a:Act)(d:Option Tmp)(v:Value)(i:Nat):(a.put d v).tmps[i]? =if d=some i∧i<a.tmps.size then some v else a.tmps[i]? :=by
 cases d with
 |none=>simp[Act.put]
 |some d=>
  simp only[Act.put,Array.getElem?_setIfInBounds,Option.some.injEq]
  by_cases h:d=i
  ·subst h
   by_cases h2:d<a.tmps.size
   ·simp[h2]
   ·simp[h2]
  ·simp[h]
theorem nw (a:Act)(d:Option Tmp)(v:Value):(a.put d v).tmps.size=a.tmps.size:=by
 cases d<;>simp[Act.put]
theorem put_defers (a:Act)(d:Option Tmp)(v:Value):(a.put d v).defers=a.defers:=by
 cases d<;>simp[Act.put]
theorem Ag.put {env:Env}{a:Act}(h:Ag env a)(d:Option Tmp)(v:Value):Ag (put env d (some v)) (a.put d v):=by
 refine⟨by rw[uW,nw,h.size],fun i u hu=>?_,by rw[put_defers,h.defers]⟩
 rw[CA]at hu
 rw[gB]
 by_cases hc:d=some i∧i<env.length
 ·rw[if_pos hc]at hu
  rw[if_pos ⟨hc.1,h.size ▸ hc.2⟩];exact hu
 ·rw[if_neg hc]at hu
  rw[if_neg (by rw[←h.size];exact hc)]
  exact h.at_ i u hu
theorem Ag.set {env:Env}{a:Act}(h:Ag env a){d:Nat}{v:Value}(hv:a.tmps[d]? =some v):Ag (pc env d (some v)) a:=by
 refine⟨by rw[uV,h.size],fun i u hu=>?_,h.defers⟩
 rw[Cz]at hu
 split at hu
 ·rename_i hc;rw[hc.1,hv,hu]
 ·exact h.at_ i u hu
theorem xM (live:List Nat)(env:Env)(k i:Nat){v:Value}(h:look (fP live k env) i=some v):look env i=some v:=by
 induction env generalizing k i with
 |nil=>simp[fP,look]at h
 |cons x xs ih=>cases i with
  |zero=>simp only[fP,look]at h;split at h<;>simp_all [look]
  |succ i=>simp only[fP,look]at h ⊢;exact ih _ _ h
theorem tO (live:List Nat)(k:Nat)(env:Env):(fP live k env).length=env.length:=by
 induction env generalizing k with
 |nil=>rfl
 |cons x xs ih=>simp[fP,ih]
theorem Ag.fP {env:Env}{a:Act}(h:Ag env a)(live:List Nat):Ag (Sb.fP live 0 env) a:=
 ⟨by rw[tO,h.size],fun i v hv=>h.at_ i v (xM _ _ _ _ hv),h.defers⟩
theorem Ag.eval {env:Env}{a:Act}(h:Ag env a){x:Operand}{v:Value}(hx:fF env x=some v):a.eval x=v:=by
 cases x with
 |tmp t=>simp only[fF]at hx;simp[Act.eval,h.at_ t v hx]
 |const u=>simp only[fF,Option.some.injEq]at hx;rw[←hx];rfl
 |global g=>simp only[fF,Option.some.injEq]at hx;rw[←hx];rfl
 |func f=>simp only[fF,Option.some.injEq]at hx;rw[←hx];rfl
theorem CB {env:Env}{a:Act}(h:Ag env a):∀(xs:List Operand) (vs:List Value),iS env xs=some vs→xs.map a.eval=vs
 |[],vs,he=>by simp[iS]at he;simp[he]
 |x::xs,vs,he=>by
  simp only[iS]at he
  split at he
  ·rename_i v vs' hv hvs
   cases he
   simp[h.eval hv,CB h xs vs' hvs]
  ·cases he
theorem cQ {env:Env}{a:Act}(h:Ag env a){xs:Array Operand}{vs:List Value}(he:iS env xs.toList=some vs):xs.map a.eval=vs.toArray:=by
 have:=CB h _ _ he
 apply Array.ext'
 rw[Array.toList_map,this]
theorem jR {env:Env}{a:Act}(h:Ag env a):∀(xs:List (Nat×Operand)) (vs:List (Nat×Value)),eo env xs=some vs→xs.map (fun x=>(x.1,a.eval x.2))=vs
 |[],vs,he=>by simp[eo]at he;simp[he]
 |x::xs,vs,he=>by
  simp only[eo]at he
  split at he
  ·rename_i v vs' hv hvs
   cases he
   simp[h.eval hv,jR h xs vs' hvs]
  ·cases he
theorem I9 (w:World)(a:Addr):w.cell? a=hcell w.heap a:=rfl
theorem KZ (w:World)(a:Addr):w.frozen? a=gM w.heap a:=rfl
theorem FE (w:World)(a:Addr)(v:Value):w.setCell a v={ w with heap:=gA w.heap a v}:=rfl
theorem Kept.heap (w:World)(h:Hp):Kept w { w with heap:=h}:=⟨rfl,rfl,rfl⟩
section sem
variable {P:Program}{w:World}
theorem gC {a:Addr}{v:Value}(h:hcell w.heap a=some v):(load a).run P w= .ok v w:=by
 rw[run_load,I9,h]
theorem qy {a:Addr}{v:Value}(hv:v.oneCell'=true)(h:(hcell w.heap a).isSome=true)(hf:gM w.heap a=false):
  (store a v).run P w= .ok () { w with heap:=gA w.heap a v}:=by
 rw[run_store P w a v .plain hv,I9,KZ,hf]
 cases hc:hcell w.heap a with
 |none=>simp[hc]at h
 |some u=>simp[FE]
theorem run_underlying {t:TypeId}{d:TypeDesc}(h:P.underlying t=some d):(underlying t).run P w= .ok d w:=by
 simp[underlying,h]
theorem run_typeInfo {t:TypeId}{d:TypeInfo}(h:P.info? t=some d):(typeInfo t).run P w= .ok d w:=by
 simp[typeInfo,h]
theorem FF {t:TypeId}{n:Nat}(h:cI P t=some n):∃i,P.info? t=some i∧i.size=n:=by
 unfold cI at h;cases hi:P.info? t with
 |none=>simp[hi]at h
 |some i=>exact⟨i,rfl,by simpa[hi]using h⟩
theorem run_sizeOf {t:TypeId}{n:Nat}(h:cI P t=some n):(sizeOf t).run P w= .ok n w:=by
 obtain⟨i,hi,rfl⟩:=FF h
 simp[sizeOf,run_typeInfo hi]
theorem sJ {t:TypeId}{n:Nat}(h:nu P t=some n):∃i,P.info? t=some i∧i.bytes=n:=by
 unfold nu at h;cases hi:P.info? t with
 |none=>simp[hi]at h
 |some i=>exact⟨i,rfl,by simpa[hi]using h⟩
theorem cE {t:TypeId}{v:Value}(h:gv P t=some v):(zeroValue t).run P w= .ok v w:=by
 unfold gv at h
 cases hi:P.info? t with
 |none=>simp[hi]at h
 |some i=>simp only[hi]at h;simp[zeroValue,run_typeInfo hi,h]
theorem fc {t:TypeId}{d:TypeDesc}(h:P.underlying t=some d):(isAgg t).run P w= .ok (en P t) w:=by
 unfold isAgg en
 rw[Sem.run_bind,run_underlying h,h]
 cases d<;>rfl
end sem
end Go.Sb
end
section
namespace Go.Sb
open Go
section pur
variable {P:Program}
theorem Sem.aO (s:Sem Value)(w:World){v:Value}{w':World}(h:s.run P w= .ok v w'):(do pure (Next.value (←s)):Sem Next).run P w= .ok (.value v) w':=by
 rw[Sem.run_bind,h];rfl
theorem xN {op:BinOp}{k:IntKind}{x y:Int}{v:Value}(h:oc op k x y=some v)(t:TypeId)(w:World):(binOp op t (.int k x) (.int k y)).run P w= .ok v w:=by
 cases op<;>simp[oc]at h<;>subst h<;>simp[binOp,Op.intArith,Op.intBits,Op.intCmp]
theorem xO {op:BinOp}{x y:ByteArray}{v:Value}(h:qv op x y=some v)(t:TypeId)(w:World):(binOp op t (.string x) (.string y)).run P w= .ok v w:=by
 cases op<;>simp only[qv,Option.some.injEq,reduceCtorEq]at h<;>subst h<;>simp[binOp,Op.stringOp]
theorem ik {op:BinOp}{t:TypeId}{x y:Operand}{a b:Value}(h1:a≠.nilIface)(h2:∀cs,a≠.agg cs)(w:World):(eqGuard op t x y a b).run P w= .ok () w:=by
 unfold eqGuard
 cases op<;>simp
 all_goals (cases a<;>first|rfl|(exact absurd rfl h1)|(exact absurd rfl (h2 _)))
theorem uX {t:TypeId}{a b:Bool}(h:P.underlying t=some .bool)(w:World):(Op.equal t (.bool a) (.bool b)).run P w= .ok (a == b) w:=by
 unfold Op.equal
 rw[show Op.maxDepth=9999+1 from rfl,Op.equalIn,Sem.run_bind,run_underlying h]
 rfl
theorem K0 {t e:TypeId}{p:Option Addr}(h:P.underlying t=some (.pointer e))(w:World):(Op.equal t (.pointer p) (.pointer none)).run P w= .ok p.isNone w:=by
 unfold Op.equal
 rw[show Op.maxDepth=9999+1 from rfl,Op.equalIn,Sem.run_bind,run_underlying h]
 cases p<;>rfl
theorem CC {t e:TypeId}{p:Option Addr}{n c m d:Nat}(h:P.underlying t=some (.slice e))(w:World):(Op.equal t (.slice p n c) (.slice none m d)).run P w= .ok p.isNone w:=by
 unfold Op.equal
 rw[show Op.maxDepth=9999+1 from rfl,Op.equalIn,Sem.run_bind,run_underlying h]
 cases p<;>rfl
theorem ny {t:TypeId}{xs:Array Value}{off:Nat}{v:Value}(h:oM P t xs.toList off=some v)(w:World):(part t xs off).run P w= .ok v w:=by
 unfold oM at h
 cases hu:P.underlying t with
 |none=>simp[hu]at h
 |some d=>
  cases hn:cI P t with
  |none=>simp[hu,hn]at h
  |some n=>
   simp only[hu,hn]at h
   unfold part
   simp only[Sem.run_bind,fc hu,Result.andThen_ok]
   cases dH:en P t with
   |true=>
    simp only[dH,Option.some.injEq]at h
    subst h
    simp only[if_true,Sem.run_bind,run_sizeOf hn,Result.andThen_ok,Sem.run_pure]
    congr 2
    apply Array.ext'
    simp
   |false=>
    simp only[dH]at h
    rw[Array.getElem?_toList]at h
    simp only[Bool.false_eq_true,if_false,h]
    rfl
theorem uY {e:TypeId→Value→Value→Option Bool}{D:Nat}(w:World)(he:∀t x y b,e t x y=some b→(Op.equalIn D t x y).run P w= .ok b w)(xs ys:Array Value):
  ∀(fs:List Field) (b:Bool),AJ P e xs.toList ys.toList fs=some b→(Op.eqFields D xs ys fs).run P w= .ok b w
 |[],b,h=>by simp only[AJ,Option.some.injEq]at h;subst h;rfl
 |f::fs,b,h=>by
  unfold AJ at h
  cases hn:f.name == "_" with
  |true=>simp[hn]at h
  |false=>
   simp only[hn]at h
   cases ha:oM P f.type xs.toList f.offset with
   |none=>simp[ha]at h
   |some va=>
    cases hb:oM P f.type ys.toList f.offset with
    |none=>simp[ha,hb]at h
    |some vb=>
     simp only[ha,hb]at h
     cases hr:e f.type va vb with
     |none=>simp[hr]at h
     |some r=>
      cases hs:AJ P e xs.toList ys.toList fs with
      |none=>simp[hr,hs]at h
      |some s=>
       simp only[hr,hs,Option.some.injEq]at h
       subst h
       unfold Op.eqFields
       have hne:f.name≠ "_" :=by simpa using hn
       simp only[hne,ne_eq,not_false_eq_true,if_true,Sem.run_bind,ny ha,ny hb,Result.andThen_ok,he _ _ _ _ hr]
       cases r
       ·rfl
       ·simp only[Bool.not_true,Bool.false_eq_true,if_false,Bool.true_and]
        exact uY w he xs ys fs s hs
theorem oe (w:World):∀(d D:Nat) (t:TypeId) (x y:Value) (b:Bool),d≤D→xK P d t x y=some b→(Op.equalIn D t x y).run P w= .ok b w
 |0,D,t,x,y,b,_,h=>by simp[xK]at h
 |d+1,D,t,x,y,b,hD,h=>by
  obtain⟨D,rfl⟩:∃m,D=m+1:=⟨D-1,by omega⟩
  unfold xK at h
  split at h
  ·rename_i k' k a k2 b' hu
   split at h
   ·rename_i hk;subst hk;cases h;exact run_equalIn_int w D t _ k' _ _ hu
   ·cases h
  ·rename_i a b' hu;cases h;exact run_equalIn_bool' w D t _ _ hu
  ·rename_i a b' hu;cases h;exact run_equalIn_string w D t _ _ hu
  ·rename_i fs xs ys hu
   split at h
   ·cases h
   ·rename_i hst
    have hf:P.fieldsOf t=fs:=by simp[Program.fieldsOf,hu]
    rw[run_equalIn_struct w D t xs ys (by rw[hf];exact hu) hst,hf]
    exact uY w (fun t x y b hb=>oe w d D t x y b (by omega) hb) xs ys fs.toList b h
  ·cases h
theorem xP {y:Operand}(h:uM y=true):y= .const (.pointer none):=by
 unfold uM at h
 split at h
 ·rfl
 ·cases h
theorem tP {y:Operand}(h:pd y=true):∃n c,y= .const (.slice none n c):=by
 unfold pd at h
 split at h
 ·exact⟨_,_,rfl⟩
 ·cases h
theorem xQ {op:BinOp}{t:TypeId}{x y:Operand}{vx vy v:Value}(h:dR P op t y vx vy=some v)(hy:∀c,y= .const c→c=vy)(w:World):
  ((do eqGuard op t x y vx vy;binOp op t vx vy):Sem Value).run P w= .ok v w:=by
 by_cases dH:∃xs ys,vx= .agg xs∧vy= .agg ys
 ·obtain⟨xs,ys,rfl,rfl⟩:=dH
  simp only[dR]at h
  split at h
  ·rename_i b hgt hb
   cases h
   rw[Sem.run_bind,run_eqGuard_agg w _ _ _ _ _ _ hgt,Result.andThen_ok,run_eql_struct,oe w 20 10000 t _ _ b (by omega) hb]
   rfl
  ·rename_i b hgt hb
   cases h
   rw[Sem.run_bind,run_eqGuard_agg w _ _ _ _ _ _ hgt,Result.andThen_ok,run_neq_struct,oe w 20 10000 t _ _ b (by omega) hb]
   rfl
  ·cases h
 have hg:(eqGuard op t x y vx vy).run P w= .ok () w:=by
  refine ik ?_ ?_ w
  ·rintro rfl;cases vy<;>simp[dR]at h
  ·rintro cs rfl;cases vy<;>first|(simp[dR]at h;done)|exact dH ⟨_,_,rfl,rfl⟩
 rw[Sem.run_bind,hg,Result.andThen_ok]
 unfold dR at h
 split at h
 ·rename_i k a k' b
  split at h
  ·rename_i hk;subst hk;exact xN h t w
  ·cases h
 ·rename_i a b
  split at h
  ·rename_i hu;cases h;simp[binOp,uX hu]
  ·rename_i hu;cases h;simp[binOp,uX hu]
  ·cases h
 ·rename_i a b;exact xO h t w
 ·rename_i p vy'
  split at h
  all_goals first|(cases h;done)|skip
  all_goals
   rename_i hn hu
   cases h
   have hyc:=xP hn
   have:=hy _ hyc;subst this
   simp[binOp,K0 hu]
 ·rename_i p n c vy'
  split at h
  all_goals first|(cases h;done)|skip
  all_goals
   rename_i hn hu
   cases h
   obtain⟨_,_,hyc⟩:=tP hn
   have:=hy _ hyc;subst this
   simp[binOp,CC hu]
 ·exact absurd ⟨_,_,rfl,rfl⟩ dH
 ·cases h
end pur
end Go.Sb
end
section
namespace Go.Sb
open Go
theorem nz (off:Nat):∀(vs:List Value) (k:Nat) (cs:Array Value),(List.foldl (fun (cs:Array Value) (x:Value×Nat)=>cs.setIfInBounds (off+x.2) x.1) cs (vs.zipIdx k)).toList=setCells cs.toList (off+k) vs
 |[],k,cs=>by simp[setCells]
 |v::vs,k,cs=>by
  rw[List.zipIdx_cons,List.foldl_cons,nz off vs (k+1),setCells]
  simp[Nat.add_assoc]
theorem fill_eq (place:Nat→Option (Nat×Nat)):∀(parts:List (Nat×Value)) (cells:Array Value),Instr.fill place cells parts=(gU place cells.toList parts).map List.toArray
 |[],cells=>by simp[Instr.fill,gU]
 |(i,v)::rest,cells=>by
  rw[Instr.fill,gU]
  cases hp:place i with
  |none=>simp
  |some x=>
   obtain⟨off,size⟩:=x
   simp only[]
   by_cases hc:v.cells.toList.length=size∧off+v.cells.toList.length≤cells.toList.length
   ·rw[if_pos hc,if_neg (by simp at hc ⊢;omega),fill_eq place rest]
    congr 2
    have:=nz off v.cells.toList 0 cells
    rw[Nat.add_zero]at this
    rw[←this,←Array.foldl_toList,Array.toList_zipIdx]
   ·rw[if_neg hc,if_pos (by simp at hc ⊢;omega)];rfl
section pur
variable {P:Program}
theorem run_places:∀(fs:List Field) (pl:List (Nat×Nat)) (w:World),eL P fs=some pl→(fs.mapM fun f=>(do pure (f.offset,←sizeOf f.type):Sem (Nat×Nat))).run P w= .ok pl w
 |[],pl,w,h=>by simp[eL]at h;subst h;simp
 |f::fs,pl,w,h=>by
  simp only[eL]at h
  split at h
  ·rename_i n l hn hl
   cases h
   rw[List.mapM_cons]
   simp only[Sem.run_bind,run_sizeOf hn,Result.andThen_ok,Sem.run_pure,run_places fs l w hl]
  ·cases h
theorem CD {fs:Array Field}{pl:List (Nat×Nat)}(w:World)(h:eL P fs.toList=some pl):(fs.mapM fun f=>(do pure (f.offset,←sizeOf f.type):Sem (Nat×Nat))).run P w= .ok pl.toArray w:=by
 rw[Array.mapM_eq_mapM_toList]
 simp only[Sem.run_map,run_places _ _ w h,Result.andThen_ok]
theorem rJ {t:TypeId}{fs:Array Field}{z:Value}{pl:List (Nat×Nat)}{ps:Array (Nat×Value)}{cs:List Value}(hu:P.underlying t=some (.struct fs))(hz:gv P t=some z)
  (hp:eL P fs.toList=some pl) (hf:gU (fun i=>pl[i]?) z.cells.toList ps.toList=some cs) (w:World):(Instr.build t ps).run P w= .ok (.agg cs.toArray) w:=by
 unfold Instr.build
 have:(fun i:Nat=>pl.toArray[i]?)=fun i:Nat=>pl[i]? :=by funext i;simp
 simp only[Sem.run_bind,cE hz,Result.andThen_ok,run_underlying hu,CD w hp,fill_eq,this,hf,Option.map_some,Sem.run_pure]
theorem tQ {t e:TypeId}{m n:Nat}{z:Value}{ps:Array (Nat×Value)}{cs:List Value}(hu:P.underlying t=some (.array m e))(hz:gv P t=some z)
  (hs:cI P e=some n) (hf:gU (fun i=>some (i*n,n)) z.cells.toList ps.toList=some cs) (w:World):(Instr.build t ps).run P w= .ok (.agg cs.toArray) w:=by
 unfold Instr.build
 simp only[Sem.run_bind,cE hz,Result.andThen_ok,run_underlying hu,run_sizeOf hs,fill_eq,hf,Option.map_some,Sem.run_pure]
theorem CE (w:World):∀(vs:List Value) (k:IntKind) (x:Int) (l:List (IntKind×Int)),gQ vs=some l→(vs.foldlM Builtin.max2 (.int k x)).run P w= .ok (qw k x l) w
 |[],k,x,l,h=>by simp[gQ]at h;subst h;simp[qw]
 | .int k' y::vs,k,x,l,h=>by
  simp only[gQ]at h
  split at h
  ·rename_i l' hl;cases h
   rw[List.foldlM_cons,Sem.run_bind,Builtin.max2,Sem.run_pure,Result.andThen_ok,CE w vs _ _ _ hl,qw]
  ·cases h
theorem CF (w:World):∀(vs:List Value) (k:IntKind) (x:Int) (l:List (IntKind×Int)),gQ vs=some l→(vs.foldlM Builtin.min2 (.int k x)).run P w= .ok (qx k x l) w
 |[],k,x,l,h=>by simp[gQ]at h;subst h;simp[qx]
 | .int k' y::vs,k,x,l,h=>by
  simp only[gQ]at h
  split at h
  ·rename_i l' hl;cases h
   rw[List.foldlM_cons,Sem.run_bind,Builtin.min2,Sem.run_pure,Result.andThen_ok,CF w vs _ _ _ hl,qx]
  ·cases h
theorem dw {env:Env}{o:Oper}{v:Value}(h:cJ P env o=some v){a:Act}(ha:Ag env a)(w:World):(execOp a.eval o).run P w= .ok (.value v) w:=by
 obtain⟨dst,op,type,pos,after,guard⟩:=o
 cases op<;>simp only[cJ,reduceCtorEq]at h
 case move x=>simp[execOp,ha.eval h]
 case assign x=>simp[execOp,ha.eval h]
 case pick c x y=>
  split at h
  ·rename_i hc hx hy
   cases h
   rename_i c' x' y'
   simp only[execOp,ha.eval hc,ha.eval hx,ha.eval hy]
   cases c'<;>rfl
  ·cases h
 case build t parts=>
  split at h
  ·rename_i fs z ps hu hz hps
   split at h
   ·rename_i pl T4
    split at h
    ·rename_i cs hcs
     cases h
     simp only[execOp]
     refine Sem.aO _ w (rJ hu hz T4 ?_ w)
     rw[Array.toList_map,jR ha _ _ hps];exact hcs
    ·cases h
   ·cases h
  ·rename_i m e z ps hu hz hps
   split at h
   ·rename_i n hn
    split at h
    ·rename_i cs hcs
     cases h
     simp only[execOp]
     refine Sem.aO _ w (tQ hu hz hn ?_ w)
     rw[Array.toList_map,jR ha _ _ hps];exact hcs
    ·cases h
   ·cases h
  ·cases h
 case binOp op t x y yt=>
  split at h
  ·rename_i vx vy hx hy
   simp only[execOp,ha.eval hx,ha.eval hy]
   refine Sem.aO _ w (xQ h ?_ w)
   rintro c rfl
   simpa[fF]using hy
  ·cases h
 case unOp op t x=>
  split at h
  ·rename_i b hx;cases h;simp[execOp,ha.eval hx,Op.unary]
  ·rename_i k n hx;cases h;simp[execOp,ha.eval hx,Op.unary,Op.intArith]
  ·cases h
 case convert s d x=>
  split at h
  ·rename_i ds k k' n hs hu hx
   cases h
   simp only[execOp,ha.eval hx]
   refine Sem.aO _ w ?_
   unfold convert
   simp only[Sem.run_bind,run_underlying hs,run_underlying hu,Result.andThen_ok]
   rfl
  ·cases h
 case makeFunc fn first captured=>
  split at h
  ·rename_i x y hx hy
   cases h
   simp only[execOp,cQ ha hx,cQ ha hy]
   rfl
  ·cases h
 case field t x f=>
  split at h
  ·rename_i fs cs hu hx
   split at h
   ·rename_i g hg
    split at h
    ·rename_i d n hd hn
     have hgg:fs[f]? =some g:=by rw[←Array.getElem?_toList];exact hg
     simp only[execOp,ha.eval hx]
     refine Sem.aO _ w ?_
     unfold Instr.field part
     simp only[Sem.run_bind,run_underlying hu,Result.andThen_ok,hgg,asAgg,Sem.run_pure,fc hd]
     split at h
     ·rename_i dH
      cases h
      simp only[dH,if_true,Sem.run_bind,run_sizeOf hn,Result.andThen_ok,Sem.run_pure]
      congr 2
      apply Array.ext'
      simp
     ·rename_i dH
      simp only[dH,if_false,Bool.false_eq_true]
      rw[Array.getElem?_toList]at h
      rw[h]
      rfl
    ·cases h
   ·cases h
  ·cases h
 case extract t i=>
  split at h
  ·rename_i vs hx
   rw[Array.getElem?_toList]at h
   simp[execOp,ha.eval hx,Instr.extract,h]
  ·cases h
 case call c=>
  obtain⟨callee,args,argTypes⟩:=c
  cases callee<;>simp only[reduceCtorEq]at h
  rename_i b
  have key:∀vs,iS env args.toList=some vs→args.map a.eval=vs.toArray:=fun vs hv=>cQ ha hv
  have fG:∀t ts,argTypes.toList=t::ts→argTypes[0]? =some t:=fun t ts he=>by rw[←Array.getElem?_toList,he];rfl
  simp only[execOp,resolve,Sem.run_bind,Sem.run_pure,Result.andThen_ok,invoke]
  split at h
  ·rename_i b' q n c t ts hargs hts
   split at h
   ·rename_i e hu
    cases h
    simp only[builtin]
    refine Sem.aO _ w ?_
    rw[key _ hargs]
    simp only[Builtin.len_,fG _ _ hts,List.getElem?_toArray,List.getElem?_cons_zero,Sem.run_bind,run_underlying hu,Result.andThen_ok]
    rfl
   ·cases h
  ·rename_i b' s t ts hargs hts
   split at h
   ·rename_i hu
    cases h
    simp only[builtin]
    refine Sem.aO _ w ?_
    rw[key _ hargs]
    simp only[Builtin.len_,fG _ _ hts,List.getElem?_toArray,List.getElem?_cons_zero,Sem.run_bind,run_underlying hu,Result.andThen_ok]
    rfl
   ·cases h
  ·rename_i b' v vs t ts _ _ hargs hts
   split at h
   ·rename_i n e hu
    cases h
    simp only[builtin]
    refine Sem.aO _ w ?_
    rw[key _ hargs]
    simp only[Builtin.len_,fG _ _ hts,List.getElem?_toArray,List.getElem?_cons_zero,Sem.run_bind,run_underlying hu,Result.andThen_ok]
    rfl
   ·cases h
  ·rename_i b' k x vs hargs
   split at h
   ·rename_i l hl
    cases h
    simp only[builtin]
    refine Sem.aO _ w ?_
    rw[key _ hargs]
    simp only[Builtin.max_]
    exact CE w vs k x l hl
   ·cases h
  ·rename_i b' k x vs hargs
   split at h
   ·rename_i l hl
    cases h
    simp only[builtin]
    refine Sem.aO _ w ?_
    rw[key _ hargs]
    simp only[Builtin.min_]
    exact CF w vs k x l hl
   ·cases h
  ·cases h
end pur
end Go.Sb
end
section
namespace Go.Sb
open Go
section mem
variable {P:Program}{α:Type}
theorem yA {t:TypeId}{a:Addr}{k:Value→M α}{h:Hp}{Q:α→Hp→Prop}(hh:ld1 P t a k h Q):∃v,hcell h a=some v∧k v h Q:=by
 unfold ld1 at hh
 cases hu:P.underlying t with
 |none=>rw[hu]at hh;obtain⟨n,h1,h2⟩:=hh;exact⟨_,h1,h2⟩
 |some d=>
  rw[hu]at hh
  cases d<;>first
   |(obtain⟨n,h1,h2⟩:=hh;exact⟨_,h1,h2⟩)
   |(obtain⟨g,f,c,h1,h2⟩:=hh;exact⟨_,h1,h2⟩)
theorem oP {a:Addr}{h:Hp}{Q:α→Hp→Prop}:∀(ts:List TypeId) (i:Nat) (acc:Array Value) (k:Array Value→M α),n7 P a ts i acc k h Q→
  ∃cs,(∀w:World,w.heap=h→(loadCellsFrom a i ts.length acc).run P w= .ok cs w)∧k cs h Q
 |[],i,acc,k,hh=>⟨acc,fun w _=>by simp[loadCellsFrom],hh⟩
 |t::ts,i,acc,k,hh=>by
  obtain⟨v,h1,h2⟩:=yA hh
  obtain⟨cs,h3,h4⟩:=oP ts (i+1) (acc.push v) k h2
  refine⟨cs,fun w hw=>?_,h4⟩
  rw[List.length_cons,loadCellsFrom,Sem.run_bind,gC (hw ▸ h1),Result.andThen_ok]
  exact h3 w hw
theorem il {a:Addr}{h:Hp}:∀(n i:Nat) (vs:List Value) (acc:Array Value),hcells h a i n=some vs→∀w:World,w.heap=h→(loadCellsFrom a i n acc).run P w= .ok (acc++vs.toArray) w
 |0,i,vs,acc,hh,w,hw=>by simp[hcells]at hh;subst hh;simp[loadCellsFrom]
 |n+1,i,vs,acc,hh,w,hw=>by
  simp only[hcells]at hh
  split at hh
  ·rename_i v vs' h1 h2
   cases hh
   rw[loadCellsFrom,Sem.run_bind,gC (hw ▸ h1),Result.andThen_ok,il n (i+1) vs' (acc.push v) h2 w hw]
   simp
  ·cases hh
theorem og {t:TypeId}{a:Addr}{k:Value→M α}{h:Hp}{Q:α→Hp→Prop}(hh:TV P t a k h Q):
  ∃v,(∀w:World,w.heap=h→(loadVar t a).run P w= .ok v w)∧k v h Q:=by
 unfold TV at hh
 cases hd:P.underlying t with
 |none=>rw[hd]at hh;exact hh.elim
 |some d=>
  rw[hd]at hh
  cases nA:lB P t with
  |true=>
   simp only[nA]at hh
   have dH:en P t=true:=by
    unfold lB at nA
    unfold en
    rw[hd]at nA ⊢
    cases d<;>first|rfl|cases nA
   cases hn:cI P t with
   |none=>rw[hn]at hh;exact hh.elim
   |some n=>
    rw[hn]at hh
    obtain⟨cs,h1,h2⟩:=hh
    refine⟨_,fun w hw=>?_,h2⟩
    unfold loadVar loadCells
    simp only[Sem.run_bind,fc hd,Result.andThen_ok,dH,if_true,run_sizeOf hn]
    rw[il n 0 cs #[] h1 w hw]
    simp
  |false=>
  simp only[nA]at hh
  cases dH:en P t with
  |true=>
   simp only[dH,if_true]at hh
   cases hk:uL P 20 t with
   |none=>rw[hk]at hh;exact hh.elim
   |some ks=>cases hn:cI P t with
    |none=>rw[hk,hn]at hh;exact hh.elim
    |some n=>
     rw[hk,hn]at hh
     by_cases hlen:ks.length=n
     ·simp only[hlen,if_true]at hh
      obtain⟨cs,h1,h2⟩:=oP _ _ _ _ hh
      refine⟨.agg cs,fun w hw=>?_,h2⟩
      unfold loadVar loadCells
      simp only[Sem.run_bind,fc hd,Result.andThen_ok,dH,if_true,run_sizeOf hn]
      rw[←hlen,h1 w hw]
      rfl
     ·simp only[hlen,if_false]at hh;exact hh.elim
  |false=>
   simp only[dH,Bool.false_eq_true,if_false]at hh
   obtain⟨v,h1,h2⟩:=yA hh
   refine⟨v,fun w hw=>?_,h2⟩
   unfold loadVar
   simp only[Sem.run_bind,fc hd,Result.andThen_ok,dH,Bool.false_eq_true,if_false]
   exact gC (hw ▸ h1)
theorem rK (h:Hp)(a b:Addr)(v:Value):(hcell (gA h a v) b).isSome=(hcell h b).isSome:=by
 simp only[gA,hcell,Array.getElem?_modify]
 by_cases hb:a.block=b.block
 ·simp only[hb,if_true]
  cases hh:h[b.block]? with
  |none=>simp
  |some x=>
   cases x<;>simp
   cases hsb:b.spot with
   |some _=>simp
   |none=>
    cases hsa:a.spot with
    |some _=>simp
    |none=>simp;grind
 ·simp[hb]
theorem CG (h:Hp)(a b:Addr)(v:Value):gM (gA h a v) b=gM h b:=by
 simp only[gA,gM,Array.getElem?_modify]
 by_cases hb:a.block=b.block
 ·simp only[hb,if_true]
  cases hh:h[b.block]? with
  |none=>simp
  |some x=>cases x<;>simp
 ·simp[hb]
theorem oQ {a:Addr}{Q:α→Hp→Prop}:∀(vs:List Value) (i:Nat) (k:M α) (h:Hp),AI a vs i k h Q→
  ∃h',(∀w:World,w.heap=h→(storeCells a vs i).run P w= .ok () { w with heap:=h'})∧k h' Q
 |[],i,k,h,hh=>⟨h,fun w hw=>by rw[storeCells];subst hw;rfl,hh⟩
 |v::vs,i,k,h,hh=>by
  obtain⟨h1,h2,h3,h4⟩:=hh
  obtain⟨h',h5,h6⟩:=oQ vs (i+1) k _ h4
  refine⟨h',fun w hw=>?_,h6⟩
  rw[storeCells,Sem.run_bind,qy h1 (hw ▸ h2) (hw ▸ h3),Result.andThen_ok]
  rw[h5 { w with heap:=gA w.heap (a.add i) v} (by rw[hw])]
theorem mz {t:TypeId}{a:Addr}{v:Value}{n:Nat}{w w':World}(hn:cI P t=some n)(hv:v.cells.toList.length=n)(h:(storeCells a v.cells.toList).run P w= .ok () w'):(storeVar t a v).run P w= .ok () w':=by
 unfold storeVar
 have:v.cells.size=n:=by simpa using hv
 simp only[Sem.run_bind,run_sizeOf hn,Result.andThen_ok,this,ne_eq,not_true,if_false,h]
theorem jl {s:Sl}{n sz:Nat}{h:Hp}{vs:List Value}(hh:cn h s n sz=some vs)(w:World)(hw:w.heap=h):(Builtin.firstCells sz n (.slice s.p s.n s.c)).run P w= .ok vs.toArray w:=by
 unfold cn at hh
 cases hp:s.p with
 |none=>simp only[hp,Option.some.injEq]at hh;subst hh;rfl
 |some a=>
  simp only[hp]at hh
  unfold Builtin.firstCells loadCells
  rw[il _ _ _ _ hh w hw]
  simp
theorem gV {a:Addr}:∀(vs:List Value) (i:Nat) (h:Hp),(∀v∈vs,v.oneCell'=true)→hfree h a i vs.length→∀w:World,w.heap=h→(storeCells a vs i).run P w= .ok () { w with heap:=dQ h a i vs}
 |[],i,h,_,_,w,hw=>by rw[storeCells,dQ];subst hw;rfl
 |v::vs,i,h,hv,hf,w,hw=>by
  have h0:=hf i (Nat.le_refl _) (by simp)
  rw[storeCells,Sem.run_bind,qy (hv v (by simp)) (hw ▸ h0.1) (hw ▸ h0.2),Result.andThen_ok]
  rw[gV vs (i+1) (gA h (a.add i) v) (fun u hu=>hv u (by simp[hu])) (fun j h1 h2=>?_) { w with heap:=gA w.heap (a.add i) v} (by rw[hw])]
  ·rfl
  ·rw[rK,CG]
   exact hf j (by omega) (by simp at*;omega)
theorem run_sliceBound {v:Value}{k:IntKind}{i:Int}{y:Nat}{c:BoundsCode}(hv:v= .int k i)(h0:0≤i)(h1:i≤y)(w:World):(Instr.sliceBound v y c).run P w= .ok i.toNat w:=by
 subst hv
 unfold Instr.sliceBound
 simp[asIntOf,h0,h1]
theorem qz (z:Array Value)(n:Nat):Builtin.zeroCells z n=eK z n:=rfl
end mem
end Go.Sb
end
section
namespace Go.Sb
open Go
section un
variable {P:Program}{α:Type}{h:Hp}{Q:α→Hp→Prop}
theorem lL {t:TypeId}{v:Value}{k:Value→M α}(hh:un1 P t v k h Q):k v h Q:=by
 unfold un1 at hh
 cases hu:P.underlying t with
 |none=>rw[hu]at hh;exact hh
 |some d=>
  rw[hu]at hh
  cases d<;>first|exact hh|skip
  case bool=>cases v<;>first|exact hh|exact hh.elim
  case string=>cases v<;>first|exact hh|exact hh.elim
  case pointer=>cases v<;>first|exact hh|exact hh.elim
  case slice=>cases v<;>first|exact hh|exact hh.elim
  case map=>cases v<;>first|exact hh|exact hh.elim
  case int kd=>
   cases v<;>first|exact hh.elim|skip
   rename_i k' n
   simp only[aP]at hh
   by_cases hk:k'=kd
   ·subst hk;simpa using hh
   ·simp only[hk,if_false]at hh;exact hh.elim
  case func=>
   cases v<;>first|exact hh.elim|skip
   rename_i fn f c
   cases fn<;>first|exact hh.elim|exact hh
theorem oR:∀(ts:List TypeId) (cs:List Value) (acc:Array Value) (k:Array Value→M α),qu P ts cs acc k h Q→k (acc++cs.toArray) h Q
 |[],cs,acc,k,hh=>by
  cases cs with
  |nil=>simpa[qu,fO]using hh
  |cons c cs=>exact hh.elim
 |t::ts,cs,acc,k,hh=>by
  cases cs with
  |nil=>exact hh.elim
  |cons c cs=>
   have:=oR ts cs (acc.push c) k (lL (k:=fun v=>qu P ts cs (acc.push v) k) hh)
   simpa using this
theorem oh {t:TypeId}{v:Value}{k:Value→M α}(hh:unV P t v k h Q):k v h Q:=by
 unfold unV at hh
 cases nA:lB P t with
 |true=>
  rw[nA]at hh
  cases v<;>first|exact hh.elim|skip
  simpa[kg]using hh
 |false=>
 rw[nA]at hh
 simp only at hh
 cases dH:en P t with
 |true=>
  simp only[dH,if_true]at hh
  cases hk:uL P 20 t with
  |none=>rw[hk]at hh;exact hh.elim
  |some ks=>
   rw[hk]at hh
   cases v<;>first|exact hh.elim|skip
   have:=oR _ _ _ _ hh
   simpa using this
 |false=>simp only[dH,Bool.false_eq_true,if_false]at hh;exact lL hh
theorem uZ:∀(ts:List TypeId) (cs:List Value) (acc:Array Value) (k:Array Value→M α),TW P ts cs acc k h Q→k (acc++cs.toArray) h Q
 |[],cs,acc,k,hh=>by
  cases cs with
  |nil=>simpa[TW,fO]using hh
  |cons c cs=>exact hh.elim
 |t::ts,cs,acc,k,hh=>by
  cases cs with
  |nil=>exact hh.elim
  |cons c cs=>
   have:=uZ ts cs (acc.push c) k (oh (k:=fun v=>TW P ts cs (acc.push v) k) hh)
   simpa using this
theorem fe {t:TypeId}{v:Value}{k:Value→M α}(hh:I6 P t v k h Q):k v h Q:=by
 unfold I6 at hh
 cases hu:P.underlying t with
 |none=>rw[hu]at hh;exact oh hh
 |some d=>
  rw[hu]at hh
  cases d<;>first|exact oh hh|skip
  rename_i ts
  obtain⟨ts⟩:=ts
  cases ts with
  |nil=>exact hh
  |cons t ts=>
   cases v<;>first|exact hh.elim|skip
   have:=uZ _ _ _ _ hh
   simpa using this
end un
section op
variable {P:Program}{α:Type}{a:Act}{w:World}{o:Oper}{next:Act→World→Prop}{Qx:Exit→Act→World→Prop}
theorem bV {v:Value}{w':World}(h:(execOp a.eval o).run P w= .ok (.value v) w')(hn:next (a.put o.dst v) w'):o.wp P a w next Qx:=by
 unfold Oper.wp;rw[h];exact hn
theorem rL {w':World}(h:(execOp a.eval o).run P w= .ok .skip w')(hn:next (a.put o.dst undef) w'):o.wp P a w next Qx:=by
 unfold Oper.wp;rw[h];exact hn
theorem AM {g:FuncId}{args:Array Value}{X:Value→Hp→Prop}(h:(execOp a.eval o).run P w= .ok (.enter g args) w)(hc:Calls P g args w fun e w'=>∃v,e= .returned v∧Kept w w'∧X v w'.heap)(hn:∀v w',Kept w w'→X v w'.heap→next (a.put o.dst v) w'):o.wp P a w next Qx:=by
 unfold Oper.wp;rw[h]
 refine hc.mono ?_
 rintro e w' ⟨v,rfl,hk,hx⟩
 exact hn v w' hk hx
theorem kj {env:Env}{d i:Int}(h:bound env d none=some i):i=d:=by simp[bound]at h;exact h.symm
theorem iT {env:Env}{d i:Int}{x:Operand}(h:bound env d (some x)=some i):∃k,fF env x=some (.int k i):=by
 unfold bound at h
 simp only[]at h
 split at h
 ·rename_i k n hx;cases h;exact⟨_,hx⟩
 ·cases h
theorem u0 {env:Env}(ha:Ag env a){b:Bool}{n c:Nat}{lo hi mx:Option Operand}{l u m:Int}(hl:bound env 0 lo=some l)(hu:bound env n hi=some u)(hm:bound env c mx=some m)
  (h0:0≤l) (h1:l≤u) (h2:u≤m) (h3:m≤c) (hx:mx.isSome=true→hi.isSome=true):(Instr.sliceBounds b n c (lo.map a.eval) (hi.map a.eval) (mx.map a.eval)).run P w= .ok (l.toNat,u.toNat,m.toNat) w:=by
 unfold Instr.sliceBounds
 cases mx with
 |none=>
  have:=kj hm;subst this
  cases hi with
  |none=>
   have:=kj hu;subst this
   cases lo with
   |none=>have:=kj hl;subst this;simp
   |some x=>
    obtain⟨k,hk⟩:=iT hl
    simp[Option.map,run_sliceBound (ha.eval hk) h0 h1]
  |some y=>
   obtain⟨k',hk'⟩:=iT hu
   have e2:=fun cc=>run_sliceBound (P:=P) (y:=c) (c:=cc) (ha.eval hk') (by omega) h2 w
   cases lo with
   |none=>have:=kj hl;subst this;simp[Option.map,e2]
   |some x=>
    obtain⟨k,hk⟩:=iT hl
    have e1:=fun cc=>run_sliceBound (P:=P) (y:=u.toNat) (c:=cc) (ha.eval hk) h0 (by omega) w
    simp[Option.map,e1,e2]
 |some z=>
  obtain⟨k'',e5P⟩:=iT hm
  have e3:=fun cc=>run_sliceBound (P:=P) (y:=c) (c:=cc) (ha.eval e5P) (by omega) h3 w
  cases hi with
  |none=>simp at hx
  |some y=>
   obtain⟨k',hk'⟩:=iT hu
   have e2:=fun cc=>run_sliceBound (P:=P) (y:=m.toNat) (c:=cc) (ha.eval hk') (by omega) (by omega) w
   cases lo with
   |none=>have:=kj hl;subst this;simp[Option.map,e2,e3]
   |some x=>
    obtain⟨k,hk⟩:=iT hl
    have e1:=fun cc=>run_sliceBound (P:=P) (y:=u.toNat) (c:=cc) (ha.eval hk) h0 (by omega) w
    simp[Option.map,e1,e2,e3]
end op
end Go.Sb
end
section
namespace Go.Sb
open Go
section op
variable {P:Program}{α:Type}{a:Act}{w:World}{next:Act→World→Prop}{Qx:Exit→Act→World→Prop}
theorem FG {st xt e:TypeId}{z b:Nat}{zv:Value}{s x:Sl}{ty:TypeId}{w:World}{xs:List Value}
  (hst:P.underlying st=some (.slice e)) {e':TypeId} (K1:P.underlying xt=some (.slice e')) (hz:cI P e=some z) (hb:nu P e=some b) (hzv:gv P e=some zv)
  (hxs:cn w.heap x x.n z=some xs) (hone:∀v∈xs,v.oneCell'=true):
  (s.n+x.n≤s.c→∀h',(match s.p with
    |some a=>hfree w.heap (a.add (s.n*z)) 0 xs.length∧h'=dQ w.heap (a.add (s.n*z)) 0 xs
    |none=>h'=w.heap)→(Builtin.append_ #[st,xt] ty #[.slice s.p s.n s.c,.slice x.p x.n x.c]).run P w= .ok (.slice s.p (s.n+x.n) s.c) { w with heap:=h'})∧
  (¬s.n+x.n≤s.c→0<b→Builtin.nextslicecap (s.n+x.n) s.c*b≤2 ^ 48→∀old,cn w.heap s s.n z=some old→∃c,s.n+x.n≤c∧∃w',Kept w w'∧
   w'.heap=w.heap.push (.cells ((old++xs).toArray++eK zv.cells (c-(s.n+x.n))) e)∧(Builtin.append_ #[st,xt] ty #[.slice s.p s.n s.c,.slice x.p x.n x.c]).run P w= .ok (.slice (some ⟨w.heap.size,0,none⟩) (s.n+x.n) c) w'):=by
 obtain⟨ib,hib,rfl⟩:=sJ hb
 have hfx:∀w':World,w'.heap=w.heap→(Builtin.firstCells z x.n (.slice x.p x.n x.c)).run P w'= .ok xs.toArray w':=fun w' hw'=>jl hxs w' hw'
 constructor
 ·intro hle h' hh'
  unfold Builtin.append_
  simp only[List.getElem?_toArray,List.getElem?_cons_zero,List.getElem?_cons_succ,Sem.run_bind,run_underlying hst,Result.andThen_ok,run_sizeOf hz,run_underlying K1,Sem.run_pure,Bool.false_eq_true,if_false,Builtin.lenOf,hle,if_true,Bool.not_false,hfx w rfl]
  cases hp:s.p with
  |none=>rw[hp]at hh';subst hh';rfl
  |some p=>
   rw[hp]at hh'
   obtain⟨h1,rfl⟩:=hh'
   simp only[Sem.run_bind]
   rw[gV xs 0 w.heap hone h1 w rfl]
   rfl
 ·intro hle hbp hcap old hold
  have hfo:∀w':World,w'.heap=w.heap→(Builtin.firstCells z s.n (.slice s.p s.n s.c)).run P w'= .ok old.toArray w':=fun w' hw'=>jl hold w' hw'
  let q:Question:=.appendCap (s.n+x.n) s.c e
  refine⟨q.cut (w.tape w.drawn q),by simp[q,Question.cut],{ w with drawn:=w.drawn+1,heap:=w.heap.push (.cells ((old++xs).toArray++eK zv.cells (q.cut (w.tape w.drawn q)-(s.n+x.n))) e)},⟨rfl,rfl,rfl⟩,rfl,?_⟩
  unfold Builtin.append_
  have hb0:ib.bytes≠0:=by omega
  have d3c:¬(Builtin.nextslicecap (s.n+x.n) s.c*ib.bytes>2 ^ 48):=by omega
  simp only[List.getElem?_toArray,List.getElem?_cons_zero,List.getElem?_cons_succ,Sem.run_bind,run_underlying hst,Result.andThen_ok,run_sizeOf hz,run_underlying K1,Sem.run_pure,Bool.false_eq_true,if_false,Builtin.lenOf,hle,Bool.not_false,if_true,run_typeInfo hib,hb0,or_self,and_false,d3c,
   run_choose,Question.forced,run_askRoom]
  rw[hfo { w with drawn:=w.drawn+1} rfl,Result.andThen_ok,hfx { w with drawn:=w.drawn+1} rfl,Result.andThen_ok,cE hzv]
  simp only[Result.andThen_ok,newRow,Sem.run_bind,run_newObj,Sem.run_pure,qz]
  simp[q]
theorem mX (w:World)(e:TypeId)(s:ByteArray):∃c,s.size≤c∧Lib.bytesWorld w e s={ w with drawn:=w.drawn+1,heap:=w.heap.push (.cells ((s.data.map fun b=>Value.int .u8 b.toNat)++Array.replicate (c-s.size) (.int .u8 0)) e (c,c+1))}∧grownCap w s.size 0 e=c:=by
 refine⟨grownCap w s.size 0 e,?_,?_,rfl⟩
 ·simp[grownCap,Question.cut]
 ·have hc:(Lib.bytesCells w e s).size=grownCap w s.size 0 e:=by
   have:s.size≤grownCap w s.size 0 e:=by simp[grownCap,Question.cut]
   simp[Lib.bytesCells];omega
  unfold Lib.bytesWorld World.freeze
  rw[hc]
  simp only[if_neg (by decide:¬(1:Nat)=0)]
  have h2:(w.drew.alloc (.cells (Lib.bytesCells w e s) e)).heap=w.heap.push (.cells (Lib.bytesCells w e s) e):=rfl
  simp only[h2]
  show World.mk _ _ _ _ _=World.mk _ _ _ _ _
  congr 1
  apply Array.ext (by simp)
  intro i h1 h2
  rw[Array.getElem_modify]
  by_cases hi:w.heap.size=i
  ·subst hi;simp[Lib.bytesCells]
  ·simp only[hi,if_false]
   have:i<w.heap.size:=by simp at h1;omega
   simp[Array.getElem_push,this]
theorem CH {P:Program}{w:World}{t e:TypeId}{b o n c:Nat}{cs:Array Value}{T:TypeId}(ht:P.underlying t=some (.slice e))(he:P.underlying e=some (.int .u8))(hb:w.heap[b]? =some (.cells cs T (0,0))):
  (convert t t (.slice (some ⟨b,o,none⟩) n c)).run P w= .ok (.slice (some ⟨b,o,none⟩) n c) { w with heap:=w.heap.setIfInBounds b (.cells cs T (cs.size,cs.size+1))}:=by
 have hsh:w.shape? b=some (T,cs.size):=by
  unfold World.shape?
  rw[hb]
 have hfr:w.freeze ⟨b,cs.size,none⟩ 1={ w with heap:=w.heap.setIfInBounds b (.cells cs T (cs.size,cs.size+1))}:=by
  unfold World.freeze
  rw[if_neg (by decide)]
  have hlt:b<w.heap.size:=by
   rcases Nat.lt_or_ge b w.heap.size with h|h
   ·exact h
   ·rw[Array.getElem?_eq_none h]at hb;cases hb
  rw[Array.getElem?_eq_getElem hlt]at hb
  congr 1
  apply Array.ext (by simp)
  intro i h1 h2
  rw[Array.getElem_modify,Array.getElem_setIfInBounds]
  rotate_left
  ·simpa using h1
  by_cases hi:b=i
  ·subst hi
   simp only[if_true]
   rw[Option.some.inj hb]
   simp
  ·simp[hi]
 simp[convert,run_underlying ht,run_underlying he,markStringish,hsh]
 exact hfr
theorem a7P {x:Sl}{w:World}{bs:List UInt8}(h:cn w.heap x x.n 1=some (bs.map fun b=>.int .u8 b.toNat)):(Conv.bytesToString (.slice x.p x.n x.c)).run P w= .ok (.string ⟨bs.toArray⟩) w:=by
 obtain⟨p,n,c⟩:=x
 cases p with
 |none=>
  simp only[cn,Option.some.injEq]at h
  have:bs=[]:=by cases bs with
   |nil=>rfl
   |cons b bs=>simp at h
  subst this;rfl
 |some a=>
  have h1:=jl (P:=P) h w rfl
  simp only[Builtin.firstCells,Nat.mul_one]at h1
  have h2:(bs.map fun b=>Value.int .u8 b.toNat)=((bs.map fun b=>(b.toNat:Int)).map (Value.int .u8)):=by rw[List.map_map];rfl
  rw[h2]at h1
  rw[run_bytesToString w a n c _ h1]
  congr 2
  have:∀(bs:List UInt8) (s:ByteArray),(bs.map fun b=>(b.toNat:Int)).foldl (fun r n=>r.push (UInt8.ofNat n.toNat)) s=⟨s.data++bs.toArray⟩:=by
   intro bs
   induction bs with
   |nil=>intro s;simp
   |cons b bs ih=>
    intro s
    rw[List.map_cons,List.foldl_cons,ih]
    simp[ByteArray.push]
  rw[this]
  simp
theorem run_makeSlice {t e:TypeId}{n b:Nat}{z:Value}{k k':IntKind}{l c:Int}(hu:P.underlying t=some (.slice e))(hsz:cI P e=some n)(hz:gv P e=some z)(hb:nu P e=some b)
  (hlen:z.cells.size=n) (h0:0≤l) (h1:l≤c) (h2:b*c≤2 ^ 48) (h3:c≤IntKind.i64.max) (w:World):
  (Instr.makeSlice t (.int k l) (.int k' c)).run P w= .ok (.slice (some ⟨w.heap.size,0,none⟩) l.toNat c.toNat) { w with heap:=w.heap.push (.cells (eK z.cells c.toNat) e)}:=by
 obtain⟨ib,hib,rfl⟩:=sJ hb
 have e5Q:IntKind.i64.max=9223372036854775807:=by decide
 rw[e5Q]at h3
 have wr:∀i:Int,0≤i→i≤9223372036854775807→IntKind.i64.wrap i=i:=by
  intro i hi0 hi1
  exact IntWalk.i64_in _ (by omega)
 unfold Instr.makeSlice
 simp only[Sem.run_bind,run_underlying hu,Result.andThen_ok,asInt,asIntOf,Sem.run_pure,run_typeInfo hib,wr l h0 (by omega),wr c (by omega) h3]
 have t1:((decide (c<0)||decide (↑ib.bytes*c>2 ^ 48))||decide (l<0)||decide (l>c))=false:=by simp;omega
 rw[t1]
 simp only[Bool.false_eq_true,if_false,Sem.run_bind,run_askRoom,Result.andThen_ok,run_sizeOf hsz]
 by_cases hn:c.toNat*n=0
 ·simp only[hn,if_true,pure_bind]
  have:(Array.range 0).map (fun i=>(#[]:Array Value)[i%(#[]:Array Value).size]!)=eK z.cells c.toNat:=by
   unfold eK;rw[hlen,hn];simp
  simp only[Sem.run_bind,newRow,run_newObj,Result.andThen_ok,Sem.run_pure,this]
 ·simp only[hn,if_false,Sem.run_bind,cE hz,Result.andThen_ok,Sem.run_pure,newRow,run_newObj]
  have:(Array.range (c.toNat*n)).map (fun i=>z.cells[i%z.cells.size]!)=eK z.cells c.toNat:=by
   unfold eK;rw[hlen]
  rw[this]
end op
end Go.Sb
end
section
namespace Go.Sb
open Go
section maps
variable {P:Program}{w:World}{kd:IntKind}
theorem qA (key:Int):∀(m:List (Int×Value×Nat)) (i:Nat),m.find? (·.1 == key)=none→Instr.findNow (.int kd) (.int kd key) (m.map (mu kd)) i=some none
 |[],i,_=>rfl
 |e::m,i,h=>by
  rw[List.find?_cons]at h
  cases he:(e.1 == key) with
  |true=>rw[he]at h;simp at h
  |false=>
   rw[he]at h
   have:(key == e.1)=false:=by simp at he ⊢;exact fun h=>he h.symm
   simp only[List.map_cons,Instr.findNow,Instr.sameNow,mu,if_true,this]
   exact qA key m (i+1) h
theorem qB (key:Int):∀(m:List (Int×Value×Nat)) (i:Nat) (e:Int×Value×Nat),m.find? (·.1 == key)=some e→∃j,Instr.findNow (.int kd) (.int kd key) (m.map (mu kd)) i=some (some (i+j,e.2.1))∧m[j]? =some e∧e.1=key
 |[],i,e,h=>by simp at h
 |e'::m,i,e,h=>by
  rw[List.find?_cons]at h
  cases he:(e'.1 == key) with
  |true=>
   rw[he]at h
   simp at h
   subst h
   have:e'.1=key:=by simpa using he
   refine⟨0,?_,rfl,this⟩
   simp[Instr.findNow,Instr.sameNow,mu,this]
  |false=>
   rw[he]at h
   have:(key == e'.1)=false:=by simp at he ⊢;exact fun h=>he h.symm
   obtain⟨j,h1,h2,h3⟩:=qB key m (i+1) e h
   refine⟨j+1,?_,by simpa using h2,h3⟩
   simp only[List.map_cons,Instr.findNow,Instr.sameNow,mu,if_true,this]
   rw[h1]
   simp only[Option.some.injEq,Prod.mk.injEq,and_true]
   omega
theorem run_checkKey {kt:TypeId}{key:Int}{b:Bool}(hk:P.underlying kt=some (.int kd)):(Instr.checkKey b 10000 kt (.int kd key)).run P w= .ok () w:=by
 rw[Instr.checkKey]
 simp only[Sem.run_bind,run_underlying hk,Result.andThen_ok,Sem.run_pure]
theorem dt {r:Nat}{es:Array MapEntry}{c:Nat}(hb:w.heap[r]? =some (.map es c)):(getObj r).run P w= .ok (.map es c) w:=by
 simp only[getObj,Sem.run,hb]
theorem eN {r:Nat}{o:Obj}{es:Array MapEntry}{c:Nat}(hb:w.heap[r]? =some (.map es c)):(setObj r o).run P w= .ok () { w with heap:=w.heap.setIfInBounds r o}:=by
 simp only[setObj,Sem.run,hb]
theorem CI (key:Int)(v:Value)(c:Nat):∀(m:List (Int×Value×Nat)) (j:Nat) (e:Int×Value×Nat) (k:Int),(m.map (·.1)).Nodup→m[j]? =some e→e.1=key→
  ((m.set j (key,v,c)).find? (·.1 == k)).map (·.2.1)=if k=key then some v else (m.find? (·.1 == k)).map (·.2.1)
 |[],j,e,k,hn,h,he=>by simp at h
 |e'::m,0,e,k,hn,h,he=>by
  simp at h;subst h
  rw[sz0,List.find?_cons,List.find?_cons]
  by_cases hk:k=key
  ·subst hk;simp
  ·have h1:(key == k)=false:=by simpa using fun h=>hk h.symm
   have h2:(e'.1 == k)=false:=by rw[he];exact h1
   simp[h1,h2,hk]
 |e'::m,j+1,e,k,hn,h,he=>by
  simp only[List.map_cons,List.nodup_cons]at hn
  simp at h
  rw[sz1,List.find?_cons,List.find?_cons]
  have hne:¬e'.1=key:=fun hc=>hn.1 (by rw[hc,←he];exact List.mem_map_of_mem (List.mem_of_getElem? h))
  cases hb:(e'.1 == k) with
  |true=>
   have:e'.1=k:=by simpa using hb
   simp[show ¬k=key from fun h=>hne (this.trans h)]
  |false=>exact CI key v c m j e k hn.2 h he
theorem u1 (key:Int):∀(m:List (Int×Value×Nat)) (j:Nat) (e:Int×Value×Nat) (k:Int),(m.map (·.1)).Nodup→m[j]? =some e→e.1=key→
  ((m.eraseIdx j).find? (·.1 == k)).map (·.2.1)=if k=key then none else (m.find? (·.1 == k)).map (·.2.1)
 |[],j,e,k,hn,h,he=>by simp at h
 |e'::m,0,e,k,hn,h,he=>by
  simp only[List.map_cons,List.nodup_cons]at hn
  simp at h;subst h
  rw[List.eraseIdx_cons_zero,List.find?_cons]
  by_cases hk:k=key
  ·subst hk
   simp only[if_true,Option.map_eq_none_iff,List.find?_eq_none]
   intro x hx hc
   have:x.1=k:=by simpa using hc
   exact hn.1 (by rw[he,←this];exact List.mem_map_of_mem hx)
  ·have h2:(e'.1 == k)=false:=by rw[he];simpa using fun h=>hk h.symm
   simp[h2,hk]
 |e'::m,j+1,e,k,hn,h,he=>by
  simp only[List.map_cons,List.nodup_cons]at hn
  simp at h
  rw[List.eraseIdx_cons_succ,List.find?_cons,List.find?_cons]
  have hne:¬e'.1=key:=fun hc=>hn.1 (by rw[hc,←he];exact List.mem_map_of_mem (List.mem_of_getElem? h))
  cases hb:(e'.1 == k) with
  |true=>
   have:e'.1=k:=by simpa using hb
   simp[show ¬k=key from fun h=>hne (this.trans h)]
  |false=>exact u1 key m j e k hn.2 h he
theorem T5 {k:Int}{m:List (Int×Value×Nat)}{f:Int→Option Value}(hf:∀k,f k=(m.find? (·.1 == k)).map (·.2.1)):
  (f k=none∧m.find? (·.1 == k)=none)∨∃e,f k=some e.2.1∧m.find? (·.1 == k)=some e:=by
 rw[hf]
 cases m.find? (·.1 == k) with
 |none=>exact .inl ⟨rfl,rfl⟩
 |some e=>exact .inr ⟨e,rfl,rfl⟩
theorem run_findKey {kt:TypeId}{key:Int}{m:List (Int×Value×Nat)}{f:Int→Option Value}(hk:P.underlying kt=some (.int kd))(hf:∀k,f k=(m.find? (·.1 == k)).map (·.2.1)):
  (f key=none∧m.find? (·.1 == key)=none∧(Instr.findKey kt (.int kd key) (m.map (mu kd))).run P w= .ok none w)∨
   ∃j e,f key=some e.2.1∧m[j]? =some e∧e.1=key∧(Instr.findKey kt (.int kd key) (m.map (mu kd))).run P w= .ok (some (j,e.2.1)) w:=by
 rcases T5 (k:=key) hf with ⟨h1,h2⟩|⟨e,h1,h2⟩
 ·refine .inl ⟨h1,h2,?_⟩
  unfold Instr.findKey
  simp only[Sem.run_bind,run_underlying hk,Result.andThen_ok,qA key m 0 h2,Sem.run_pure]
 ·obtain⟨j,h3,h4,h5⟩:=qB (kd:=kd) key m 0 e h2
  refine .inr ⟨j,e,h1,h4,h5,?_⟩
  unfold Instr.findKey
  simp only[Sem.run_bind,run_underlying hk,Result.andThen_ok,h3,Sem.run_pure,Nat.zero_add]
theorem FH {t kt e:TypeId}{r:Nat}{key:Int}{f:Int→Option Value}{n:Nat}{z:Value}(hu:P.underlying t=some (.map kt e))(hk:P.underlying kt=some (.int kd))(hz:gv P e=some z)
  (hm:ke w.heap r kd f n) (ok:Bool):(Instr.lookup t (.map (some r)) (.int kd key) ok).run P w= .ok (match ok with
   |true=>.tuple #[(f key).getD z,.bool (f key).isSome]
   |false=>(f key).getD z) w:=by
 obtain⟨m,clock,hb,hnd,hn,hf⟩:=hm
 unfold Instr.lookup
 simp only[Sem.run_bind,run_underlying hu,Result.andThen_ok,dt hb,Sem.run_pure,run_checkKey hk]
 rcases run_findKey (w:=w) (key:=key) hk hf with ⟨h1,_,h2⟩|⟨j,e',h1,h2,h3,h4⟩
 ·rw[h2]
  simp only[Result.andThen_ok,Sem.run_bind,cE hz,Sem.run_pure,h1]
  cases ok<;>rfl
 ·rw[h4]
  simp only[Result.andThen_ok,Sem.run_pure,h1]
  cases ok<;>rfl
theorem xR {t kt e:TypeId}{r:Nat}{key:Int}{f:Int→Option Value}{n:Nat}{v:Value}(hu:P.underlying t=some (.map kt e))(hk:P.underlying kt=some (.int kd))
  (hm:ke w.heap r kd f n):∃h',(Instr.mapUpdate t (.map (some r)) (.int kd key) v).run P w= .ok () { w with heap:=h'}∧h'.size=w.heap.size∧(∀b,b≠r→h'[b]? =w.heap[b]?)∧
   ke h' r kd (fun j=>if j=key then some v else f j) (if (f key).isSome then n else n+1):=by
 obtain⟨m,clock,hb,hnd,hn,hf⟩:=hm
 have hlt:r<w.heap.size:=(Array.getElem?_eq_some_iff.1 hb).1
 rcases run_findKey (w:=w) (key:=key) hk hf with ⟨h1,h0,h2⟩|⟨j,e',h1,h2,h3,h4⟩
 ·refine⟨w.heap.setIfInBounds r (.map ((m++[(key,v,clock)]).map (mu kd)).toArray (clock+1)),?_,by simp,fun b hne=>by rw[Array.getElem?_setIfInBounds_ne (Ne.symm hne)],m++[(key,v,clock)],clock+1,by rw[Array.getElem?_setIfInBounds_self_of_lt hlt],?_,?_,?_⟩
  ·unfold Instr.mapUpdate
   simp only[Sem.run_bind,run_underlying hu,Result.andThen_ok,dt hb,Sem.run_pure,run_checkKey hk]
   rw[h2]
   simp only[Result.andThen_ok]
   rw[eN hb]
   simp[mu]
  ·rw[List.map_append,List.nodup_append]
   refine⟨hnd,by simp,fun a ha b hb' hab=>?_⟩
   simp at hb'
   subst hb' hab
   obtain⟨x,hx,hx'⟩:=List.mem_map.1 ha
   have:=List.find?_eq_none.1 h0 x hx
   simp[hx']at this
  ·simp[h1,hn]
  ·intro k
   rw[List.find?_append]
   by_cases hk':k=key
   ·subst hk';simp[h0]
   ·have:(key == k)=false:=by simpa using fun h=>hk' h.symm
    simp[hk',hf,this]
 ·refine⟨w.heap.setIfInBounds r (.map ((m.set j (key,v,e'.2.2)).map (mu kd)).toArray clock),?_,by simp,fun b hne=>by rw[Array.getElem?_setIfInBounds_ne (Ne.symm hne)],m.set j (key,v,e'.2.2),clock,by rw[Array.getElem?_setIfInBounds_self_of_lt hlt],?_,?_,?_⟩
  ·unfold Instr.mapUpdate
   simp only[Sem.run_bind,run_underlying hu,Result.andThen_ok,dt hb,Sem.run_pure,run_checkKey hk]
   rw[h4]
   simp only[Result.andThen_ok,Sem.run_bind]
   have hj:((m.map (mu kd)).toArray)[j]? =some (mu kd e'):=by simp[h2]
   rw[hj]
   have d3d:(Instr.keyThatStays (((some (mu kd e')).map (·.key)).getD (.int kd key)) (.int kd key)).run P w= .ok (.int kd key) w:=by
    simp[Instr.keyThatStays,mu,h3,Instr.sameBits]
   rw[d3d]
   simp only[Result.andThen_ok]
   rw[eN hb]
   congr 3
   have hjl:j<m.length:=(List.getElem?_eq_some_iff.1 h2).1
   have hje:=(List.getElem?_eq_some_iff.1 h2).2
   apply congrArg (fun x=>Obj.map x clock)
   apply Array.ext
   ·simp
   ·intro i hi1 hi2
    simp only[Array.getElem_modify,List.getElem_toArray,List.getElem_map,List.getElem_set]
    split
    ·rename_i hij
     have e5R:m[i]'(by omega)=e':=by simp only[←hij];exact hje
     simp[mu,e5R,hij]
    ·rfl
  ·have:(m.set j (key,v,e'.2.2)).map (·.1)=m.map (·.1):=by
    rw[List.map_set]
    have:(m.map (·.1))[j]? =some key:=by simp[h2,h3]
    apply List.ext_getElem?
    intro i
    rw[List.getElem?_set]
    split
    ·subst_vars;rw[this];simp[(List.getElem?_eq_some_iff.1 h2).1]
    ·rfl
   rw[this];exact hnd
  ·simp[h1,hn]
  ·intro k
   show (if k=key then some v else f k)=_
   rw[CI key v e'.2.2 m j e' k hnd h2 h3,hf]
theorem fh {α β:Type}(g:α→β):∀(l:List α) (j:Nat),(l.map g).eraseIdx j=(l.eraseIdx j).map g
 |[],_=>rfl
 |_::_,0=>rfl
 |x::l,j+1=>by simp[fh g l j]
theorem xS {t kt e:TypeId}{ty:TypeId}{ts:Array TypeId}{r:Nat}{key:Int}{f:Int→Option Value}{n:Nat}(ht:ts[0]? =some t)(hu:P.underlying t=some (.map kt e))(hk:P.underlying kt=some (.int kd))
  (hm:ke w.heap r kd f n):∃h',(Builtin.delete_ ts ty #[.map (some r),.int kd key]).run P w= .ok (.tuple #[]) { w with heap:=h'}∧h'.size=w.heap.size∧(∀b,b≠r→h'[b]? =w.heap[b]?)∧
   ke h' r kd (fun j=>if j=key then none else f j) (if (f key).isSome then n-1 else n):=by
 obtain⟨m,clock,hb,hnd,hn,hf⟩:=hm
 have hlt:r<w.heap.size:=(Array.getElem?_eq_some_iff.1 hb).1
 rcases run_findKey (w:=w) (key:=key) hk hf with ⟨h1,h0,h2⟩|⟨j,e',h1,h2,h3,h4⟩
 ·refine⟨w.heap.setIfInBounds r (.map (m.map (mu kd)).toArray clock),?_,by simp,fun b hne=>by rw[Array.getElem?_setIfInBounds_ne (Ne.symm hne)],m,clock,by rw[Array.getElem?_setIfInBounds_self_of_lt hlt],hnd,?_,?_⟩
  ·unfold Builtin.delete_
   simp only[ht,List.getElem?_toArray,List.getElem?_cons_zero,List.getElem?_cons_succ,Sem.run_bind,run_underlying hu,Result.andThen_ok,dt hb,run_checkKey hk]
   rw[h2]
   dsimp only[Result.andThen_ok]
   rw[Sem.run_bind,eN hb]
   simp only[Result.andThen_ok,Sem.run_pure]
  ·simp[h1,hn]
  ·intro k
   by_cases hk':k=key
   ·subst hk';simp[h0]
   ·simp[hk',hf]
 ·refine⟨w.heap.setIfInBounds r (.map ((m.eraseIdx j).map (mu kd)).toArray clock),?_,by simp,fun b hne=>by rw[Array.getElem?_setIfInBounds_ne (Ne.symm hne)],m.eraseIdx j,clock,by rw[Array.getElem?_setIfInBounds_self_of_lt hlt],?_,?_,?_⟩
  ·unfold Builtin.delete_
   simp only[ht,List.getElem?_toArray,List.getElem?_cons_zero,List.getElem?_cons_succ,Sem.run_bind,run_underlying hu,Result.andThen_ok,dt hb,run_checkKey hk]
   rw[h4]
   dsimp only[Result.andThen_ok]
   rw[Sem.run_bind,eN hb]
   simp only[Result.andThen_ok,Sem.run_pure]
   congr 3
   have hjl:j<(m.map (mu kd)).toArray.size:=by simpa using (List.getElem?_eq_some_iff.1 h2).1
   simp only[Array.eraseIdxIfInBounds,hjl,dif_pos]
   apply congrArg (fun x=>Obj.map x clock)
   apply Array.ext'
   simp[fh]
  ·exact hnd.sublist ((List.eraseIdx_sublist _ _).map _)
  ·have hjl:j<m.length:=(List.getElem?_eq_some_iff.1 h2).1
   rw[List.length_eraseIdx_of_lt hjl,hn,h1];rfl
  ·intro k
   show (if k=key then none else f k)=_
   rw[u1 key m j e' k hnd h2 h3,hf]
theorem ke.new (h:Hp)(kd:IntKind):ke (h.push (.map #[] 0)) h.size kd (fun _=>none) 0:=⟨[],0,by simp,by simp,rfl,by simp⟩
end maps
end Go.Sb
end
section
namespace Go.Sb
open Go
section op
variable {P:Program}{α:Type}{a:Act}{w:World}{next:Act→World→Prop}{Qx:Exit→Act→World→Prop}
set_option maxHeartbeats 1000000 in
theorem iU {env:Env}{o:Oper}{kk:Value→M α}{h:Hp}{Q:α→Hp→Prop}(aH:ee P env o kk h Q)(ha:Ag env a)(hq:er o.op=true):
  ∃v,(∀w:World,(ph o.op=true→w.heap=h)→(execOp a.eval o).run P w= .ok (.value v) w)∧kk v h Q:=by
 generalize hm:ee P env o kk=m at aH
 unfold ee at hm
 cases hp:cJ P env o with
 |some v=>
  rw[hp]at hm
  subst hm
  exact⟨v,fun w _=>dw hp ha w,aH⟩
 |none=>
  rw[hp]at hm
  clear hp
  obtain⟨dst,op,type,pos,after,guard⟩:=o
  cases op<;>simp only[er,Bool.false_eq_true]at hq<;>simp only[]at hm
  case load t x=>
   split at hm<;>first|(subst hm;exact aH.elim)|skip
   rename_i p hx
   subst hm
   cases p with
   |none=>exact aH.elim
   |some ad=>
    obtain⟨v,h1,h2⟩:=og aH
    refine⟨v,fun w hw=>?_,h2⟩
    simp only[execOp,ha.eval hx]
    exact Sem.aO _ w (by simp only[Instr.loadAt,Instr.sureAddr,Sem.run_bind,Sem.run_pure,Result.andThen_ok];exact h1 w (hw rfl))
  case lookup t x i ok=>
   split at hm<;>first|(subst hm;exact aH.elim)|skip
   rename_i kt e p kd key hu hx hi
   split at hm<;>first|(subst hm;exact aH.elim)|skip
   rename_i TX z hk hz dH
   by_cases K2:kd=TX
   ·subst K2
    simp only[if_true]at hm
    subst hm
    cases p with
    |none=>exact aH.elim
    |some r=>
     obtain⟨f,n,T6,aH⟩:=aH
     have T7:=lL aH
     refine⟨_,fun w hw=>?_,T7⟩
     simp only[execOp,ha.eval hx,ha.eval hi]
     refine Sem.aO _ w ?_
     have hw':=hw rfl
     subst hw'
     exact FH hu hk hz T6 ok
   ·simp only[K2,if_false]at hm;subst hm;exact aH.elim
   ·rename_i kt e p cs hu hx hi
    split at hm<;>first|(subst hm;exact aH.elim)|skip
    subst hm
    cases p with
    |none=>exact aH.elim
    |some r=>
     obtain⟨v,hrun,aH⟩:=aH
     have T7:=lL aH
     refine⟨_,fun w hw=>?_,T7⟩
     simp only[execOp,ha.eval hx,ha.eval hi]
     exact Sem.aO _ w (hrun w (hw rfl))
  case nilCheck x=>
   split at hm<;>first|(subst hm;exact aH.elim)|skip
   ·rename_i p hx
    subst hm
    cases p with
    |none=>exact aH.elim
    |some ad=>
     refine⟨.pointer (some ad),fun w hw=>?_,aH⟩
     simp only[execOp,ha.eval hx];rfl
   ·rename_i g f c hx
    subst hm
    refine⟨.func (.func g) f c,fun w hw=>?_,aH⟩
    simp only[execOp,ha.eval hx];rfl
  case binOp op t x y yt=>
   split at hm<;>first|(subst hm;exact aH.elim)|skip
   ·rename_i k m k' n hx hy
    have hg:∀w,(eqGuard op t x y (.int k m) (.int k' n)).run P w= .ok () w:=fun w=>ik (by simp) (by simp) w
    have fin:∀v,(∀w,(binOp op t (.int k m) (.int k' n)).run P w= .ok v w)→kk v h Q→∃v,(∀w:World,(ph (.binOp op t x y yt)=true→w.heap=h)→(execOp a.eval ⟨dst,.binOp op t x y yt,type,pos,after,guard⟩).run P w= .ok (.value v) w)∧kk v h Q:=fun v hr hk=>
     ⟨v,fun w _=>by
      simp only[execOp,ha.eval hx,ha.eval hy]
      exact Sem.aO _ w (by rw[Sem.run_bind,hg,Result.andThen_ok,hr]),hk⟩
    cases op<;>simp only[]at hm
    case shl=>
     subst hm
     obtain⟨h0,h1⟩:=aH
     refine fin _ (fun w=>?_) h1
     have:¬n<0:=by omega
     simp[binOp,Op.shift,this]
    case shr=>
     subst hm
     obtain⟨h0,h1⟩:=aH
     refine fin _ (fun w=>?_) h1
     have:¬n<0:=by omega
     simp[binOp,Op.shift,this]
    all_goals
     by_cases hk:k=k'
     ·rw[if_pos hk]at hm
      subst hk
      simp only[b5u]at hm
      subst hm
      first
       |exact aH.elim
       |(obtain⟨h0,h1⟩:=aH
         refine fin _ (fun w=>?_) h1
         simp[binOp,Op.intDiv,h0])
     ·rw[if_neg hk]at hm;subst hm;exact aH.elim
   ·rename_i s1 s2 hx hy
    have hg:∀w,(eqGuard op t x y (.string s1) (.string s2)).run P w= .ok () w:=fun w=>ik (by simp) (by simp) w
    cases op<;>simp only[]at hm<;>subst hm<;>first|exact aH.elim|skip
    obtain⟨h0,h1⟩:=aH
    refine⟨.string (s1++s2),fun w hw=>?_,h1⟩
    simp only[execOp,ha.eval hx,ha.eval hy]
    refine Sem.aO _ w ?_
    rw[Sem.run_bind,hg,Result.andThen_ok]
    have:¬(((s1.size+s2.size:Nat):Int)>IntKind.i64.max):=by omega
    simp only[binOp,Op.stringOp,this,if_false]
    rfl
  case slice t x lo hi mx=>
   split at hm<;>first|(subst hm;exact aH.elim)|skip
   ·rename_i str hu hx
    split at hm<;>first|(subst hm;exact aH.elim)|skip
    rename_i l u hl Tw
    subst hm
    obtain⟨h0,h1,h2,h3⟩:=aH
    refine⟨.string (str.extract l.toNat u.toNat),fun w hw=>?_,h3⟩
    simp only[execOp,ha.eval hx]
    refine Sem.aO _ w ?_
    have hb:=u0 (P:=P) (w:=w) ha (b:=false) (n:=str.size) (c:=str.size) (mx:=none) hl Tw rfl h0 h1 h2 (by omega) (by simp)
    simp only[Option.map_none]at hb
    simp only[Instr.sliceAt,Sem.run_bind,run_underlying hu,Result.andThen_ok,Instr.slice,Option.map_none,Option.isSome_none,Bool.false_eq_true,if_false,hb,Sem.run_pure]
   ·rename_i e p n c hu hx
    split at hm<;>first|(subst hm;exact aH.elim)|skip
    rename_i z l u m hz hl Tw hmx
    by_cases T8:(mx.isSome&&hi.isNone)=true
    ·simp only[T8,if_true]at hm;subst hm;exact aH.elim
    ·rw[if_neg T8]at hm
     subst hm
     obtain⟨h0,h1,h2,h3,h4⟩:=aH
     refine⟨_,fun w hw=>?_,h4⟩
     simp only[execOp,ha.eval hx]
     refine Sem.aO _ w ?_
     have hb:=u0 (P:=P) (w:=w) ha (b:=true) (n:=n) (c:=c) hl Tw hmx h0 h1 h2 h3 (by cases mx<;>cases hi<;>simp_all)
     simp only[Instr.sliceAt,Sem.run_bind,run_underlying hu,Result.andThen_ok,Instr.slice,hb,Sem.run_pure,run_sizeOf hz]
  case fieldAddr s x f=>
   split at hm<;>first|(subst hm;exact aH.elim)|skip
   rename_i fs p hu hx
   split at hm<;>first|(subst hm;exact aH.elim)|skip
   rename_i g hg
   split at hm<;>first|(subst hm;exact aH.elim)|skip
   rename_i n hsz
   by_cases h0:n=0
   ·simp only[h0,if_true]at hm;subst hm;exact aH.elim
   ·simp only[h0,if_false]at hm
    subst hm
    cases p with
    |none=>exact aH.elim
    |some ad=>
     refine⟨.pointer (some (ad.add g.offset)),fun w hw=>?_,aH⟩
     simp only[execOp,ha.eval hx]
     refine Sem.aO _ w ?_
     have hgg:fs[f]? =some g:=by rw[←Array.getElem?_toList];exact hg
     simp only[Instr.fieldAt,Sem.run_bind,run_underlying hu,Result.andThen_ok,hgg,Instr.sureAddr,Sem.run_pure,fieldPlace,run_sizeOf hsz,h0,if_false]
  case indexAddr t x i=>
   split at hm<;>first|(subst hm;exact aH.elim)|skip
   ·rename_i e p n c k j hu hx hi
    split at hm<;>first|(subst hm;exact aH.elim)|skip
    rename_i z hz
    subst hm
    obtain⟨ad,h0,h1,h2,h3⟩:=aH
    simp only at h0
    subst h0
    refine⟨.pointer (some (ad.add (j.toNat*z))),fun w hw=>?_,h3⟩
    simp only[execOp,ha.eval hx,ha.eval hi]
    refine Sem.aO _ w ?_
    simp only at h2
    simp only[Instr.indexAt,asIntOf,Sem.run_bind,Sem.run_pure,Result.andThen_ok,run_underlying hu,h1,h2,and_self,if_true,run_sizeOf hz]
   ·rename_i n e p k j hu hx hi
    split at hm<;>first|(subst hm;exact aH.elim)|skip
    rename_i z hz
    subst hm
    obtain⟨ad,h0,h1,h2,h3⟩:=aH
    simp only at h0
    subst h0
    refine⟨.pointer (some (ad.add (j.toNat*z))),fun w hw=>?_,h3⟩
    simp only[execOp,ha.eval hx,ha.eval hi]
    refine Sem.aO _ w ?_
    simp only at h2
    simp only[Instr.indexAt,asIntOf,Sem.run_bind,Sem.run_pure,Result.andThen_ok,run_underlying hu,Instr.sureAddr,h1,h2,and_self,if_true,run_sizeOf hz]
  case index t x i=>
   split at hm<;>first|(subst hm;exact aH.elim)|skip
   ·rename_i str k j hu hx hi
    subst hm
    obtain⟨b,h0,h1,h2⟩:=aH
    refine⟨.int .u8 b.toNat,fun w hw=>?_,h2⟩
    simp only[execOp,ha.eval hx,ha.eval hi]
    refine Sem.aO _ w ?_
    simp only[Instr.index,asIntOf,Sem.run_bind,Sem.run_pure,Result.andThen_ok,run_underlying hu,h0,if_true,h1]
   ·rename_i m' e cs k j hu hx hi
    split at hm<;>first|(subst hm;exact aH.elim)|skip
    rename_i de hsz dH hue
    have key:cs.toList.length=m'→(TU cs.toList j fun v=>un1 P e v kk) h Q→∃v,(∀w:World,(ph (.index t x i)=true→w.heap=h)→(execOp a.eval ⟨dst,.index t x i,type,pos,after,guard⟩).run P w= .ok (.value v) w)∧kk v h Q:=by
     intro hlen aH
     obtain⟨v,h0,h1,h2⟩:=aH
     refine⟨v,fun w hw=>?_,lL h2⟩
     simp only[execOp,ha.eval hx,ha.eval hi]
     refine Sem.aO _ w ?_
     have hlt:j<m':=by
      have:=(List.getElem?_eq_some_iff.1 h1).1
      omega
     have hc:cs[j.toNat]? =some v:=by rw[←Array.getElem?_toList];exact h1
     simp only[Instr.index,asIntOf,Sem.run_bind,Sem.run_pure,Result.andThen_ok,run_underlying hu,h0,hlt,and_self,if_true,run_sizeOf hsz,part,fc hue,dH,Bool.false_eq_true,if_false,Nat.mul_one,hc]
    cases nA:lB P t with
    |true=>
     rw[nA]at hm
     subst hm
     exact key aH.1 aH.2
    |false=>
     rw[nA]at hm
     simp only at hm
     by_cases hlen:cs.toList.length=m'
     ·simp only[hlen,if_true]at hm
      subst hm
      exact key hlen aH
     ·simp only[hlen,if_false]at hm;subst hm;exact aH.elim
theorem u2 {t:TypeId}{v:Value}{name:String}{i:TypeInfo}{m:Method}(hf:i.methods.toList.find? (fun m=>decide (m.name=name))=some m):
  ∃k,i.methods.find? (fun m=>m.name == name)=some m∧∀args:Array Value,(callMethod (.iface t v) name args).run P w=((Go.method (k+1) t v name).run P w).andThen fun r w=>(callFunc r.1 (#[r.2]++args)).run P w:=by
 obtain⟨k,hk⟩:∃k,P.types.size+Made.depth=k+1:=by
  have h0:0<Made.depth:=by decide
  exact⟨P.types.size+Made.depth-1,by omega⟩
 refine⟨k,by rw[←Array.find?_toList];exact hf,fun args=>?_⟩
 simp only[callMethod,program,Sem.run_bind]
 show ((Go.method (P.types.size+Made.depth) t v name).run P w).andThen _=_
 rw[hk]
theorem FI {t:TypeId}{v:Value}{name:String}{f:FuncId}(h:uN P t name=some (f,none)){args:Array Value}:(callMethod (.iface t v) name args).run P w=(callFunc f (#[v]++args)).run P w:=by
 unfold uN at h
 split at h<;>first|cases h|skip
 rename_i i hi
 split at h<;>first|cases h|skip
 rename_i m hm
 obtain⟨k,yB,FJ⟩:=u2 (w:=w) (v:=v) hm
 have key:∃e,m.path.toList=[]∧m.func=some (f,true)∧P.underlying t=some (.pointer e):=by
  split at h
  ·rename_i f' e lM hfn hu
   cases h
   exact⟨e,lM,hfn,hu⟩
  ·cases h
  ·cases h
 obtain⟨e,lM,hfn,hu⟩:=key
 rw[FJ]
 have:(Go.method (k+1) t v name).run P w= .ok (f,v) w:=by
  rw[Go.method]
  simp only[Sem.run_bind,run_typeInfo hi,Result.andThen_ok,yB,lM,follow,Sem.run_pure,hfn,receiverAt,run_underlying hu,Place.get]
 rw[this];rfl
theorem FK {t:TypeId}{ad:Addr}{rv:Value}{name:String}{f:FuncId}{e:TypeId}(h:uN P t name=some (f,some e))(hl:(loadVar e ad).run P w= .ok rv w){args:Array Value}:(callMethod (.iface t (.pointer (some ad))) name args).run P w=(callFunc f (#[rv]++args)).run P w:=by
 unfold uN at h
 split at h<;>first|cases h|skip
 rename_i i hi
 split at h<;>first|cases h|skip
 rename_i m hm
 obtain⟨k,yB,FJ⟩:=u2 (w:=w) (v:=.pointer (some ad)) hm
 have key:m.path.toList=[]∧m.func=some (f,false)∧P.underlying t=some (.pointer e):=by
  split at h
  ·cases h
  ·rename_i f' e lM hfn hu
   cases h
   exact⟨lM,hfn,hu⟩
  ·cases h
 obtain⟨lM,hfn,hu⟩:=key
 rw[FJ]
 have b7n:m.path.isEmpty=true:=by
  have:m.path= #[]:=by apply Array.ext';rw[lM]
  rw[this];rfl
 have:(Go.method (k+1) t (.pointer (some ad)) name).run P w= .ok (f,rv) w:=by
  have chk:∀n,(Builtin.ssaWrapNilChk_ #[t] t #[.pointer (some ad),strVal "",strVal n]).run P w= .ok (.pointer (some ad)) w:=fun _=>rfl
  rw[Go.method]
  simp only[Sem.run_bind,run_typeInfo hi,Result.andThen_ok,yB,lM,follow,Sem.run_pure,hfn,receiverAt,run_underlying hu,Place.get,b7n,if_true,chk,asAddr,hl]
 rw[this];rfl
set_option maxHeartbeats 1000000 in
theorem iV {env:Env}{o:Oper}{kk:Value→M α}{Q:α→Hp→Prop}(aH:ee P env o kk w.heap Q)(ha:Ag env a)
  (hn:∀v w',Kept w w'→kk v w'.heap Q→next (a.put o.dst v) w'):o.wp P a w next Qx:=by
 by_cases hq:er o.op=true
 ·obtain⟨v,h1,h2⟩:=iU aH ha hq
  exact bV (h1 w fun _=>rfl) (hn v w (.refl w) h2)
 generalize hm:ee P env o kk=m at aH
 unfold ee at hm
 cases hp:cJ P env o with
 |some v=>
  rw[hp]at hm
  subst hm
  exact bV (dw hp ha w) (hn v w (.refl w) aH)
 |none=>
  rw[hp]at hm
  clear hp
  obtain⟨dst,op,type,pos,after,guard⟩:=o
  cases op<;>simp only[]at hm<;>first|(subst hm;exact aH.elim)|(exact absurd rfl hq)|skip
  case pick c x y=>
   split at hm<;>first|(subst hm;exact aH.elim)|skip
   rename_i b hc
   subst hm
   cases b
   ·simp only[aI]at aH
    cases hy:fF env y with
    |none=>rw[hy]at aH;exact aH.elim
    |some v=>
     rw[hy]at aH
     refine bV (v:=v) (w':=w) ?_ (hn _ w (.refl w) aH)
     simp only[execOp,ha.eval hc,ha.eval hy];rfl
   ·simp only[aI]at aH
    cases hx:fF env x with
    |none=>rw[hx]at aH;exact aH.elim
    |some v=>
     rw[hx]at aH
     refine bV (v:=v) (w':=w) ?_ (hn _ w (.refl w) aH)
     simp only[execOp,ha.eval hc,ha.eval hx];rfl
  case alloc T=>
   cases hz:gv P T with
   |none=>simp only[hz]at hm;subst hm;exact aH.elim
   |some z=>
    simp only[hz]at hm;subst hm
    refine bV (v:=.pointer (some ⟨w.heap.size,0,none⟩)) (w':={ w with heap:=w.heap.push (.cells z.cells T)}) ?_ (hn _ _ (Kept.heap w _) aH)
    simp only[execOp]
    refine Sem.aO _ w ?_
    simp[Instr.alloc,cE hz,newVar,newRow]
  case makeMap t re=>
   cases re with
   |some y=>simp only[]at hm;subst hm;exact aH.elim
   |none=>
    simp only[]at hm
    split at hm<;>first|(subst hm;exact aH.elim)|skip
    subst hm
    refine bV (v:=.map (some w.heap.size)) (w':={ w with heap:=w.heap.push (.map #[] 0)}) ?_ (hn _ _ (Kept.heap w _) aH)
    simp only[execOp]
    refine Sem.aO _ w ?_
    simp[Instr.makeMap,newObj,Sem.run]
  case mapUpdate t x i y=>
   split at hm<;>first|(subst hm;exact aH.elim)|skip
   rename_i kt e p kd key hu hx hi
   split at hm<;>first|(subst hm;exact aH.elim)|skip
   rename_i TX v hk hy dH
   by_cases K2:kd=TX
   ·subst K2
    simp only[if_true]at hm
    subst hm
    cases p with
    |none=>exact aH.elim
    |some r=>
     obtain⟨f,n,T6,aH⟩:=aH
     obtain⟨h',h1,h2,h3,h4⟩:=xR (v:=v) (key:=key) hu hk T6
     refine rL (w':={ w with heap:=h'}) ?_ (hn _ _ (Kept.heap w _) (aH h' h2 h3 h4))
     simp only[execOp,ha.eval hx,ha.eval hi,ha.eval hy,Sem.run_bind,h1,Result.andThen_ok,Sem.run_pure]
   ·simp only[K2,if_false]at hm;subst hm;exact aH.elim
   ·rename_i kt e p cs hu hx hi
    split at hm<;>first|(subst hm;exact aH.elim)|skip
    rename_i v hy
    subst hm
    cases p with
    |none=>exact aH.elim
    |some r=>
     obtain⟨u,h',h1,aH⟩:=aH
     refine rL (w':={ w with heap:=h'}) ?_ (hn _ _ (Kept.heap w _) aH)
     simp only[execOp,ha.eval hx,ha.eval hi,ha.eval hy,Sem.run_bind,h1 w rfl,Result.andThen_ok,Sem.run_pure]
  case makeInterface t x=>
   split at hm<;>first|(subst hm;exact aH.elim)|skip
   rename_i d v hno hu hx
   subst hm
   refine bV (v:=.iface t v) (w':=w) ?_ (hn _ w (.refl w) aH)
   simp only[execOp,ha.eval hx]
   refine Sem.aO _ w ?_
   unfold Instr.makeInterface
   rw[Sem.run_bind,run_underlying hu,Result.andThen_ok]
   cases d<;>first|rfl|exact (hno _ rfl).elim
  case typeAssert x T0 T ok=>
   split at hm<;>first|(subst hm;exact aH.elim)|skip
   rename_i d v hno hu hx
   subst hm
   unfold a7L at aH
   cases v<;>simp only[]at aH<;>first|exact aH.elim|skip
   case iface t u=>
    cases ht:Nat.beq t T with
    |true=>
     rw[ht]at aH
     obtain rfl:=Nat.eq_of_beq_eq_true ht
     have aH:=oh aH
     have run:(Instr.typeAssert (.iface t u) T0 t ok).run P w= .ok (if ok then .tuple #[u,.bool true] else u) w:=by
      unfold Instr.typeAssert
      rw[Sem.run_bind,run_underlying hu,Result.andThen_ok]
      cases d<;>first|exact (hno _ rfl).elim|simp
     refine bV (v:=if ok then .tuple #[u,.bool true] else u) (w':=w) ?_ (hn _ w (.refl w) (by cases ok<;>exact aH))
     simp only[execOp,ha.eval hx]
     exact Sem.aO _ w run
    |false=>rw[ht]at aH;exact aH.elim
  case box T x=>
   cases hx:fF env x with
   |none=>simp only[hx]at hm;subst hm;exact aH.elim
   |some v=>
    simp only[hx]at hm;subst hm
    refine bV (v:=.pointer (some ⟨w.heap.size,0,none⟩)) (w':={ w with heap:=w.heap.push (.cells v.cells T)}) ?_ (hn _ _ (Kept.heap w _) aH)
    simp only[execOp,ha.eval hx]
    refine Sem.aO _ w ?_
    simp[Instr.box,newVar,newRow]
  case buildSlice t len parts=>
   split at hm<;>first|(subst hm;exact aH.elim)|skip
   rename_i e ps hu hps
   split at hm<;>first|(subst hm;exact aH.elim)|skip
   rename_i n z hsz hz
   split at hm<;>first|(subst hm;exact aH.elim)|skip
   rename_i hle
   cases hf:gU (fun i=>some (i*n,n)) (eK z.cells len).toList ps with
   |none=>simp only[hf]at hm;subst hm;exact aH.elim
   |some cs=>
    simp only[hf]at hm
    by_cases hlen:z.cells.toList.length=n
    ·simp only[hlen,if_true]at hm;subst hm
     refine bV (v:=.slice (some ⟨w.heap.size,0,none⟩) len len) (w':={ w with heap:=w.heap.push (.cells cs.toArray e)}) ?_ (hn _ _ (Kept.heap w _) aH)
     simp only[execOp]
     refine Sem.aO _ w ?_
     have hpm:(parts.map fun x=>(x.1,a.eval x.2)).toList=ps:=by rw[Array.toList_map,jR ha _ _ hps]
     have hzs:z.cells.size=n:=by simpa using hlen
     have hrow:∀zz:Array Value,(len*n=0∨zz=z.cells)→((Array.range (len*n)).map fun i=>zz[i%zz.size]!)=eK z.cells len:=by
      intro zz hzz
      rcases hzz with h0|h0
      ·unfold eK;rw[hzs,h0];simp
      ·rw[h0];unfold eK;rw[hzs]
     unfold Instr.buildSlice
     have e5S:¬len*n>2 ^ 24:=by omega
     simp only[Sem.run_bind,run_underlying hu,Result.andThen_ok,run_sizeOf hsz,e5S,if_false]
     by_cases h0:len*n=0
     ·simp only[h0,if_true,pure_bind]
      have hr:=hrow #[] (.inl h0)
      rw[h0]at hr
      rw[hr,fill_eq,hpm,hf]
      simp[newRow]
     ·simp only[h0,if_false,Sem.run_bind,cE hz,Result.andThen_ok,Sem.run_pure]
      rw[hrow z.cells (.inr rfl),fill_eq,hpm,hf]
      simp[newRow]
    ·simp only[hlen,if_false]at hm;subst hm;exact aH.elim
  case store t x y=>
   split at hm<;>first|(subst hm;exact aH.elim)|skip
   rename_i p v n hx hy hs
   subst hm
   cases p with
   |none=>exact aH.elim
   |some ad=>
    simp only[ax]at aH
    cases nA:lB P t with
    |true=>
     rw[nA]at aH
     obtain⟨hlen,h1,h2,h3⟩:=aH
     refine rL (w':={ w with heap:=dQ w.heap ad 0 v.cells.toList}) ?_ (hn _ _ (Kept.heap w _) h3)
     simp only[execOp,ha.eval hx,ha.eval hy]
     have:=mz hs hlen (gV v.cells.toList 0 w.heap h1 h2 w rfl)
     simp only[Instr.storeAt,Instr.sureAddr,Sem.run_bind,Sem.run_pure,Result.andThen_ok,this]
    |false=>
    rw[nA]at aH
    simp only at aH
    by_cases hlen:v.cells.toList.length=n
    ·simp only[hlen,if_true]at aH
     obtain⟨h',h1,h2⟩:=oQ _ _ _ _ aH
     refine rL (w':={ w with heap:=h'}) ?_ (hn _ _ (Kept.heap w _) h2)
     simp only[execOp,ha.eval hx,ha.eval hy]
     have:=mz hs hlen (h1 w rfl)
     simp only[Instr.storeAt,Instr.sureAddr,Sem.run_bind,Sem.run_pure,Result.andThen_ok,this]
    ·simp only[hlen,if_false]at aH;exact aH.elim
  case convert s d x=>
   split at hm<;>first|(subst hm;exact aH.elim)|skip
   ·rename_i e b hs hd hx
    split at hm<;>first|(subst hm;exact aH.elim)|skip
    rename_i he
    subst hm
    obtain⟨c,hc1,hc2,hc3⟩:=mX w e b
    have hrun:=Lib.run_convert_string_bytes w s d e b hs hd he
    rw[hc3]at hrun
    have hkk:=aH c hc1
    refine bV (v:=.slice (some ⟨w.heap.size,0,none⟩) b.size c) (w':=Lib.bytesWorld w e b) ?_ (hn _ _ ?_ ?_)
    ·simp only[execOp,ha.eval hx]
     exact Sem.aO _ w hrun
    ·rw[hc2];exact⟨rfl,rfl,rfl⟩
    ·rw[hc2];exact hkk
   ·rename_i e p n c hs hd hx
    split at hm<;>first|(subst hm;exact aH.elim)|skip
    rename_i he
    subst hm
    obtain⟨bs,h1,h2⟩:=aH
    refine bV (v:=.string ⟨bs.toArray⟩) (w':=w) ?_ (hn _ w (.refl w) h2)
    simp only[execOp,ha.eval hx]
    refine Sem.aO _ w ?_
    rw[run_convert_bytes_string w s d e p n c hs he hd]
    exact a7P h1
   ·rename_i e' e p n c hs hd hx
    split at hm<;>first|(subst hm;exact aH.elim)|skip
    rename_i he hsd
    subst hm
    obtain⟨b,o,cs,T,hp,hb,hkk⟩:=aH
    have hsd:s=d:=by simpa using hsd
    subst hsd
    simp only at hp
    subst hp
    refine bV (v:=.slice (some ⟨b,o,none⟩) n c) (w':={ w with heap:=w.heap.setIfInBounds b (.cells cs T (cs.size,cs.size+1))}) ?_ (hn _ _ (Kept.heap w _) hkk)
    simp only[execOp,ha.eval hx]
    exact Sem.aO _ w (CH hd he hb)
  case makeSlice t l c=>
   split at hm<;>first|(subst hm;exact aH.elim)|skip
   rename_i e kl li kc ci hu hl hc
   split at hm<;>first|(subst hm;exact aH.elim)|skip
   rename_i n z b hsz hz hb
   by_cases hlen:z.cells.toList.length=n
   ·simp only[hlen,if_true]at hm
    subst hm
    obtain⟨h0,h1,h2,h3,h4⟩:=aH
    refine bV (v:=.slice (some ⟨w.heap.size,0,none⟩) li.toNat ci.toNat) (w':={ w with heap:=w.heap.push (.cells (eK z.cells ci.toNat) e)}) ?_ (hn _ _ (Kept.heap w _) h4)
    simp only[execOp,ha.eval hl,ha.eval hc]
    exact Sem.aO _ w (run_makeSlice hu hsz hz hb (by simpa using hlen) h0 h1 h2 h3 w)
   ·simp only[hlen,if_false]at hm;subst hm;exact aH.elim
  case call c=>
   obtain⟨callee,args,argTypes⟩:=c
   cases callee<;>(try dsimp only at hm)<;>first|(subst hm;exact aH.elim)|skip
   case value f=>
    split at hm<;>first|(subst hm;exact aH.elim)|skip
    rename_i g first cap vs hf hvs
    subst hm
    rcases aH with ⟨hc,aH⟩|⟨v,hc,aH⟩|aH
    ·refine AM (g:=g) (args:=first++vs.toArray++cap) (X:=fun v h'=>I6 P type v kk h' Q) ?_ (aH w rfl) ?_
     ·simp only[execOp,resolve,ha.eval hf,cQ ha hvs,Deferred.ofValue,Sem.run_bind,Sem.run_pure,Result.andThen_ok,invoke]
      exact hc _ w
     ·intro v w' hk hx
      exact hn v w' hk (fe hx)
    ·refine bV (v:=v) (w':=w) ?_ (hn v w (.refl w) (fe aH))
     simp only[execOp,resolve,ha.eval hf,cQ ha hvs,Deferred.ofValue,Sem.run_bind,Sem.run_pure,Result.andThen_ok,invoke]
     exact hc w rfl
    ·obtain⟨v,w',hc,hk,-,aH⟩:=aH w rfl
     refine bV (v:=v) (w':=w') ?_ (hn v w' hk (fe aH))
     simp only[execOp,resolve,ha.eval hf,cQ ha hvs,Deferred.ofValue,Sem.run_bind,Sem.run_pure,Result.andThen_ok,invoke]
     exact hc
   case builtin b=>
    cases b<;>(try dsimp only at hm)<;>first|(subst hm;exact aH.elim)|skip
    case append=>
     split at hm<;>first|(subst hm;exact aH.elim)|skip
     rename_i p n c q m' d st xt hargs xT
     split at hm<;>first|(subst hm;exact aH.elim)|skip
     rename_i e e' hst K1
     split at hm<;>first|(subst hm;exact aH.elim)|skip
     rename_i z b zv hz hb hzv
     by_cases hlen:zv.cells.toList.length=z
     ·simp only[hlen,if_true]at hm
      subst hm
      obtain⟨xs,hxs,hone,kS⟩:=aH
      have hA:=FG (P:=P) (s:=⟨p,n,c⟩) (x:=⟨q,m',d⟩) (ty:=type) hst K1 hz hb hzv hxs hone
      have hty:argTypes= #[st,xt]:=by apply Array.ext';exact xT
      have hrun:∀v w',(Builtin.append_ #[st,xt] type #[.slice p n c,.slice q m' d]).run P w= .ok v w'→(execOp a.eval ⟨dst,.call ⟨.builtin .append,args,argTypes⟩,type,pos,after,guard⟩).run P w= .ok (.value v) w':=by
       intro v w' hv
       simp only[execOp,resolve,Sem.run_bind,Sem.run_pure,Result.andThen_ok,invoke,builtin,cQ ha hargs,hty]
       rw[show [Value.slice p n c,Value.slice q m' d].toArray= #[.slice p n c,.slice q m' d] from rfl,hv]
       rfl
      by_cases hle:n+m'≤c
      ·simp only[hle,if_true]at kS
       cases p with
       |none=>exact bV (hrun _ _ (hA.1 hle w.heap rfl)) (hn _ _ (Kept.heap w _) kS)
       |some ad=>
        obtain⟨h1,h2⟩:=kS
        exact bV (hrun _ _ (hA.1 hle _ ⟨h1,rfl⟩)) (hn _ _ (Kept.heap w _) h2)
      ·simp only[hle,if_false]at kS
       obtain⟨h1,h2,old,h3,h4⟩:=kS
       obtain⟨c',hc',w',hk,hw',hr⟩:=hA.2 hle h1 h2 old h3
       refine bV (hrun _ _ hr) (hn _ _ hk ?_)
       rw[hw']
       exact h4 c' hc'
     ·simp only[hlen,if_false]at hm;subst hm;exact aH.elim
    case copy=>
     split at hm<;>first|(subst hm;exact aH.elim)|skip
     rename_i p n c q m' d st ts hargs xT
     split at hm<;>first|(subst hm;exact aH.elim)|skip
     rename_i e hst
     split at hm<;>first|(subst hm;exact aH.elim)|skip
     rename_i z hz
     subst hm
     obtain⟨xs,hxs,hone,kS⟩:=aH
     have fG:argTypes[0]? =some st:=by rw[←Array.getElem?_toList,xT];rfl
     have hrun:∀v w',(Builtin.copy_ argTypes type #[.slice p n c,.slice q m' d]).run P w= .ok v w'→(execOp a.eval ⟨dst,.call ⟨.builtin .copy,args,argTypes⟩,type,pos,after,guard⟩).run P w= .ok (.value v) w':=by
      intro v w' hv
      simp only[execOp,resolve,Sem.run_bind,Sem.run_pure,Result.andThen_ok,invoke,builtin,cQ ha hargs]
      rw[show [Value.slice p n c,Value.slice q m' d].toArray= #[.slice p n c,.slice q m' d] from rfl,hv]
      rfl
     have hfc:=jl (P:=P) hxs w rfl
     simp only at hfc
     cases p with
     |none=>
      refine bV (hrun (.int .i64 (min m' n:Nat)) w ?_) (hn _ _ (.refl w) kS)
      unfold Builtin.copy_
      simp only[fG,List.getElem?_toArray,List.getElem?_cons_zero,List.getElem?_cons_succ,Sem.run_bind,run_underlying hst,Result.andThen_ok,Builtin.lenOf,Sem.run_pure,run_sizeOf hz]
      rw[show Nat.min m' n=min m' n from rfl,hfc]
      rfl
     |some ad=>
      obtain⟨h1,h2⟩:=kS
      refine bV (hrun (.int .i64 (min m' n:Nat)) { w with heap:=dQ w.heap ad 0 xs} ?_) (hn _ _ (Kept.heap w _) h2)
      unfold Builtin.copy_
      simp only[fG,List.getElem?_toArray,List.getElem?_cons_zero,List.getElem?_cons_succ,Sem.run_bind,run_underlying hst,Result.andThen_ok,Builtin.lenOf,Sem.run_pure,run_sizeOf hz]
      rw[show Nat.min m' n=min m' n from rfl,hfc]
      simp only[Result.andThen_ok]
      rw[gV xs 0 w.heap hone h1 w rfl]
      rfl
    case clear=>
     split at hm<;>first|(subst hm;exact aH.elim)|skip
     rename_i p n c st ts hargs xT
     split at hm<;>first|(subst hm;exact aH.elim)|skip
     rename_i e hst
     split at hm<;>first|(subst hm;exact aH.elim)|skip
     rename_i z zv hz hzv
     subst hm
     have fG:argTypes[0]? =some st:=by rw[←Array.getElem?_toList,xT];rfl
     have hrun:∀v w',(Builtin.clear_ argTypes type #[.slice p n c]).run P w= .ok v w'→(execOp a.eval ⟨dst,.call ⟨.builtin .clear,args,argTypes⟩,type,pos,after,guard⟩).run P w= .ok (.value v) w':=by
      intro v w' hv
      simp only[execOp,resolve,Sem.run_bind,Sem.run_pure,Result.andThen_ok,invoke,builtin,cQ ha hargs]
      rw[show [Value.slice p n c].toArray= #[.slice p n c] from rfl,hv]
      rfl
     cases p with
     |none=>
      refine bV (hrun undef w ?_) (hn _ _ (.refl w) aH)
      unfold Builtin.clear_
      simp only[fG,List.getElem?_toArray,List.getElem?_cons_zero,Sem.run_bind,run_underlying hst,Result.andThen_ok]
      cases n<;>rfl
     |some ad=>
      obtain⟨h1,_,h2,h3⟩:=aH
      refine bV (hrun undef { w with heap:=dQ w.heap ad 0 (eK zv.cells n).toList} ?_) (hn _ _ (Kept.heap w _) h3)
      unfold Builtin.clear_
      simp only[fG,List.getElem?_toArray,List.getElem?_cons_zero,Sem.run_bind,run_underlying hst,Result.andThen_ok]
      cases n with
      |zero=>simp[eK,dQ];rfl
      |succ n=>
       simp only[Sem.run_bind,cE hzv,Result.andThen_ok,qz]
       rw[gV _ 0 w.heap h1 h2 w rfl]
       rfl
    case len=>
     split at hm<;>first|(subst hm;exact aH.elim)|skip
     rename_i p st ts hargs xT
     split at hm<;>first|(subst hm;exact aH.elim)|skip
     rename_i kt e hst
     split at hm<;>first|(subst hm;exact aH.elim)|skip
     rename_i kd hk
     subst hm
     cases p with
     |none=>exact aH.elim
     |some r=>
      obtain⟨f,n,⟨m,clock,hb,_,hlen,_⟩,aH⟩:=aH
      have fG:argTypes[0]? =some st:=by rw[←Array.getElem?_toList,xT];rfl
      refine bV (v:=.int .i64 n) (w':=w) ?_ (hn _ w (.refl w) aH)
      simp only[execOp,resolve,Sem.run_bind,Sem.run_pure,Result.andThen_ok,invoke,builtin,cQ ha hargs]
      unfold Builtin.len_
      simp only[fG,List.getElem?_toArray,List.getElem?_cons_zero,Sem.run_bind,run_underlying hst,Result.andThen_ok,dt hb,Sem.run_pure]
      simp[goInt,hlen]
    case delete=>
     split at hm<;>first|(subst hm;exact aH.elim)|skip
     rename_i p kd key st ts hargs xT
     split at hm<;>first|(subst hm;exact aH.elim)|skip
     rename_i kt e hst
     split at hm<;>first|(subst hm;exact aH.elim)|skip
     rename_i TX hk
     by_cases K2:kd=TX
     ·subst K2
      simp only[if_true]at hm
      subst hm
      cases p with
      |none=>exact aH.elim
      |some r=>
       obtain⟨f,n,T6,aH⟩:=aH
       have fG:argTypes[0]? =some st:=by rw[←Array.getElem?_toList,xT];rfl
       obtain⟨h',h1,h2,h3,h4⟩:=xS (ty:=type) (key:=key) fG hst hk T6
       refine bV (v:=undef) (w':={ w with heap:=h'}) ?_ (hn _ _ (Kept.heap w _) (aH h' h2 h3 h4))
       simp only[execOp,resolve,Sem.run_bind,Sem.run_pure,Result.andThen_ok,invoke,builtin,cQ ha hargs]
       rw[show [Value.map (some r),Value.int kd key].toArray= #[.map (some r),.int kd key] from rfl,h1]
       rfl
     ·simp only[K2,if_false]at hm;subst hm;exact aH.elim
     ·rename_i p cs st ts hargs xT
      subst hm
      cases p with
      |none=>exact aH.elim
      |some r=>
       obtain⟨u,h',h1,hu,aH⟩:=aH
       subst hu
       refine bV (v:=undef) (w':={ w with heap:=h'}) ?_ (hn _ _ (Kept.heap w _) aH)
       simp only[execOp,resolve,Sem.run_bind,Sem.run_pure,Result.andThen_ok,invoke,builtin,cQ ha hargs]
       rw[show [Value.map (some r),Value.agg cs].toArray= #[.map (some r),.agg cs] from rfl,h1 w rfl]
       rfl
   case invoke x name=>
    split at hm<;>first|(subst hm;exact aH.elim)|skip
    rename_i t v vs hx hvs
    have exec:(execOp a.eval ⟨dst,.call ⟨.invoke x name,args,argTypes⟩,type,pos,after,guard⟩).run P w=(callMethod (.iface t v) name vs.toArray).run P w:=by
     simp only[execOp,resolve,ha.eval hx,cQ ha hvs,Sem.run_bind,Sem.run_pure,Result.andThen_ok,invoke]
     have e1:(#[Value.iface t v]++vs.toArray)[0]? =some (.iface t v):=by simp
     have e2:(#[Value.iface t v]++vs.toArray).extract 1 (#[Value.iface t v]++vs.toArray).size=vs.toArray:=by
      apply Array.ext';simp[List.take_of_length_le]
     simp only[e1,e2]
    have call:∀(g:FuncId) (us:Array Value),(callMethod (.iface t v) name vs.toArray).run P w=(callFunc g us).run P w→(ai (Nf P g us) fun r=>I6 P type r kk) w.heap Q→Oper.wp P ⟨dst,.call ⟨.invoke x name,args,argTypes⟩,type,pos,after,guard⟩ a w next Qx:=by
     intro g us he aH
     rcases aH with ⟨hc,aH⟩|⟨v,hc,aH⟩|aH
     ·refine AM (g:=g) (args:=us) (X:=fun v h'=>I6 P type v kk h' Q) (exec.trans (he.trans (hc _ w))) (aH w rfl) ?_
      intro v w' hk hx
      exact hn v w' hk (fe hx)
     ·exact bV (v:=v) (w':=w) (exec.trans (he.trans (hc w rfl))) (hn v w (.refl w) (fe aH))
     ·obtain⟨v,w',hc,hk,-,aH⟩:=aH w rfl
      exact bV (v:=v) (w':=w') (exec.trans (he.trans hc)) (hn v w' hk (fe aH))
    split at hm
    ·rename_i f hmt
     subst hm
     exact call f _ ((FI hmt).trans (by rw[show #[v]++vs.toArray=(v::vs).toArray from by apply Array.ext';simp])) aH
    ·rename_i f e hmt
     split at hm<;>first|(subst hm;exact aH.elim)|skip
     rename_i p
     subst hm
     cases p with
     |none=>exact aH.elim
     |some ad=>
      have aH:TV P e ad (fun rv=>ai (Nf P f (rv::vs).toArray) fun r=>I6 P type r kk) w.heap Q:=aH
      obtain⟨rv,h1,h2⟩:=og aH
      exact call f _ ((FK hmt (h1 w rfl)).trans (by rw[show #[rv]++vs.toArray=(rv::vs).toArray from by apply Array.ext';simp])) h2
    ·subst hm;exact aH.elim
end op
end Go.Sb
end
section
namespace Go.Sb
open Go
theorem mA:∀{a b:Option (Nat×Bool)},cK a b=true→a=b
 |none,none,_=>rfl
 |none,some _,h=>by simp[cK]at h
 |some (_,true),none,h=>by simp[cK]at h
 |some (_,false),none,h=>by simp[cK]at h
 |some (i,true),some (j,true),h=>by simp[cK]at h;rw[h]
 |some (i,false),some (j,false),h=>by simp[cK]at h;rw[h]
 |some (i,true),some (j,false),h=>by simp[cK]at h
 |some (i,false),some (j,true),h=>by simp[cK]at h
theorem CJ (ctx:Option (Nat×Bool)):∀{l g r:List Oper},cutAt ctx l=(g,r)→l=g++r
 |[],g,r,h=>by simp[cutAt]at h;simp[h.1,h.2]
 |o::l,g,r,h=>by
  unfold cutAt at h
  cases hs:cK ctx o.guard with
  |true=>simp only[hs]at h;cases h;rfl
  |false=>
   simp only[hs]at h
   cases hc:cutAt ctx l with
   |mk x y=>
    simp only[hc]at h
    cases h
    rw[CJ ctx hc];rfl
theorem u3 (ctx:Option (Nat×Bool)):∀{l g r:List Oper} {p:Oper},cutAt ctx l=(g,p::r)→cK ctx p.guard=true
 |[],g,r,p,h=>by simp[cutAt]at h
 |o::l,g,r,p,h=>by
  unfold cutAt at h
  cases hs:cK ctx o.guard with
  |true=>simp only[hs]at h;cases h;exact hs
  |false=>
   simp only[hs]at h
   cases hc:cutAt ctx l with
   |mk x y=>
    simp only[hc]at h
    cases h
    exact u3 ctx hc
theorem iq {ops:Array Oper}{j c:Nat}(h:cB ops.toList j=some c):(ops[j]?).bind (·.dst)=some c:=by
 unfold cB at h
 rw[Array.getElem?_toList]at h
 cases ho:ops[j]? with
 |none=>simp[ho]at h
 |some o=>simpa[ho]using h
theorem gh {ops:Array Oper}{j c:Nat}{b:Bool}{tmps:Array Value}(h:cB ops.toList j=some c)(hc:tmps[c]? =some (.bool b)):yielded ops tmps j=some b:=by
 unfold yielded
 rw[iq h,Option.bind_some,hc]
theorem xU {ops:Array Oper}{j c:Nat}{tmps:Array Value}(h:cB ops.toList j=some c)(hc:tmps[c]? =some undef∨tmps[c]? =none):yielded ops tmps j=none:=by
 unfold yielded
 rw[iq h,Option.bind_some]
 rcases hc with hc|hc<;>rw[hc]<;>rfl
theorem yC {ops:Array Oper}{ctx:Option (Nat×Bool)}{env:Env}{a:Act}{o:Oper}(hs:cK ctx o.guard=true)(hc:lJ ops.toList ctx env=true)(ha:Ag env a):Region.wanted o (yielded ops a.tmps)=true:=by
 have:=mA hs
 unfold Region.wanted
 rw[←this]
 cases ctx with
 |none=>rfl
 |some g=>
  obtain⟨j,want⟩:=g
  unfold lJ at hc
  simp only[]at hc
  cases hg:cB ops.toList j with
  |none=>simp[hg]at hc
  |some c=>
   simp only[hg]at hc
   have:look env c=some (.bool want):=by
    revert hc
    cases hl:look env c with
    |none=>intro h;cases want<;>simp at h
    |some v=>
     cases v<;>cases want<;>simp
     all_goals (rename_i b;cases b<;>simp)
   have hy:=gh (tmps:=a.tmps) hg (ha.at_ _ _ this)
   simp[hy]
structure nf (l:List Oper) (a a':Act):Prop where
 size:a'.tmps.size=a.tmps.size
 defers:a'.defers=a.defers
 same:∀i,(∀o∈l,o.dst≠some i)→a'.tmps[i]? =a.tmps[i]?
theorem nf.refl (l:List Oper)(a:Act):nf l a a:=⟨rfl,rfl,fun _ _=>rfl⟩
theorem nf.put {l:List Oper}{o:Oper}{a a':Act}{v:Value}(h:nf l (a.put o.dst v) a'):nf (o::l) a a':=
 ⟨by rw[h.size,nw],by rw[h.defers,put_defers],fun i hi=>by
  rw[h.same i fun o ho=>hi o (by simp[ho]),gB,if_neg (fun hc=>hi o (by simp) hc.1)]⟩
theorem nf.app {l l':List Oper}{a a' T9:Act}(h:nf l a a')(h':nf l' a' T9):nf (l++l') a T9:=
 ⟨h'.size.trans h.size,h'.defers.trans h.defers,fun i hi=>(h'.same i fun o ho=>hi o (by simp[ho])).trans (h.same i fun o ho=>hi o (by simp[ho]))⟩
theorem qC:∀(l:List Oper) (env:Env) (i:Nat) {v:Value},look (ij env l) i=some v→look env i=some v∧∀o∈l,o.dst≠some i
 |[],env,i,v,h=>⟨h,by simp⟩
 |o::l,env,i,v,h=>by
  obtain⟨h1,h2⟩:=qC l (put env o.dst none) i h
  rw[CA]at h1
  by_cases hc:o.dst=some i∧i<env.length
  ·rw[if_pos hc]at h1;cases h1
  ·rw[if_neg hc]at h1
   refine⟨h1,?_⟩
   intro x hx
   rcases List.mem_cons.1 hx with rfl|hx
   ·exact fun he=>hc ⟨he,a7O h1⟩
   ·exact h2 x hx
theorem nC:∀(l:List Oper) (env:Env),(ij env l).length=env.length
 |[],env=>rfl
 |o::l,env=>by rw[ij,nC l,uW]
theorem Ag.e5T {l:List Oper}{env:Env}{a a':Act}(h:Ag env a)(hw:nf l a a'):Ag (ij env l) a':=
 ⟨by rw[nC,h.size,hw.size],fun i v hv=>by
  obtain⟨h1,h2⟩:=qC l env i hv
  rw[hw.same i h2,h.at_ i v h1],by rw[hw.defers,h.defers]⟩
structure FL (P:Program) (ops:Array Oper) (step:(β:Type)→Env→Oper→(Value→M β)→M β) (X:List Nat→Act→World→Prop):Prop where
 skip:∀{i is o a w},ops[i]? =some o→Region.wanted o (yielded ops a.tmps)=false→X is (a.put o.dst undef) w→X (i::is) a w
 value:∀{i is o a w v},ops[i]? =some o→Region.wanted o (yielded ops a.tmps)=true→(∀w,(execOp a.eval o).run P w= .ok (.value v) w)→X is (a.put o.dst v) w→X (i::is) a w
 step:∀{i is o a w β env} {kk:Value→M β} {Q:β→Hp→Prop},ops[i]? =some o→Region.wanted o (yielded ops a.tmps)=true→step β env o kk w.heap Q→Ag env a→
  (∀v w',Kept w w'→kk v w'.heap Q→X is (a.put o.dst v) w')→X (i::is) a w
section goes
variable {P:Program}{ops:Array Oper}{step:(β:Type)→Env→Oper→(Value→M β)→M β}{X:List Nat→Act→World→Prop}
theorem pw (G:FL P ops step X){c j:Nat}{want b:Bool}(hj:cB ops.toList j=some c)(hb:b≠want):
  ∀(l:List Oper) (us is R:List Nat) (a:Act) (w:World),is.map (fun i=>ops[i]?)=l.map some→pf ops.toList c (j,want) us l=true→a.tmps[c]? =some (.bool b)→
   (∀u∈us,a.tmps[u]? =some undef∨a.tmps[u]? =none)→(∀a',nf l a a'→a'.tmps[c]? =some (.bool b)→X R a' w)→X (is++R) a w
 |[],us,is,R,a,w,hi,_,hc,_,K=>by
  have:is=[]:=by cases is<;>simp at hi ⊢
  subst this
  exact K a (.refl _ a) hc
 |o::l,us,is,R,a,w,hi,hs,hc,hu,K=>by
  cases is with
  |nil=>simp at hi
  |cons i is=>
   simp only[List.map_cons,List.cons.injEq]at hi
   unfold pf at hs
   simp only[Bool.and_eq_true,bne_iff_ne,ne_eq]at hs
   obtain⟨⟨h1,h2⟩,h3⟩:=hs
   have d3e:Region.wanted o (yielded ops a.tmps)=false:=by
    unfold Region.wanted
    rcases Bool.or_eq_true _ _ ▸ h2 with h2|h2
    ·rw[←mA h2]
     simp only[gh hj hc,beq_eq_false_iff_ne,ne_eq,Option.some.injEq]
     exact hb
    ·cases hg:o.guard with
     |none=>simp[hg]at h2
     |some g=>
      obtain⟨j',w'⟩:=g
      simp only[hg]at h2
      cases hgs:cB ops.toList j' with
      |none=>simp[hgs]at h2
      |some c'=>
       simp only[hgs,Bool.and_eq_true,List.contains_iff_mem]at h2
       show (yielded ops a.tmps j' == some w')=false
       rw[xU hgs (hu c' h2.1)]
       rfl
   refine G.skip hi.1 d3e (pw G hj hb l (o.dst.toList++us) is R (a.put o.dst undef) w hi.2 h3 ?_ ?_ ?_)
   ·rw[gB,if_neg (fun hx=>h1 hx.1)];exact hc
   ·intro u hum
    rw[gB]
    by_cases hd:o.dst=some u∧u<a.tmps.size
    ·rw[if_pos hd];exact .inl rfl
    ·rw[if_neg hd]
     rcases List.mem_append.1 hum with hm|hm
     ·have:o.dst=some u:=by cases ho:o.dst<;>simp[ho]at hm ⊢;exact hm.symm
      exact .inr (Array.getElem?_eq_none (Nat.le_of_not_lt fun hlt=>hd ⟨this,hlt⟩))
     ·exact hu u hm
   ·exact fun a' haw hc'=>K a' haw.put hc'
theorem u4 {ops:List Oper}{c:Nat}{g:Nat×Bool}:∀(l:List Oper) (us:List Nat),pf ops c g us l=true→∀o∈l,o.dst≠some c
 |[],_,_=>by simp
 |o::l,us,h=>by
  unfold pf at h
  simp only[Bool.and_eq_true,bne_iff_ne,ne_eq]at h
  intro x hx
  rcases List.mem_cons.1 hx with rfl|hx
  ·exact h.1.1
  ·exact u4 l _ h.2 x hx
theorem u5 (G:FL P ops step X){c j:Nat}{want:Bool}(hj:cB ops.toList j=some c):
  ∀(l:List Oper) (is R:List Nat) (env env':Env) (a:Act) (w:World),is.map (fun i=>ops[i]?)=l.map some→nv (some (j,want)) l=true→(∀o∈l,o.dst≠some c)→rI P l env=some env'→Ag env a→
   a.tmps[c]? =some (.bool want)→(∀a',Ag env' a'→nf l a a'→X R a' w)→X (is++R) a w
 |[],is,R,env,env',a,w,hi,_,_,he,ha,_,K=>by
  have:is=[]:=by cases is<;>simp at hi ⊢
  subst this
  simp only[rI,Option.some.injEq]at he
  subst he
  exact K a ha (.refl _ a)
 |o::l,is,R,env,env',a,w,hi,hg,hd,he,ha,hc,K=>by
  cases is with
  |nil=>simp at hi
  |cons i is=>
   simp only[List.map_cons,List.cons.injEq]at hi
   simp only[nv,Bool.and_eq_true]at hg
   simp only[rI]at he
   cases hp:cJ P env o with
   |none=>simp[hp]at he
   |some v=>
    simp only[hp]at he
    refine G.value hi.1 ?_ (dw hp ha) (u5 G hj l is R _ env' _ w hi.2 hg.2 (fun o ho=>hd o (by simp[ho])) he (ha.put o.dst v) ?_ fun a' h1 h2=>K a' h1 h2.put)
    ·unfold Region.wanted
     rw[←mA hg.1]
     simp[gh hj hc]
    ·rw[gB,if_neg (fun hx=>hd o (by simp) hx.1)];exact hc
end goes
end Go.Sb
end
section
namespace Go.Sb
open Go
section goes
variable {P:Program}{ops:Array Oper}{step:(β:Type)→Env→Oper→(Value→M β)→M β}{X:List Nat→Act→World→Prop}
theorem K3 {want:Bool}{c:Nat}{op:Op}{x:Operand}(h:uO want c op=some x):
  (want=true∧op= .pick (.tmp c) x (.const (.bool false)))∨(want=false∧op= .pick (.tmp c) (.const (.bool true)) x):=by
 unfold uO at h
 split at h
 ·rename_i c' a b
  split at h
  ·rename_i x' hc
   cases h
   simp only[beq_iff_eq]at hc
   exact .inl ⟨rfl,by rw[hc]⟩
  ·rename_i x' hc
   cases h
   simp only[beq_iff_eq]at hc
   exact .inr ⟨rfl,by rw[hc]⟩
  ·cases h
 ·cases h
theorem FM {want b r:Bool}{c:Nat}{o:Oper}{x:Operand}{a:Act}(hp:uO want c o.op=some x)(hc:a.tmps[c]? =some (.bool b))(hr:(b=want∧a.eval x= .bool r)∨(b≠want∧r=b))(w:World):
  (execOp a.eval o).run P w= .ok (.value (.bool r)) w:=by
 have he:a.eval (.tmp c)= .bool b:=by simp[Act.eval,hc]
 obtain⟨dst,op,type,pos,after,guard⟩:=o
 rcases K3 hp with ⟨rfl,ho⟩|⟨rfl,ho⟩
 ·simp only at ho
  subst ho
  simp only[execOp,he]
  rcases hr with ⟨rfl,hr⟩|⟨hb,rfl⟩
  ·rw[hr];rfl
  ·cases r with
   |true=>exact absurd rfl hb
   |false=>rfl
 ·simp only at ho
  subst ho
  simp only[execOp,he]
  rcases hr with ⟨rfl,hr⟩|⟨hb,rfl⟩
  ·rw[hr];rfl
  ·cases r with
   |false=>exact absurd rfl hb
   |true=>rfl
theorem K4 {l g r:List Oper}{p:Oper}{is:List Nat}(hi:is.map (fun i=>ops[i]?)=l.map some)(hl:l=g++p::r):
  ∃ig i ir,is=ig++i::ir∧ig.map (fun i=>ops[i]?)=g.map some∧ops[i]? =some p∧ir.map (fun i=>ops[i]?)=r.map some:=by
 subst hl
 rw[List.map_append,List.map_cons]at hi
 obtain⟨ig,it,rfl,h1,h2⟩:=List.map_eq_append_iff.1 hi
 obtain⟨i,ir,rfl,h3,h4⟩:=List.map_eq_cons_iff.1 h2
 exact⟨ig,i,ir,rfl,h1,h3,h4⟩
theorem nf.a7Q {g r:List Oper}{p:Oper}{a a' T9:Act}{v:Value}(h:nf g a a')(h':nf r (a'.put p.dst v) T9):nf (g++p::r) a T9:=h.app h'.put
theorem jn (G:FL P ops step X):∀(n:Nat) (α:Type) (ctx:Option (Nat×Bool)) (l:List Oper) (env:Env) (fin:Env→M α) (Q:α→Hp→Prop) (is R:List Nat) (a:Act) (w:World),
  is.map (fun i=>ops[i]?)=l.map some→jL P ops.toList step n α ctx l env fin w.heap Q→Ag env a→
  (∀env' a' w',Ag env' a'→Kept w w'→nf l a a'→fin env' w'.heap Q→X R a' w')→X (is++R) a w:=by
 intro n
 induction n with
 |zero=>intro α ctx l env fin Q is R a w hi aH;exact aH.elim
 |succ n ih=>
  intro α ctx l env fin Q is R a w hi aH ha K
  unfold jL at aH
  cases l with
  |nil=>
   have:is=[]:=by cases is<;>simp at hi ⊢
   subst this
   exact K env a w ha (.refl w) (.refl _ a) aH
  |cons o os=>
   simp only[]at aH
   cases hs:cK ctx o.guard with
   |true=>
    rw[hs]at aH
    simp only[]at aH
    cases hc:lJ ops.toList ctx env with
    |false=>rw[hc]at aH;exact aH.elim
    |true=>
     rw[hc]at aH
     simp only[]at aH
     cases is with
     |nil=>simp at hi
     |cons i is=>
      simp only[List.map_cons,List.cons.injEq]at hi
      refine G.step hi.1 (yC hs hc ha) aH ha fun v w' hk hv=>?_
      exact ih α ctx os _ fin Q is R _ w' hi.2 hv (ha.put o.dst v) fun env' a' w'' h1 h2 h3 h4=>K env' a' w'' h1 (hk.trans h2) h3.put h4
   |false=>
    rw[hs]at aH
    simp only[]at aH
    cases hg:o.guard with
    |none=>rw[hg]at aH;exact aH.elim
    |some g=>
     obtain⟨j,want⟩:=g
     rw[hg]at aH
     simp only[]at aH
     cases hj:cB ops.toList j with
     |none=>rw[hj]at aH;exact aH.elim
     |some c=>
      rw[hj]at aH
      simp only[]at aH
      cases hl:look env c with
      |none=>rw[hl]at aH;exact aH.elim
      |some v=>
       rw[hl]at aH
       cases v<;>first|exact aH.elim|skip
       rename_i b
       simp only[]at aH
       have hcb:a.tmps[c]? =some (.bool b):=ha.at_ _ _ hl
       cases Ua:cutAt ctx (o::os) with
       |mk ue rest=>
        rw[Ua]at aH
        cases rest with
        |nil=>exact aH.elim
        |cons pk rest=>
         simp only[]at aH
         cases hpk:uO want c pk.op with
         |none=>rw[hpk]at aH;exact aH.elim
         |some x=>
          rw[hpk]at aH
          cases hsk:pf ops.toList c (j,want) [] ue with
          |false=>rw[hsk]at aH;exact aH.elim
          |true=>
           rw[hsk]at aH
           cases hch:lJ ops.toList ctx (ij env ue) with
           |false=>rw[hch]at aH;exact aH.elim
           |true=>
            rw[hch]at aH
            simp only[]at aH
            have b5w:=CJ ctx Ua
            have hpg:=u3 ctx Ua
            obtain⟨ig,ip,ir,rfl,hig,hip,hir⟩:=K4 hi b5w
            have d3f:=u4 ue [] hsk
            rw[List.append_assoc]
            have tail:∀(r:Bool) (a':Act) (w':World),Kept w w'→nf ue a a'→((b=want∧a'.eval x= .bool r)∨(b≠want∧r=b))→
              jL P ops.toList step n α ctx rest (put (ij env ue) pk.dst (some (.bool r))) fin w'.heap Q→X (ip::ir++R) a' w':=by
             intro r a' w' hk haw hr kS
             have hag:=ha.e5T haw
             have e5U:a'.tmps[c]? =some (.bool b):=by rw[haw.same c d3f];exact hcb
             refine G.value hip (yC hpg hch hag) (fun w=>FM hpk e5U hr w) ?_
             refine ih α ctx rest _ fin Q ir R _ w' hir kS (hag.put pk.dst _) fun env' T9 w'' h1 h2 h3 h4=>K env' T9 w'' h1 (hk.trans h2) ?_ h4
             rw[b5w]
             exact haw.a7Q h3
            cases Tx:uP P (j,want) ue (pc env c (some (.bool want))) x with
            |some v=>
             rw[Tx]at aH
             simp only[]at aH
             by_cases hb:b=want
             ·unfold uP at Tx
              cases hal:nv (some (j,want)) ue with
              |false=>rw[hal]at Tx;cases Tx
              |true=>
               rw[hal]at Tx
               simp only[]at Tx
               cases hep:rI P ue (pc env c (some (.bool want))) with
               |none=>rw[hep]at Tx;cases Tx
               |some env'=>
                rw[hep]at Tx
                simp only[]at Tx
                have hox:fF env' x=some (.bool v):=by
                 revert Tx
                 cases fF env' x with
                 |none=>intro h;cases h
                 |some u=>cases u<;>intro h<;>simp at h;rw[h]
                refine u5 G hj ue ig _ _ env' a w hig hal d3f hep (ha.set (by rw[hcb,hb])) (by rw[hcb,hb]) fun a' h1 h2=>?_
                refine tail _ a' w (.refl w) h2 (.inl ⟨hb,?_⟩) aH
                rw[h1.eval hox]
                subst hb
                cases b<;>rfl
             ·refine pw G hj hb ue [] ig _ a w hig hsk hcb (by simp) fun a' h1 _=>?_
              refine tail _ a' w (.refl w) h1 (.inr ⟨hb,?_⟩) aH
              cases b<;>cases want<;>simp_all [comb]
            |none=>
             rw[Tx]at aH
             simp only[]at aH
             by_cases hb:b=want
             ·have lC:jL P ops.toList step n Bool (some (j,want)) ue (pc env c (some (.bool want))) (fun env'=>FA env' x) w.heap
                (fun r h'=>jL P ops.toList step n α ctx rest (put (ij env ue) pk.dst (some (.bool r))) fin h' Q):=by
               subst hb
               cases b<;>exact aH
              refine ih Bool (some (j,want)) ue _ _ _ ig _ a w hig lC (ha.set (by rw[hcb,hb])) fun env' a' w' h1 h2 h3 h4=>?_
              unfold FA at h4
              cases hox:fF env' x with
              |none=>rw[hox]at h4;exact h4.elim
              |some u=>
               rw[hox]at h4
               cases u<;>first|exact h4.elim|skip
               rename_i r
               exact tail r a' w' h2 h3 (.inl ⟨hb,h1.eval hox⟩) h4
             ·refine pw G hj hb ue [] ig _ a w hig hsk hcb (by simp) fun a' h1 _=>?_
              refine tail b a' w (.refl w) h1 (.inr ⟨hb,rfl⟩) ?_
              cases b<;>cases want<;>first|exact aH|exact absurd rfl hb
end goes
end Go.Sb
end
section
namespace Go.Sb
open Go
section whole
variable {P:Program}{α:Type}
theorem AN (ops:Array Oper)(Qx:Exit→Act→World→Prop):FL P ops (fun _ env o kk=>ee P env o kk) (wpOps P ops Qx) where
 skip {i is o a w} ho hw h:=by
  rw[wpOps_cons];unfold wpOp;simp only[ho,hw,Bool.false_eq_true,if_false];exact h
 value {i is o a w v} ho hw hr h:=by
  rw[wpOps_cons];unfold wpOp;simp only[ho,hw,if_true];exact .inl (bV (hr w) h)
 step {i is o a w β env kk Q} ho hw aH ha hn:=by
  rw[wpOps_cons];unfold wpOp;simp only[ho,hw,if_true];exact .inl (iV aH ha hn)
def Alike (w:World)(w':World):Prop:=w'.heap=w.heap∧Kept w w'
theorem CK {w0:World}{β:Type}{env:Env}{o:Oper}{kk:Value→M β}{Q:β→Hp→Prop}{a:Act}(aH:yy P β env o kk w0.heap Q)(ha:Ag env a):
  ∃v,(∀w,Alike w0 w→o.quietAt P a (Alike w0) w v)∧kk v w0.heap Q:=by
 have hval:∀v,(∀w:World,w.heap=w0.heap→(execOp a.eval o).run P w= .ok (.value v) w)→∀w,Alike w0 w→o.quietAt P a (Alike w0) w v:=by
  intro v hv w hw
  unfold Oper.quietAt
  rw[hv w hw.1]
  exact⟨rfl,rfl⟩
 unfold yy at aH
 cases hp:cJ P env o with
 |some v=>
  rw[hp]at aH
  exact⟨v,hval v fun w _=>dw hp ha w,aH⟩
 |none=>
  rw[hp]at aH
  clear hp
  obtain⟨dst,op,type,pos,after,guard⟩:=o
  have gen:∀op',op=op'→(match er op' with
   |true=>ee P env ⟨dst,op,type,pos,after,guard⟩ kk
   |false=>aN) w0.heap Q→∃v,(∀w,Alike w0 w→Oper.quietAt P ⟨dst,op,type,pos,after,guard⟩ a (Alike w0) w v)∧kk v w0.heap Q:=by
   intro op' he hh
   subst he
   cases hq:er op with
   |false=>rw[hq]at hh;exact hh.elim
   |true=>
    rw[hq]at hh
    obtain⟨v,h1,h2⟩:=iU hh ha hq
    exact⟨v,hval v fun w hw=>h1 w fun _=>hw,h2⟩
  cases op<;>first|exact gen _ rfl aH|skip
  rename_i c
  obtain⟨callee,args,argTypes⟩:=c
  cases callee<;>first|exact gen _ rfl aH|skip
  rename_i f
  generalize hm:(match fF env f,iS env args.toList with
   |some (.func (.func g) first cap),some vs=>TY P g (first++vs.toArray++cap) fun v=>I6 P type v kk
   |_,_=>aN)=m at*
  have aH:m w0.heap Q:=by rw[←hm];exact aH
  split at hm<;>first|(subst hm;exact aH.elim)|skip
  rename_i g first cap vs hf hvs
  subst hm
  obtain⟨v,h1,h2⟩:=aH
  rcases h1 with h1|⟨v',h1,rfl,-⟩|h1
  ·refine⟨v,fun w hw=>?_,fe h2⟩
   unfold Oper.quietAt
   have hrun:(execOp a.eval ⟨dst,.call ⟨.value f,args,argTypes⟩,type,pos,after,guard⟩).run P w= .ok (.enter g (first++vs.toArray++cap)) w:=by
    simp only[execOp,resolve,ha.eval hf,cQ ha hvs,Deferred.ofValue,Sem.run_bind,Sem.run_pure,Result.andThen_ok,invoke]
    exact h1.1 _ w
   rw[hrun]
   refine⟨rfl,(h1.2 w hw.1).mono ?_⟩
   rintro e w' ⟨u,rfl,hk,rfl,hh⟩
   exact⟨rfl,hh,hw.2.trans hk⟩
  ·refine⟨v',fun w hw=>?_,fe h2⟩
   unfold Oper.quietAt
   have hrun:(execOp a.eval ⟨dst,.call ⟨.value f,args,argTypes⟩,type,pos,after,guard⟩).run P w= .ok (.value v') w:=by
    simp only[execOp,resolve,ha.eval hf,cQ ha hvs,Deferred.ofValue,Sem.run_bind,Sem.run_pure,Result.andThen_ok,invoke]
    exact h1 w hw.1
   rw[hrun]
   exact⟨rfl,rfl⟩
  ·obtain⟨_,w',_,_,h4,_,h5⟩:=h1 w0 rfl
   rw[h5]at h4
   exact absurd h4 (Nat.lt_irrefl _)
theorem u6 (ops:Array Oper)(w0:World)(Qf:Act→Prop):
  FL P ops (yy P) (fun is a w=>Alike w0 w→wpQuiet P ops (Alike w0) Qf (is.filterMap fun i=>ops[i]?) a) where
 skip {i is o a w} ho hw h:=by
  intro hA
  simp only[List.filterMap_cons,ho]
  unfold wpQuiet
  simp only[hw,Bool.false_eq_true,if_false]
  exact h hA
 value {i is o a w v} ho hw hr h:=by
  intro hA
  simp only[List.filterMap_cons,ho]
  unfold wpQuiet
  simp only[hw,if_true]
  exact⟨v,fun w' hw'=>by unfold Oper.quietAt;rw[hr w'];exact⟨rfl,rfl⟩,h hA⟩
 step {i is o a w β env kk Q} ho hw aH ha hn:=by
  intro hA
  simp only[List.filterMap_cons,ho]
  unfold wpQuiet
  simp only[hw,if_true]
  rw[hA.1]at aH
  obtain⟨v,h1,h2⟩:=CK (w0:=w0) aH ha
  exact⟨v,h1,hn v w (.refl w) (hA.1 ▸ h2) hA⟩
theorem lN (ops:Array Oper):(List.range ops.size).map (fun i=>ops[i]?)=ops.toList.map some:=by
 apply List.ext_getElem (by simp)
 intro i h1 h2
 simp at h1 h2 ⊢
theorem AO (ops:Array Oper):(List.range ops.size).filterMap (fun i=>ops[i]?)=ops.toList:=by
 have h:(List.range ops.size).filterMap (fun i=>ops[i]?)=((List.range ops.size).map (fun i=>ops[i]?)).filterMap id:=by
  rw[List.filterMap_map];rfl
 rw[h,lN]
 simp
theorem lD {env:Env}{a:Act}{h:Hp}{Q:Value→Hp→Prop}(ha:Ag env a){g:ResultVar→Sem Value}(hg:∀t,g (.tmp t)=pure (a.tmps.getD t undef))(hg':∀x t,g (.cell x t)=do loadVar t (←asAddr (a.tmps.getD x undef))):
  ∀(rs:List ResultVar) (acc:List Value) (k:List Value→M Value),my P env rs acc k h Q→∃vs,(∀w:World,w.heap=h→(rs.mapM g).run P w= .ok vs w)∧k (acc++vs) h Q
 |[],acc,k,hh=>⟨[],fun w _=>by simp,by rw[List.append_nil];exact hh⟩
 | .tmp t::rs,acc,k,hh=>by
  simp only[my]at hh
  cases hl:look env t with
  |none=>rw[hl]at hh;exact hh.elim
  |some v=>
   rw[hl]at hh
   obtain⟨vs,h1,h2⟩:=lD ha hg hg' rs _ k hh
   refine⟨v::vs,fun w hw=>?_,by simpa using h2⟩
   rw[List.mapM_cons,hg]
   have:a.tmps.getD t undef=v:=by simp[ha.at_ _ _ hl]
   simp only[this,Sem.run_bind,Sem.run_pure,Result.andThen_ok,h1 w hw]
 | .cell x t::rs,acc,k,hh=>by
  simp only[my]at hh
  cases hl:look env x with
  |none=>rw[hl]at hh;exact hh.elim
  |some v=>
   rw[hl]at hh
   cases v<;>first|exact hh.elim|skip
   rename_i p
   cases p with
   |none=>exact hh.elim
   |some ad=>
    have hh:TV P t ad (fun v=>my P env rs (acc++[v]) k) h Q:=hh
    obtain⟨v,h3,h4⟩:=og hh
    obtain⟨vs,h1,h2⟩:=lD ha hg hg' rs _ k h4
    refine⟨v::vs,fun w hw=>?_,by simpa using h2⟩
    rw[List.mapM_cons,hg']
    have:a.tmps.getD x undef= .pointer (some ad):=by simp[ha.at_ _ _ hl]
    simp only[this,asAddr,Sem.run_bind,Sem.run_pure,Result.andThen_ok,h3 w hw,h1 w hw]
theorem u7 {env:Env}{a:Act}{w:World}{fn:Func}{Q:Value→Hp→Prop}(ha:Ag env a)(h:a7N P env fn.results.toList w.heap Q):∃v,(results fn a.tmps).run P w= .ok v w∧Q v w.heap:=by
 unfold a7N at h
 obtain⟨vs,h1,h2⟩:=lD (g:=fun
  | .tmp t=>pure (a.tmps.getD t undef)
  | .cell x t=>do loadVar t (←asAddr (a.tmps.getD x undef))) ha (fun _=>rfl) (fun _ _=>rfl) _ _ _ h
 rw[List.nil_append]at h2
 have hres:(results fn a.tmps).run P w= .ok (if h:vs.toArray.size=1 then vs.toArray[0] else .tuple vs.toArray) w:=by
  unfold results
  rw[Array.mapM_eq_mapM_toList]
  simp only[Sem.run_bind,Sem.run_map]
  have:=h1 w rfl
  erw [this]
  rfl
 match vs,h2,hres with
 |[],h,hres=>exact⟨_,hres,h⟩
 |[v],h,hres=>exact⟨_,hres,h⟩
 |v::u::vs,h,hres=>
  refine⟨_,hres,?_⟩
  rw[dif_neg (by simp)]
  exact h
theorem CL {h:Hp}{a:Addr}{v:Value}(hc:hcell h a=some v):a.block<h.size:=by
 unfold hcell at hc
 rcases Nat.lt_or_ge a.block h.size with hl|hl
 ·exact hl
 ·rw[Array.getElem?_eq_none hl]at hc
  cases hc
theorem qD {h h':Hp}{a:Addr}{v:Value}(hc:hcell h a=some v)(hu:ck h.size h h'):hcell h' a=some v:=by
 rw[hu.cell (CL hc)];exact hc
theorem Ja {t:TypeId}{a:Addr}{k:Value→M α}{h:Hp}{Q:α→Hp→Prop}(hh:ld1 P t a k h Q):∃v,k v h Q∧∀(h':Hp) (k':Value→M α) (Q':α→Hp→Prop),ck h.size h h'→k' v h' Q'→ld1 P t a k' h' Q':=by
 unfold ld1 at hh ⊢
 cases hu:P.underlying t with
 |none=>
  rw[hu]at hh
  obtain⟨n,h1,h2⟩:=hh
  exact⟨_,h2,fun h' k' Q' Jc hk=>⟨n,qD h1 Jc,hk⟩⟩
 |some d=>
  rw[hu]at hh
  cases d<;>first
   |(obtain⟨n,h1,h2⟩:=hh;exact⟨_,h2,fun h' k' Q' Jc hk=>⟨n,qD h1 Jc,hk⟩⟩)
   |(obtain⟨g,f,c,h1,h2⟩:=hh;exact⟨_,h2,fun h' k' Q' Jc hk=>⟨g,f,c,qD h1 Jc,hk⟩⟩)
theorem sK {a:Addr}{h:Hp}{Q:α→Hp→Prop}:∀(ts:List TypeId) (i:Nat) (acc:Array Value) (k:Array Value→M α),n7 P a ts i acc k h Q→
  ∃cs,k cs h Q∧∀(h':Hp) (k':Array Value→M α) (Q':α→Hp→Prop),ck h.size h h'→k' cs h' Q'→n7 P a ts i acc k' h' Q'
 |[],i,acc,k,hh=>⟨acc,hh,fun h' k' Q' _ hk=>hk⟩
 |t::ts,i,acc,k,hh=>by
  obtain⟨v,h1,h2⟩:=Ja hh
  obtain⟨cs,h3,h4⟩:=sK ts (i+1) (acc.push v) k h1
  exact⟨cs,h3,fun h' k' Q' Jc hk=>h2 h' (fun v=>n7 P a ts (i+1) (acc.push v) k') Q' Jc (h4 h' k' Q' Jc hk)⟩
theorem yD {a:Addr}{h h':Hp}(hu:ck h.size h h'):∀(n i:Nat) (vs:List Value),hcells h a i n=some vs→hcells h' a i n=some vs
 |0,i,vs,hh=>by simpa[hcells]using hh
 |n+1,i,vs,hh=>by
  simp only[hcells]at hh ⊢
  split at hh
  ·rename_i v vs' h1 h2
   rw[qD h1 hu,yD hu n (i+1) vs' h2]
   exact hh
  ·cases hh
theorem a7R {t:TypeId}{a:Addr}{k:Value→M α}{h:Hp}{Q:α→Hp→Prop}(hh:TV P t a k h Q):∃v,k v h Q∧∀(h':Hp) (k':Value→M α) (Q':α→Hp→Prop),ck h.size h h'→k' v h' Q'→TV P t a k' h' Q':=by
 unfold TV at hh ⊢
 cases hd:P.underlying t with
 |none=>rw[hd]at hh;exact hh.elim
 |some d=>
  rw[hd]at hh
  cases nA:lB P t with
  |true=>
   simp only[nA]at hh ⊢
   cases hn:cI P t with
   |none=>rw[hn]at hh;exact hh.elim
   |some n=>
    rw[hn]at hh
    obtain⟨cs,h1,h2⟩:=hh
    exact⟨_,h2,fun h' k' Q' Jc hk=>⟨cs,yD Jc _ _ _ h1,hk⟩⟩
  |false=>
  simp only[nA]at hh ⊢
  cases dH:en P t with
  |true=>
   simp only[dH,if_true]at hh ⊢
   cases hk:uL P 20 t with
   |none=>rw[hk]at hh;exact hh.elim
   |some ks=>cases hn:cI P t with
    |none=>rw[hk,hn]at hh;exact hh.elim
    |some n=>
     rw[hk,hn]at hh
     by_cases hlen:ks.length=n
     ·simp only[hlen,if_true]at hh ⊢
      obtain⟨cs,h1,h2⟩:=sK _ _ _ _ hh
      exact⟨.agg cs,h1,fun h' k' Q' Jc hk=>h2 h' (fun cs=>k' (.agg cs)) Q' Jc hk⟩
     ·simp only[hlen,if_false]at hh;exact hh.elim
  |false=>
   simp only[dH,Bool.false_eq_true,if_false]at hh ⊢
   exact Ja hh
theorem yE {t:TypeId}{a:Addr}{k:Value→M α}{h:Hp}{Q:α→Hp→Prop}(hh:TV P t a k h Q):∃v,(∀w:World,ck h.size h w.heap→(loadVar t a).run P w= .ok v w)∧k v h Q:=by
 obtain⟨v,hk,hg⟩:=a7R hh
 refine⟨v,fun w hu=>?_,hk⟩
 obtain⟨v',h1,h2⟩:=og (hg w.heap (fun u _ _=>u=v) Q hu rfl)
 have h2:v'=v:=h2
 rw[←h2]
 exact h1 w rfl
def Grown (w:World)(w':World):Prop:=ck w.heap.size w.heap w'.heap∧Kept w w'
theorem CM {w0:World}{β:Type}{env:Env}{o:Oper}{kk:Value→M β}{Q:β→Hp→Prop}{a:Act}(aH:I7 P β env o kk w0.heap Q)(ha:Ag env a):
  ∃v,(∀w,Grown w0 w→o.quietAt P a (Grown w0) w v)∧kk v w0.heap Q:=by
 have hval:∀v,(∀w:World,ck w0.heap.size w0.heap w.heap→(execOp a.eval o).run P w= .ok (.value v) w)→∀w,Grown w0 w→o.quietAt P a (Grown w0) w v:=by
  intro v hv w hw
  unfold Oper.quietAt
  rw[hv w hw.1]
  exact⟨rfl,rfl⟩
 unfold I7 at aH
 cases hp:cJ P env o with
 |some v=>
  rw[hp]at aH
  exact⟨v,hval v fun w _=>dw hp ha w,aH⟩
 |none=>
  rw[hp]at aH
  obtain⟨dst,op,type,pos,after,guard⟩:=o
  have gen:∀op',op=op'→lK op'=false→(match fb op'||lK op' with
   |true=>ee P env ⟨dst,op,type,pos,after,guard⟩ kk
   |false=>aN) w0.heap Q→∃v,(∀w,Grown w0 w→Oper.quietAt P ⟨dst,op,type,pos,after,guard⟩ a (Grown w0) w v)∧kk v w0.heap Q:=by
   intro op' he hl hh
   subst he
   rw[hl,Bool.or_false]at hh
   cases hq:fb op with
   |false=>rw[hq]at hh;exact hh.elim
   |true=>
    rw[hq]at hh
    have h3:er op=true:=by cases op<;>first|rfl|cases hq
    have h4:ph op=false:=by cases op<;>first|rfl|cases hq
    obtain⟨v,h1,h2⟩:=iU hh ha h3
    exact⟨v,hval v fun w _=>h1 w fun hl=>(by rw[h4]at hl;cases hl),h2⟩
  cases op<;>first|exact gen _ rfl rfl aH|skip
  case load t x=>
   have aH:ee P env ⟨dst,.load t x,type,pos,after,guard⟩ kk w0.heap Q:=aH
   generalize hm:ee P env ⟨dst,.load t x,type,pos,after,guard⟩ kk=m at aH
   unfold ee at hm
   rw[hp]at hm
   simp only[]at hm
   split at hm<;>first|(subst hm;exact aH.elim)|skip
   rename_i p hx
   subst hm
   cases p with
   |none=>exact aH.elim
   |some ad=>
    obtain⟨v,h1,h2⟩:=yE aH
    refine⟨v,hval v fun w hw=>?_,h2⟩
    simp only[execOp,ha.eval hx]
    exact Sem.aO _ w (by simp only[Instr.loadAt,Instr.sureAddr,Sem.run_bind,Sem.run_pure,Result.andThen_ok];exact h1 w hw)
  case call c=>
   obtain⟨callee,args,argTypes⟩:=c
   cases callee<;>first|exact gen _ rfl rfl aH|skip
   rename_i f
   generalize hm:(match fF env f,iS env args.toList with
    |some (.func (.func g) first cap),some vs=>TZ P g (first++vs.toArray++cap) fun v=>I6 P type v kk
    |_,_=>aN)=m at*
   have aH:m w0.heap Q:=by rw[←hm];exact aH
   split at hm<;>first|(subst hm;exact aH.elim)|skip
   rename_i g first cap vs hf hvs
   subst hm
   obtain⟨hcall,v,h1,h2⟩:=aH
   refine⟨v,fun w hw=>?_,fe h2⟩
   unfold Oper.quietAt
   have hrun:(execOp a.eval ⟨dst,.call ⟨.value f,args,argTypes⟩,type,pos,after,guard⟩).run P w= .ok (.enter g (first++vs.toArray++cap)) w:=by
    simp only[execOp,resolve,ha.eval hf,cQ ha hvs,Deferred.ofValue,Sem.run_bind,Sem.run_pure,Result.andThen_ok,invoke]
    exact hcall _ w
   rw[hrun]
   have hno:∀(u:Value) (w':World),(callFunc g (first++vs.toArray++cap)).run P w= .ok (.value u) w'→False:=by
    intro u w' he
    rw[hcall _ w]at he
    cases he
   rcases h1 w.heap hw.1 with h1|⟨v',h1,_⟩|h1
   ·refine⟨rfl,(h1.2 w rfl).mono ?_⟩
    rintro e w' ⟨u,rfl,hk,rfl,hh⟩
    exact⟨rfl,hh,hw.2.trans hk⟩
   ·exact (hno _ _ (h1 w rfl)).elim
   ·obtain⟨_,_,h5,_⟩:=h1 w rfl
    exact (hno _ _ h5).elim
theorem FN (ops:Array Oper)(w0:World)(Qf:Act→Prop):
  FL P ops (I7 P) (fun is a w=>w.heap=w0.heap∧Kept w0 w→wpQuiet P ops (Grown w0) Qf (is.filterMap fun i=>ops[i]?) a) where
 skip {i is o a w} ho hw h:=by
  intro hA
  simp only[List.filterMap_cons,ho]
  unfold wpQuiet
  simp only[hw,Bool.false_eq_true,if_false]
  exact h hA
 value {i is o a w v} ho hw hr h:=by
  intro hA
  simp only[List.filterMap_cons,ho]
  unfold wpQuiet
  simp only[hw,if_true]
  exact⟨v,fun w' hw'=>by unfold Oper.quietAt;rw[hr w'];exact⟨rfl,rfl⟩,h hA⟩
 step {i is o a w β env kk Q} ho hw aH ha hn:=by
  intro hA
  simp only[List.filterMap_cons,ho]
  unfold wpQuiet
  simp only[hw,if_true]
  rw[hA.1]at aH
  obtain⟨v,h1,h2⟩:=CM (w0:=w0) aH ha
  exact⟨v,h1,hn v w (.refl w) (hA.1 ▸ h2) hA⟩
end whole
end Go.Sb
end
section
namespace Go.Sb
open Go
section draws
variable {P:Program}{ops:Array Oper}
theorem CN {i:Nat}{o:Oper}(hi:ops[i]? =some o){env:Env}{a:Act}{w:World}{k:Env→M Value}{Q:Value→Hp→Prop}{next:Act→World→Prop}{Qx:Exit→Act→World→Prop}
  (aH:uQ P ops.toList o env k w.heap Q) (ha:Ag env a) (hn:∀env' a' w',Ag env' a'→Kept w w'→k env' w'.heap Q→next a' w'):wpOp P ops Qx i next a w:=by
 unfold wpOp
 simp only[hi]
 unfold uQ at aH
 cases hg:o.guard with
 |none=>
  rw[hg]at aH
  have hw:Region.wanted o (yielded ops a.tmps)=true:=by unfold Region.wanted;rw[hg]
  simp only[hw,if_true]
  exact .inl (iV aH ha fun v w' hk hv=>hn _ _ _ (ha.put o.dst v) hk hv)
 |some g=>
  obtain⟨j,want⟩:=g
  rw[hg]at aH
  simp only[]at aH
  have yF:Region.wanted o (yielded ops a.tmps)=(yielded ops a.tmps j == some want):=by unfold Region.wanted;rw[hg]
  cases hj:cB ops.toList j with
  |none=>rw[hj]at aH;exact aH.elim
  |some c=>
   rw[hj]at aH
   simp only[]at aH
   cases hl:look env c with
   |none=>rw[hl]at aH;exact aH.elim
   |some v=>
    rw[hl]at aH
    have hc:=ha.at_ _ _ hl
    cases v<;>first|exact aH.elim|skip
    case tuple vs=>
     have hy:yielded ops a.tmps j=none:=by
      unfold yielded;rw[iq hj,Option.bind_some,hc]
     have hw:Region.wanted o (yielded ops a.tmps)=false:=by rw[yF,hy];rfl
     simp only[hw,Bool.false_eq_true,if_false]
     exact hn _ _ _ (ha.put o.dst undef) (.refl w) aH
    case bool b=>
     have hy:=gh (tmps:=a.tmps) hj hc
     rw[hy]at yF
     simp only[]at aH
     have gA:=ha.set hc
     cases want<;>cases b
     ·have hw:Region.wanted o (yielded ops a.tmps)=true:=by rw[yF];rfl
      simp only[hw,if_true]
      exact .inl (iV aH gA fun v w' hk hv=>hn _ _ _ (gA.put o.dst v) hk hv)
     ·have hw:Region.wanted o (yielded ops a.tmps)=false:=by rw[yF];rfl
      simp only[hw,Bool.false_eq_true,if_false]
      exact hn _ _ _ (gA.put o.dst undef) (.refl w) aH
     ·have hw:Region.wanted o (yielded ops a.tmps)=false:=by rw[yF];rfl
      simp only[hw,Bool.false_eq_true,if_false]
      exact hn _ _ _ (gA.put o.dst undef) (.refl w) aH
     ·have hw:Region.wanted o (yielded ops a.tmps)=true:=by rw[yF];rfl
      simp only[hw,if_true]
      exact .inl (iV aH gA fun v w' hk hv=>hn _ _ _ (gA.put o.dst v) hk hv)
theorem qE {env:Env}{k:Nat→Env→M Value}{h:Hp}{Q:Value→Hp→Prop}:∀(rs:List Nat),uR P ops.toList env k rs h Q→∀i∈rs,∃o,ops[i]? =some o∧uQ P ops.toList o env (k i) h Q
 |[],hh=>hh.elim
 |[i],hh=>by
  simp only[uR]at hh
  intro j hj
  simp only[List.mem_singleton]at hj
  subst hj
  cases ho:ops.toList[j]? with
  |none=>rw[ho]at hh;exact hh.elim
  |some o=>rw[ho]at hh;exact⟨o,by rw[←Array.getElem?_toList];exact ho,hh⟩
 |i::i'::is,hh=>by
  simp only[uR]at hh
  cases ho:ops.toList[i]? with
  |none=>rw[ho]at hh;exact hh.elim
  |some o=>
   rw[ho]at hh
   intro j hj
   rcases List.mem_cons.1 hj with rfl|hj
   ·exact⟨o,by rw[←Array.getElem?_toList];exact ho,hh.1⟩
   ·exact qE (i'::is) hh.2 j hj
theorem qF {listed:Array Bool}{env:Env}{i:Nat}:∀(is:List Nat),od P ops listed env is=some i→i∈is∧∃o,ops[i]? =some o∧pj ops.toList env o.guard=true∧Region.free .any ops listed i=true∧((cJ P env o).isSome||fb o.op)=true
 |[],h=>by simp[od]at h
 |j::js,h=>by
  unfold od at h
  cases ho:ops.toList[j]? with
  |none=>simp[ho]at h
  |some o=>
   simp only[ho]at h
   split at h
   ·rename_i h1 h2 h3
    cases h
    exact⟨by simp,o,by rw[←Array.getElem?_toList];exact ho,h1,h2,h3⟩
   ·obtain⟨h1,h2⟩:=qF js h
    exact⟨by simp[h1],h2⟩
theorem tR {op:Op}(h:fb op=true):er op=true∧ph op=false:=by
 cases op<;>simp_all [fb,er,ph]
theorem CO:∀(env:Env) (c:Nat)(x:Value),look env c=some x→pc env c (some x)=env
 |[],_,_,h=>by simp[look]at h
 |y::ys,0,x,h=>by simp only[look]at h;simp[pc,h]
 |y::ys,c+1,x,h=>by simp only[look]at h;simp only[pc];rw[CO ys c x h]
theorem kU (hs:Region.noSelect ops=true){R:Act→World→Prop}{fin:Env→M Value}{Q:Value→Hp→Prop}:∀(n:Nat) (listed:Array Bool) (env:Env) (a:Act) (w:World),oN P ops n listed env fin w.heap Q→Ag env a→
  (∀env' a' w',Ag env' a'→Kept w w'→fin env' w'.heap Q→R a' w')→wpAny P .any ops (fun e a w=>e= .normal∧R a w) n listed a w
 |0,listed,env,a,w,aH,ha,hn=>by
  unfold oN at aH
  cases hr:Region.ready .any ops listed with
  |nil=>rw[hr]at aH;exact⟨hr,rfl,hn _ _ _ ha (.refl w) aH⟩
  |cons r rs=>rw[hr]at aH;exact aH.elim
 |n+1,listed,env,a,w,aH,ha,hn=>by
  unfold oN at aH
  cases hr:Region.ready .any ops listed with
  |nil=>rw[hr]at aH;exact wpAny_done hr ⟨rfl,hn _ _ _ ha (.refl w) aH⟩ _
  |cons r rs=>
   rw[hr]at aH
   simp only[]at aH
   cases hf:od P ops listed env (r::rs) with
   |some i=>
    rw[hf]at aH
    obtain⟨Ub,o,ho,hg,hfree,hk⟩:=qF _ hf
    have AP:ops.toList[i]? =some o:=by rw[Array.getElem?_toList];exact ho
    simp only[AP]at aH
    have take:∀{v:Value} {env':Env},((Region.wanted o (yielded ops a.tmps)=true∧∀w:World,(execOp a.eval o).run P w= .ok (.value v) w)∨(Region.wanted o (yielded ops a.tmps)=false∧v=undef))→Ag env' (a.put o.dst v)→oN P ops n (listed.setIfInBounds i true) env' fin w.heap Q→wpAny P .any ops (fun e a w=>e= .normal∧R a w) (n+1) listed a w:=by
     intro v env' hy hag h2
     refine wpAny_take ho hs hfree (by rw[hr];simpa using Ub) (by rintro c a w ⟨h,_⟩;cases h) hy ?_
     exact kU hs n _ _ _ w h2 hag hn
    have yes:Region.wanted o (yielded ops a.tmps)=true→(ee P env o fun v=>oN P ops n (listed.setIfInBounds i true) (put env o.dst (some v)) fin) w.heap Q→wpAny P .any ops (fun e a w=>e= .normal∧R a w) (n+1) listed a w:=by
     intro hw aH
     obtain⟨v,h1,h2⟩:∃v,(∀w:World,(execOp a.eval o).run P w= .ok (.value v) w)∧oN P ops n (listed.setIfInBounds i true) (put env o.dst (some v)) fin w.heap Q:=by
      cases hp:cJ P env o with
      |some v=>
       unfold ee at aH
       rw[hp]at aH
       exact⟨v,fun w=>dw hp ha w,aH⟩
      |none=>
       rw[hp]at hk
       obtain⟨hq,hl⟩:=tR (by simpa using hk)
       obtain⟨v,h1,h2⟩:=iU aH ha hq
       exact⟨v,fun w=>h1 w (by rw[hl];intro h;cases h),h2⟩
     exact take (.inl ⟨hw,h1⟩) (ha.put o.dst v) h2
    unfold uQ at aH
    cases hgd:o.guard with
    |none=>
     rw[hgd]at aH
     exact yes (by unfold Region.wanted;rw[hgd]) aH
    |some g=>
     obtain⟨j,want⟩:=g
     rw[hgd]at aH hg
     simp only[pj]at aH hg
     have yF:Region.wanted o (yielded ops a.tmps)=(yielded ops a.tmps j == some want):=by unfold Region.wanted;rw[hgd]
     cases hj:cB ops.toList j with
     |none=>rw[hj]at aH;exact aH.elim
     |some c=>
      rw[hj]at aH
      simp only[]at aH
      cases hl:look env c with
      |none=>rw[hl]at aH;exact aH.elim
      |some v=>
       rw[hl]at aH
       have hc:=ha.at_ _ _ hl
       cases v<;>first|exact aH.elim|skip
       case tuple vs=>
        have hy:yielded ops a.tmps j=none:=by
         unfold yielded;rw[iq hj,Option.bind_some,hc]
        have hw:Region.wanted o (yielded ops a.tmps)=false:=by rw[yF,hy];rfl
        exact take (.inr ⟨hw,rfl⟩) (ha.put o.dst undef) aH
       case bool b=>
        have hy:=gh (tmps:=a.tmps) hj hc
        rw[hy]at yF
        simp only[]at aH
        have Jd:∀x,look env c=some x→pc env c (some x)=env:=fun x hx=>CO env c x hx
        cases want<;>cases b<;>simp only[aI]at aH
        ·rw[Jd _ hl]at aH
         exact yes (by rw[yF];rfl) aH
        ·rw[Jd _ hl]at aH
         exact take (.inr ⟨by rw[yF];rfl,rfl⟩) (ha.put o.dst undef) aH
        ·rw[Jd _ hl]at aH
         exact take (.inr ⟨by rw[yF];rfl,rfl⟩) (ha.put o.dst undef) aH
        ·rw[Jd _ hl]at aH
         exact yes (by rw[yF];rfl) aH
   |none=>
    rw[hf]at aH
    simp only[]at aH
    refine wpAny_all hr (by simp) fun i hi=>?_
    obtain⟨o,ho,hone⟩:=qE _ aH i hi
    exact CN ho hone ha fun env' a' w' h1 h2 h3=>kU hs n _ _ _ w' h3 h1 fun uT T9 w'' h4 h5 h6=>hn _ _ _ h4 (h2.trans h5) h6
section head
variable {C:World→Prop}{Hd:Nat→Bool}{L:Array Bool→Act→Prop}
def px (P:Program)(ops:Array Oper)(C:World→Prop)(Hd:Nat→Bool)(L:Array Bool→Act→Prop):Nat→Array Bool→Act→Prop
 |0,listed,a=>L listed a
 |f+1,listed,a=>Region.ready .any ops listed≠[]∧∀i∈Region.ready .any ops listed,Hd i=true∧qOp P ops C i (px P ops C Hd L f (listed.setIfInBounds i true)) a
theorem py {g:Nat}{Q':Exit→Act→World→Prop}(hL:∀listed a w,C w→L listed a→wpAny P .any ops Q' g listed a w):
  ∀(f:Nat) (listed:Array Bool) (a:Act) (w:World),C w→px P ops C Hd L f listed a→wpAny P .any ops Q' (f+g) listed a w
 |0,listed,a,w,hw,h=>by rw[Nat.zero_add];exact hL _ _ _ hw h
 |f+1,listed,a,w,hw,h=>by
  rw[show f+1+g=(f+g)+1 by omega]
  exact⟨fun h0=>absurd h0 h.1,fun i hi=>wpOp_of_qOp hw (fun a' w' hw' h'=>py hL f _ a' w' hw' h') (h.2 i hi).2⟩
theorem AQ {i:Nat}{oi:Oper}{v:Value}(hi:ops[i]? =some oi)(hsel:∀(j:Nat) (o:Oper) cs b,ops[j]? =some o→o.op≠.select cs b)(hin:Hd i=true)
  (Je:∀j oj,ops[j]? =some oj→Hd j=false→∃e∈oj.after,Region.binds .any e=true∧e.on=i) (hdone:∀listed a,L listed a→∀j∈Region.ready .any ops listed,Hd j=false):
  ∀(f:Nat) (listed:Array Bool) (a:Act),
   (∀j oj,ops[j]? =some oj→j≠i→listed.getD j true=false→(∀e∈oj.after,Region.binds .any e=true→e.on≠i)→oi.apart ops oj=true)→
   i∈Region.ready .any ops listed→YieldsIn P ops C oi v a→
   px P ops C Hd L f (listed.setIfInBounds i true) (a.put oi.dst v)→px P ops C Hd L (f+1) listed a:=by
 have AR:∀(listed:Array Bool),i∈Region.ready .any ops listed→∀j∈Region.ready .any ops listed,Hd j=true:=by
  intro listed hr j hj
  cases hh:Hd j with
  |true=>rfl
  |false=>
   obtain⟨_,oj,FO,hall⟩:=mem_ready.1 hj
   obtain⟨e,he,hb,oS⟩:=Je j oj FO hh
   have h1:=hall e he hb
   have h0:=(mem_ready.1 hr).1
   rw[oS]at h1
   rcases Nat.lt_or_ge i listed.size with h'|h'
   ·simp[h']at h0 h1;rw[h0]at h1;cases h1
   ·simp[Array.getElem?_eq_none h']at h1
 intro f
 induction f with
 |zero=>
  intro listed a _ hr hy H
  refine⟨fun h=>(by rw[h]at hr;cases hr),fun j hj=>⟨AR listed hr j hj,?_⟩⟩
  by_cases u9:j=i
  ·subst u9;exact hy.qOp hi H
  ·have h1:=hdone _ _ H j (ready_mono hj u9)
   rw[AR listed hr j hj]at h1
   cases h1
 |succ f ih=>
  intro listed a hfree hr hy H
  refine⟨fun h=>(by rw[h]at hr;cases hr),fun j hj=>⟨AR listed hr j hj,?_⟩⟩
  by_cases u9:j=i
  ·subst u9;exact hy.qOp hi H
  ·have h1:=(H.2 j (ready_mono hj u9)).2
   obtain⟨d3g,oj,FO,hall⟩:=mem_ready.1 hj
   have e5V:∀e∈oj.after,Region.binds .any e=true→e.on≠i:=fun e he hb heq=>by
    have h1:=hall e he hb
    have h0:=(mem_ready.1 hr).1
    rw[heq]at h1
    rcases Nat.lt_or_ge i listed.size with h'|h'
    ·simp[h']at h0 h1;rw[h0]at h1;cases h1
    ·simp[Array.getElem?_eq_none h']at h1
   have h2:=qOp_put FO (hfree j oj FO u9 d3g e5V) (fun cs b=>hsel i oi cs b hi) (fun cs b=>hsel j oj cs b FO) hy h1
   have b7o:∀k ok,ops[k]? =some ok→k≠i→(listed.setIfInBounds j true).getD k true=false→
     (∀e∈ok.after,Region.binds .any e=true→e.on≠i)→oi.apart ops ok=true:=fun k ok hk AS hun hno=>by
    refine hfree k ok hk AS ?_ hno
    by_cases hjk:j=k
    ·subst hjk;exact d3g
    ·rw[getD_set_ne true hjk]at hun;exact hun
   refine qOp_mono (fun a' h3=>ih (listed.setIfInBounds j true) a' b7o (ready_mono hr (Ne.symm u9)) h3.1 ?_) h2
   rw[Array.setIfInBounds_comm _ _ u9]
   exact h3.2
theorem pz (hs:Region.noSelect ops=true)(Je:∀i,Hd i=true→∀j oj,ops[j]? =some oj→Hd j=false→∃e∈oj.after,Region.binds .any e=true∧e.on=i)
  (hdone:∀listed a,L listed a→∀j∈Region.ready .any ops listed,Hd j=false) {Qf:Act→Prop}:∀(hd:List Nat) (l:List Oper) (listed:Array Bool) (a:Act),jM ops.toList hd=some l→(∀i∈hd,Hd i=true)→
  xL ops hd listed=true→(∀a',Qf a'→L (marksOf listed hd) a')→wpQuiet P ops C Qf l a→px P ops C Hd L hd.length listed a
 |[],l,listed,a,hl,_,_,hQ,h=>by
  simp only[jM,Option.some.injEq]at hl
  subst hl
  exact hQ _ h
 |k::ks,l,listed,a,hl,hH,hB,hQ,h=>by
  simp only[jM]at hl
  split at hl
  ·rename_i o os ho hos
   cases hl
   have h0:ops[k]? =some o:=by rw[←Array.getElem?_toList];exact ho
   simp only[xL,Bool.and_eq_true]at hB
   obtain⟨⟨hr,hf⟩,hB'⟩:=hB
   have hst:qOp P ops C k (wpQuiet P ops C Qf os) a:=by unfold qOp;simp only[h0];exact h
   obtain⟨v,hy,hK⟩:=yieldsIn_of_qOp h0 hst
   exact AQ h0 (Region.noSelect_spec hs) (hH k (by simp)) (Je k (hH k (by simp))) hdone ks.length listed a (Region.free_spec h0 hf) (by simpa using hr) hy
    (pz hs Je hdone ks os _ _ hos (fun i hi=>hH i (by simp[hi])) hB' hQ hK)
  ·cases hl
end head
theorem fQ:∀(hd:List Nat) (listed:Array Bool),(∀i,listed.getD i false=true→(marksOf listed hd).getD i false=true)∧(marksOf listed hd).size=listed.size∧∀i∈hd,i<listed.size→(marksOf listed hd).getD i false=true
 |[],listed=>⟨fun _ h=>h,rfl,by simp⟩
 |k::ks,listed=>by
  obtain⟨h1,h2,h3⟩:=fQ ks (listed.setIfInBounds k true)
  refine⟨fun i hi=>h1 i (getD_set_true hi),by rw[marksOf,h2];simp,?_⟩
  intro i hi hlt
  rcases List.mem_cons.1 hi with rfl|hi
  ·exact h1 _ (by simp[hlt])
  ·exact h3 i hi (by simpa using hlt)
theorem iW:∀(hd:List Nat) (l:List Oper),jM ops.toList hd=some l→hd.map (fun i=>ops[i]?)=l.map some
 |[],l,h=>by simp[jM]at h;subst h;rfl
 |k::ks,l,h=>by
  simp only[jM]at h
  split at h
  ·rename_i o os ho hos
   cases h
   rw[Array.getElem?_toList]at ho
   simp[ho,iW ks os hos]
  ·cases h
theorem AT (hmix:P.follows .mixedOrders=true){rid:Nat}{hd:List Nat}{env:Env}{fin:Env→M Value}{a:Act}{w:World}{Q:Value→Hp→Prop}{R:Act→World→Prop}(aH:AK P ops hd env fin w.heap Q)(ha:Ag env a)
  (hn:∀env' a' w',Ag env' a'→Kept w w'→fin env' w'.heap Q→R a' w'):(Code.region rid ops true).wp P (fun e a w=>e= .normal∧R a w) a w:=by
 unfold AK at aH
 cases hB:(xL ops hd (Array.replicate ops.size false)&&Region.noSelect ops&&yz ops hd&&hd.all (fun i=>decide (i<ops.size))&&decide (hd.length≤ops.size)) with
 |false=>rw[hB]at aH;exact aH.elim
 |true=>
  rw[hB]at aH
  cases fG:jM ops.toList hd with
  |none=>rw[fG]at aH;exact aH.elim
  |some l=>
   rw[fG]at aH
   simp only[]at aH
   simp only[Bool.and_eq_true,List.all_eq_true,decide_eq_true_eq]at hB
   obtain⟨⟨⟨⟨Uc,Ud⟩,Ue⟩,hlt⟩,hle⟩:=hB
   let L:Array Bool→Act→Prop:=fun listed a'=>listed=marksOf (Array.replicate ops.size false) hd∧∀w',Alike w w'→wpAny P .any ops (fun e a w=>e= .normal∧R a w) (ops.size-hd.length) listed a' w'
   have hquiet:=jn (u6 (P:=P) ops w (fun a'=>L (marksOf (Array.replicate ops.size false) hd) a')) _ Value none l env _ Q hd [] a w (iW hd l fG) aH ha
    fun env' a' w' h1 h2 _ h4 hA=>⟨rfl,fun w'' hA'=>kU Ud _ _ _ _ w'' (by rw[hA'.1,←hA.1];exact h4) h1 fun uT T9 w3 h5 h6 h7=>hn _ _ _ h5 (hA'.2.trans h6) h7⟩
   have hq:=hquiet ⟨rfl,.refl w⟩
   rw[List.append_nil]at hq
   have hfm:hd.filterMap (fun i=>ops[i]?)=l:=by
    have:hd.filterMap (fun i=>ops[i]?)=(hd.map (fun i=>ops[i]?)).filterMap id:=by rw[List.filterMap_map];rfl
    rw[this,iW hd l fG];simp
   rw[hfm]at hq
   have hT:px P ops (Alike w) (fun i=>hd.contains i) L hd.length (Array.replicate ops.size false) a:=by
    refine pz Ud ?_ ?_ hd l _ a fG (fun i hi=>by simpa using hi) Uc (fun a' h=>h) hq
    ·intro i hi j oj FO hj
     unfold yz at Ue
     rw[List.all_eq_true]at Ue
     have b7p:j<ops.size:=(Array.getElem?_eq_some_iff.1 FO).1
     have h1:=Ue j (List.mem_range.2 b7p)
     simp only[hj,Bool.false_or,List.all_eq_true]at h1
     have h2:=h1 i (by simpa using hi)
     have:ops.toList[j]? =some oj:=by rw[Array.getElem?_toList];exact FO
     simp only[this]at h2
     obtain⟨e,he,hb⟩:=Array.any_eq_true'.1 h2
     simp only[Bool.and_eq_true,beq_iff_eq]at hb
     exact⟨e,he,hb.1,hb.2⟩
    ·rintro listed a' ⟨rfl,_⟩ j hj
     cases hc:hd.contains j with
     |false=>rfl
     |true=>
      have hjm:j∈hd:=by simpa using hc
      have hl:=(fQ hd (Array.replicate ops.size false)).2.2 j hjm (by simpa using hlt j hjm)
      have h0:=(mem_ready.1 hj).1
      have hsz:=(fQ hd (Array.replicate ops.size false)).2.1
      have:j<(marksOf (Array.replicate ops.size false) hd).size:=by rw[hsz];simpa using hlt j hjm
      simp[this]at h0 hl
      rw[h0]at hl;cases hl
   refine wp_region_any hmix ?_
   have hA:=py (P:=P) (ops:=ops) (Hd:=fun i=>hd.contains i) (C:=Alike w) (L:=L) (g:=ops.size-hd.length) (Q':=fun e a w=>e= .normal∧R a w) (fun listed a' w' hw' hL=>hL.2 w' hw') hd.length (Array.replicate ops.size false) a { w with drawn:=w.drawn+1} ⟨rfl,rfl,rfl,rfl⟩ hT
   rwa [show hd.length+(ops.size-hd.length)=ops.size by omega]at hA
theorem xV (hmix:P.follows .mixedOrders=true){rid:Nat}{hd:List Nat}{env:Env}{fin:Env→M Value}{a:Act}{w:World}{Q:Value→Hp→Prop}{R:Act→World→Prop}(aH:ug P ops hd env fin w.heap Q)(ha:Ag env a)
  (hn:∀env' a' w',Ag env' a'→Kept w w'→fin env' w'.heap Q→R a' w'):(Code.region rid ops true).wp P (fun e a w=>e= .normal∧R a w) a w:=by
 unfold ug at aH
 cases hB:(xL ops hd (Array.replicate ops.size false)&&Region.noSelect ops&&yz ops hd&&hd.all (fun i=>decide (i<ops.size))&&decide (hd.length≤ops.size)) with
 |false=>rw[hB]at aH;exact aH.elim
 |true=>
  rw[hB]at aH
  cases fG:jM ops.toList hd with
  |none=>rw[fG]at aH;exact aH.elim
  |some l=>
   rw[fG]at aH
   simp only[]at aH
   simp only[Bool.and_eq_true,List.all_eq_true,decide_eq_true_eq]at hB
   obtain⟨⟨⟨⟨Uc,Ud⟩,Ue⟩,hlt⟩,hle⟩:=hB
   let L:Array Bool→Act→Prop:=fun listed a'=>listed=marksOf (Array.replicate ops.size false) hd∧∀w',Grown w w'→wpAny P .any ops (fun e a w=>e= .normal∧R a w) (ops.size-hd.length) listed a' w'
   have hquiet:=jn (FN (P:=P) ops w (fun a'=>L (marksOf (Array.replicate ops.size false) hd) a')) _ Value none l env _ Q hd [] a w (iW hd l fG) aH ha
    fun env' a' w' h1 h2 _ h4 hA=>⟨rfl,fun w'' hA'=>kU Ud _ _ _ _ w'' (h4 w''.heap (by rw[hA.1];exact hA'.1)) h1 fun uT T9 w3 h5 h6 h7=>hn _ _ _ h5 (hA'.2.trans h6) h7⟩
   have hq:=hquiet ⟨rfl,.refl w⟩
   rw[List.append_nil]at hq
   have hfm:hd.filterMap (fun i=>ops[i]?)=l:=by
    have:hd.filterMap (fun i=>ops[i]?)=(hd.map (fun i=>ops[i]?)).filterMap id:=by rw[List.filterMap_map];rfl
    rw[this,iW hd l fG];simp
   rw[hfm]at hq
   have hT:px P ops (Grown w) (fun i=>hd.contains i) L hd.length (Array.replicate ops.size false) a:=by
    refine pz Ud ?_ ?_ hd l _ a fG (fun i hi=>by simpa using hi) Uc (fun a' h=>h) hq
    ·intro i hi j oj FO hj
     unfold yz at Ue
     rw[List.all_eq_true]at Ue
     have b7p:j<ops.size:=(Array.getElem?_eq_some_iff.1 FO).1
     have h1:=Ue j (List.mem_range.2 b7p)
     simp only[hj,Bool.false_or,List.all_eq_true]at h1
     have h2:=h1 i (by simpa using hi)
     have:ops.toList[j]? =some oj:=by rw[Array.getElem?_toList];exact FO
     simp only[this]at h2
     obtain⟨e,he,hb⟩:=Array.any_eq_true'.1 h2
     simp only[Bool.and_eq_true,beq_iff_eq]at hb
     exact⟨e,he,hb.1,hb.2⟩
    ·rintro listed a' ⟨rfl,_⟩ j hj
     cases hc:hd.contains j with
     |false=>rfl
     |true=>
      have hjm:j∈hd:=by simpa using hc
      have hl:=(fQ hd (Array.replicate ops.size false)).2.2 j hjm (by simpa using hlt j hjm)
      have h0:=(mem_ready.1 hj).1
      have hsz:=(fQ hd (Array.replicate ops.size false)).2.1
      have:j<(marksOf (Array.replicate ops.size false) hd).size:=by rw[hsz];simpa using hlt j hjm
      simp[this]at h0 hl
      rw[h0]at hl;cases hl
   refine wp_region_any hmix ?_
   have hA:=py (P:=P) (ops:=ops) (Hd:=fun i=>hd.contains i) (C:=Grown w) (L:=L) (g:=ops.size-hd.length) (Q':=fun e a w=>e= .normal∧R a w) (fun listed a' w' hw' hL=>hL.2 w' hw') hd.length (Array.replicate ops.size false) a { w with drawn:=w.drawn+1} ⟨.refl _ _,rfl,rfl,rfl⟩ hT
   rwa [show hd.length+(ops.size-hd.length)=ops.size by omega]at hA
end draws
end Go.Sb
end
section
namespace Go.Sb
open Go
section par
variable {P:Program}{ops:Array Oper}{S:World→Prop}
theorem CP {w0:World}{β:Type}{env:Env}{o:Oper}{kk:Value→M β}{Q:β→Hp→Prop}{a:Act}(aH:I8 P β env o kk w0.heap Q)(ha:Ag env a):
  ∃v,(∀w,Grown w0 w→(execOp a.eval o).run P w= .ok (.value v) w)∧kk v w0.heap Q:=by
 unfold I8 at aH
 cases hp:cJ P env o with
 |some v=>
  rw[hp]at aH
  exact⟨v,fun w _=>dw hp ha w,aH⟩
 |none=>
  rw[hp]at aH
  obtain⟨dst,op,type,pos,after,guard⟩:=o
  have gen:∀op',op=op'→lK op'=false→(match fb op'||lK op' with
   |true=>ee P env ⟨dst,op,type,pos,after,guard⟩ kk
   |false=>aN) w0.heap Q→∃v,(∀w,Grown w0 w→(execOp a.eval ⟨dst,op,type,pos,after,guard⟩).run P w= .ok (.value v) w)∧kk v w0.heap Q:=by
   intro op' he hl hh
   subst he
   rw[hl,Bool.or_false]at hh
   cases hq:fb op with
   |false=>rw[hq]at hh;exact hh.elim
   |true=>
    rw[hq]at hh
    have h3:er op=true:=by cases op<;>first|rfl|cases hq
    have h4:ph op=false:=by cases op<;>first|rfl|cases hq
    obtain⟨v,h1,h2⟩:=iU hh ha h3
    exact⟨v,fun w _=>h1 w fun hl=>(by rw[h4]at hl;cases hl),h2⟩
  cases op<;>first|exact gen _ rfl rfl aH|skip
  case load t x=>
   have aH:ee P env ⟨dst,.load t x,type,pos,after,guard⟩ kk w0.heap Q:=aH
   generalize hm:ee P env ⟨dst,.load t x,type,pos,after,guard⟩ kk=m at aH
   unfold ee at hm
   rw[hp]at hm
   simp only[]at hm
   split at hm<;>first|(subst hm;exact aH.elim)|skip
   rename_i p hx
   subst hm
   cases p with
   |none=>exact aH.elim
   |some ad=>
    obtain⟨v,h1,h2⟩:=yE aH
    refine⟨v,fun w hw=>?_,h2⟩
    simp only[execOp,ha.eval hx]
    exact Sem.aO _ w (by simp only[Instr.loadAt,Instr.sureAddr,Sem.run_bind,Sem.run_pure,Result.andThen_ok];exact h1 w hw.1)
def vc (P:Program)(ops:Array Oper)(S:World→Prop)(Qf:Act→Prop):List Oper→Act→Prop
 |[],a=>Qf a
 |o::rest,a=>∃v,YieldsIf P ops S o v a∧vc P ops S Qf rest (a.put o.dst v)
theorem CQ (ops:Array Oper)(w0:World)(Qf:Act→Prop):
  FL P ops (I8 P) (fun is a w=>w.heap=w0.heap∧Kept w0 w→vc P ops (Grown w0) Qf (is.filterMap fun i=>ops[i]?) a) where
 skip {i is o a w} ho hw h:=by
  intro hA
  simp only[List.filterMap_cons,ho]
  exact⟨undef,.inr ⟨hw,rfl⟩,h hA⟩
 value {i is o a w v} ho hw hr h:=by
  intro hA
  simp only[List.filterMap_cons,ho]
  exact⟨v,.inl ⟨hw,fun w' _=>hr w'⟩,h hA⟩
 step {i is o a w β env kk Q} ho hw aH ha hn:=by
  intro hA
  simp only[List.filterMap_cons,ho]
  rw[hA.1]at aH
  obtain⟨v,h1,h2⟩:=CP (w0:=w0) aH ha
  exact⟨v,.inl ⟨hw,h1⟩,hn v w (.refl w) (hA.1 ▸ h2) hA⟩
theorem CR {Q:Exit→Act→World→Prop}(hs:Region.noSelect ops=true)(hQ:∀c a w,¬Q (.panic c) a w){Qf:Act→Prop}{w:World}(hS:S w){n:Nat}:∀(hd:List Nat) (l:List Oper) (listed:Array Bool) (a:Act),jM ops.toList hd=some l→
  xL ops hd listed=true→(∀a',Qf a'→wpAnyH P .any ops Q S n (marksOf listed hd) a' w)→vc P ops S Qf l a→wpAnyH P .any ops Q S (hd.length+n) listed a w
 |[],l,listed,a,hl,_,hk,h=>by
  simp only[jM,Option.some.injEq]at hl
  subst hl
  rw[List.length_nil,Nat.zero_add]
  exact hk _ h
 |k::ks,l,listed,a,hl,hB,hk,h=>by
  simp only[jM]at hl
  split at hl
  ·rename_i o os ho hos
   cases hl
   have h0:ops[k]? =some o:=by rw[←Array.getElem?_toList];exact ho
   simp only[xL,Bool.and_eq_true]at hB
   obtain⟨⟨hr,hf⟩,hB'⟩:=hB
   obtain⟨v,hy,h⟩:=h
   rw[List.length_cons,show ks.length+1+n=(ks.length+n)+1 by omega]
   exact wpAnyH_take h0 hs hf hr (fun c a w h=>(hQ _ _ _ h).elim) hy hS (CR hs hQ hS ks os _ _ hos hB' hk h)
  ·cases hl
theorem ve (h:Hp)(o:Obj):ck h.size h (h.push o):=⟨by simp,fun b hb=>by rw[Array.getElem?_push,if_neg (by omega)]⟩
theorem vf {A B:Nat}{h h':Hp}(hu:ck B h h')(hl:A≤B):ck A h h':=⟨hu.size,fun b hb=>hu.at_ b (Nat.lt_of_lt_of_le hb hl)⟩
theorem K5 {o:Oper}{v:Value}{α:Type}{k:Value→M α}{h:Hp}{Q:α→Hp→Prop}(hh:unG P o v k h Q):k v h Q:=by
 obtain⟨dst,op,type,pos,after,guard⟩:=o
 cases op<;>first|exact hh.elim|skip
 case call c=>exact fe hh
 all_goals
  cases v<;>first|exact hh.elim|exact hh
theorem sL {Q:Exit→Act→World→Prop}{w0:World}{fin:Env→M Value}{Qv:Value→Hp→Prop}(vg:∀env a w,Ag env a→Grown w0 w→fin env w.heap Qv→Q .normal a w):
  ∀(tl:List Nat) (listed:Array Bool) (env:Env) (a:Act) (w:World),uS ops tl listed=true→pq P ops.toList tl env fin w.heap Qv→Ag env a→Grown w0 w→wpAnyH P .any ops Q (Grown w0) tl.length listed a w
 |[],listed,env,a,w,hc,aH,ha,hw=>by
  unfold uS at hc
  split at hc
  ·rename_i hr
   exact⟨hr,vg _ _ _ ha hw aH⟩
  ·cases hc
 |k::ks,listed,env,a,w,hc,aH,ha,hw=>by
  unfold uS at hc
  rw[Bool.and_eq_true]at hc
  obtain⟨h1,h2⟩:=hc
  have hr:Region.ready .any ops listed=[k]:=by
   split at h1
   ·rename_i j hj
    rw[hj]
    have:j=k:=by simpa using h1
    rw[this]
   ·cases h1
  unfold pq at aH
  cases ho:ops.toList[k]? with
  |none=>rw[ho]at aH;exact aH.elim
  |some o=>
   rw[ho]at aH
   simp only[]at aH
   have h0:ops[k]? =some o:=by rw[←Array.getElem?_toList];exact ho
   cases hg:o.guard with
   |some g=>rw[hg]at aH;exact aH.elim
   |none=>
    rw[hg]at aH
    cases ht:Cx o.op with
    |false=>rw[ht]at aH;exact aH.elim
    |true=>
     rw[ht]at aH
     simp only[]at aH
     refine wpAnyH_all hr (by simp) fun i hi=>?_
     have hi:i=k:=by simpa using hi
     subst hi
     unfold wpOp
     simp only[h0]
     have hwt:Region.wanted o (yielded ops a.tmps)=true:=by unfold Region.wanted;rw[hg]
     simp only[hwt,if_true]
     left
     have keep:∀(v:Value) (w':World),Kept w w'→ck w.heap.size w.heap w'.heap→pq P ops.toList ks (put env o.dst (some v)) fin w'.heap Qv→(Grown w0 w'∧wpAnyH P .any ops Q (Grown w0) ks.length (listed.setIfInBounds i true) (a.put o.dst v) w'):=by
      intro v w' hk hu h3
      have hg':Grown w0 w':=⟨hw.1.trans (vf hu hw.1.size),hw.2.trans hk⟩
      exact⟨hg',sL vg ks _ _ _ _ h2 h3 (ha.put o.dst v) hg'⟩
     cases hp:cJ P env o with
     |some v=>
      unfold ee at aH
      rw[hp]at aH
      exact bV (dw hp ha w) (keep v w (.refl w) (.refl _ _) aH)
     |none=>
      obtain⟨dst,op,type,pos,after,guard⟩:=o
      generalize hm:ee P env ⟨dst,op,type,pos,after,guard⟩ (fun v=>pq P ops.toList ks (put env dst (some v)) fin)=m at aH
      unfold ee at hm
      rw[hp]at hm
      cases op<;>first|(cases ht;done)|(subst hm;exact aH.elim)|skip
      case alloc T=>
       simp only[]at hm
       split at hm<;>first|(subst hm;exact aH.elim)|skip
       rename_i z hz
       subst hm
       refine bV (v:=.pointer (some ⟨w.heap.size,0,none⟩)) (w':={ w with heap:=w.heap.push (.cells z.cells T)}) ?_ (keep _ _ (Kept.heap w _) (ve _ _) aH)
       simp only[execOp]
       refine Sem.aO _ w ?_
       simp[Instr.alloc,cE hz,newVar,newRow]
      case box T x=>
       simp only[]at hm
       split at hm<;>first|(subst hm;exact aH.elim)|skip
       rename_i v hx
       subst hm
       refine bV (v:=.pointer (some ⟨w.heap.size,0,none⟩)) (w':={ w with heap:=w.heap.push (.cells v.cells T)}) ?_ (keep _ _ (Kept.heap w _) (ve _ _) aH)
       simp only[execOp,ha.eval hx]
       refine Sem.aO _ w ?_
       simp[Instr.box,newVar,newRow]
theorem mB:∀(l:List Nat) (L:Array Bool) (j:Nat),j<L.size→(marksOf L l).getD j false=(L.getD j false||l.contains j)
 |[],L,j,h=>by simp[marksOf]
 |k::ks,L,j,h=>by
  rw[marksOf,mB ks _ j (by simpa using h)]
  by_cases hk:k=j
  ·subst hk;simp[h]
  ·rw[getD_set_ne false hk]
   have:¬j=k:=fun h=>hk h.symm
   simp[this]
theorem kn:∀(l:List Nat) (L:Array Bool),(marksOf L l).size=L.size
 |[],L=>rfl
 |k::ks,L=>by rw[marksOf,kn ks];simp
theorem qG {ol:List Oper}{hd:List Nat}:∀{gs AU:List Nat},gsB ol hd AU gs=true→∀kR g aft,gs=kR++g::aft→∃o d,ol[g]? =some o∧o.guard=none∧o.dst=some d∧(∀e∈o.after,Region.binds .any e=true→hd.contains e.on=true∨e.on∈AU∨e.on∈kR)∧hd.contains g=false∧g∉AU∧g∉kR
 |[],_,_,kR,g,aft,hg=>by cases kR<;>cases hg
 |x::xs,AU,h,kR,g,aft,hg=>by
  unfold gsB at h
  simp only[Bool.and_eq_true,Bool.not_eq_true']at h
  obtain⟨⟨⟨h1,h2⟩,h3⟩,h4⟩:=h
  have h3:x∉AU:=by simpa using h3
  cases kR with
  |nil=>
   simp only[List.nil_append,List.cons.injEq]at hg
   obtain⟨rfl,rfl⟩:=hg
   split at h1
   ·rename_i o ho
    simp only[Bool.and_eq_true]at h1
    obtain⟨⟨h5,h6⟩,h7⟩:=h1
    obtain⟨d,Uf⟩:=Option.isSome_iff_exists.1 h6
    refine⟨o,d,ho,by simpa using h5,Uf,fun e he hb=>?_,h2,h3,by simp⟩
    rw[Array.all_eq_true']at h7
    have:=h7 e he
    simp only[hb,Bool.not_true,Bool.false_or,Bool.or_eq_true]at this
    rcases this with h|h
    ·exact .inl h
    ·exact .inr (.inl (by simpa using h))
   ·cases h1
  |cons y ys=>
   simp only[List.cons_append,List.cons.injEq]at hg
   obtain⟨rfl,rfl⟩:=hg
   obtain⟨o,d,k1,k2,k3,k4,k5,k6,k7⟩:=qG h4 ys g aft rfl
   refine⟨o,d,k1,k2,k3,fun e he hb=>?_,k5,fun h=>k6 (by simp[h]),?_⟩
   ·rcases k4 e he hb with h|h|h
    ·exact .inl h
    ·rcases List.mem_cons.1 h with rfl|h
     ·exact .inr (.inr (by simp))
     ·exact .inr (.inl h)
    ·exact .inr (.inr (by simp[h]))
   ·intro h
    rcases List.mem_cons.1 h with rfl|h
    ·exact k6 (by simp)
    ·exact k7 h
theorem vh {ol:List Oper}:∀{gs:List Nat},Cy ol gs=true→∀i∈gs,∀j∈gs,i≠j→oO ol i≠oO ol j
 |[],_,i,hi=>by cases hi
 |g::gs,h,i,hi=>by
  unfold Cy at h
  simp only[Bool.and_eq_true,List.all_eq_true,bne_iff_ne,ne_eq]at h
  intro j hj hij
  rcases List.mem_cons.1 hi with h1|h1
  ·rcases List.mem_cons.1 hj with h2|h2
   ·exact absurd (h1.trans h2.symm) hij
   ·rw[h1];exact fun he=>h.1 j h2 he.symm
  ·rcases List.mem_cons.1 hj with h2|h2
   ·rw[h2];exact h.1 i h1
   ·exact vh h.2 i h1 j h2 hij
theorem Ug {gs rem:List Nat}:(∃g∈gs,g∈rem)→∃kR g aft,gs=kR++g::aft∧g∈rem∧∀x∈kR,x∉rem:=by
 induction gs with
 |nil=>rintro ⟨g,hg,_⟩;cases hg
 |cons x xs ih=>
  rintro ⟨g,hg,hr⟩
  by_cases hx:x∈rem
  ·exact⟨[],x,xs,rfl,hx,by simp⟩
  ·have hg:g∈xs:=by
    rcases List.mem_cons.1 hg with rfl|h
    ·exact absurd hr hx
    ·exact h
   obtain⟨kR,g',aft,rfl,h1,h2⟩:=ih ⟨g,hg,hr⟩
   refine⟨x::kR,g',aft,rfl,h1,fun y hy=>?_⟩
   rcases List.mem_cons.1 hy with rfl|hy
   ·exact hx
   ·exact h2 y hy
theorem ko {env:Env}{i:Nat}:∀(rem:List Nat),(gN P ops.toList env rem).filter (fun y=> !(y.1 == i))=gN P ops.toList env (rem.filter fun j=> !(j == i))
 |[]=>rfl
 |x::xs=>by
  rw[gN,List.filter_cons,List.filter_cons]
  by_cases hx:x=i
  ·subst hx;simp[ko xs]
  ·have:(x == i)=false:=by simpa using hx
   simp[this,gN,ko xs]
theorem sM {env:Env}{i:Nat}{o:Oper}(ho:ops.toList[i]? =some o):∀{rem:List Nat},i∈rem→(i,ee P env o af)∈gN P ops.toList env rem
 |[],h=>by cases h
 |x::xs,h=>by
  rw[gN]
  rcases List.mem_cons.1 h with rfl|h
  ·rw[ho];exact List.mem_cons_self ..
  ·exact List.mem_cons_of_mem _ (sM ho h)
theorem vi {i:Nat}:∀{rem:List Nat},rem.Nodup→i∈rem→(rem.filter fun j=> !(j == i)).length+1=rem.length
 |[],_,h=>by cases h
 |x::xs,hn,h=>by
  rw[List.nodup_cons]at hn
  rw[List.filter_cons]
  by_cases hx:x=i
  ·subst hx
   have:xs.filter (fun j=> !(j == x))=xs:=List.filter_eq_self.2 fun y hy=>by
    have:y≠x:=fun h=>hn.1 (h ▸ hy)
    simpa using this
   simp[this]
  ·have hb:(x == i)=false:=by simpa using hx
   have hi:i∈xs:=by
    rcases List.mem_cons.1 h with rfl|h
    ·exact absurd rfl hx
    ·exact h
   simp[hb,vi hn.2 hi]
theorem vj {f:Nat→Value}{a:Act}{α:Type}{k:Env→M α}{h:Hp}{Q:α→Hp→Prop}:∀(gs:List Nat) (env:Env),T2 P ops.toList f gs env k h Q→Ag env a→(∀i∈gs,∃o d,ops.toList[i]? =some o∧o.dst=some d∧a.tmps[d]? =some (f i))→∃env',Ag env' a∧k env' h Q
 |[],env,hh,ha,_=>⟨env,ha,hh⟩
 |i::is,env,hh,ha,hg=>by
  obtain⟨o,d,ho,hd,ht⟩:=hg i (by simp)
  unfold T2 at hh
  rw[ho]at hh
  have hh:=K5 hh
  refine vj is _ hh ?_ fun j hj=>hg j (by simp[hj])
  rw[hd]
  exact ha.set ht
theorem Uh {Q:Exit→Act→World→Prop}{w0:World}{hd gs tl:List Nat}{env:Env}{kf:(Nat→Value)→M Value}{Qv:Value→Hp→Prop}(hhd:∀i∈hd,i<ops.size)(hgs:gsB ops.toList hd [] gs=true)(Ui:Cy ops.toList gs=true)(hfr:AL ops.toList env gs=true)
  (b7q:∀i,i<ops.size→i∈hd∨i∈gs∨i∈tl) (htl:∀j∈tl,∃o,ops.toList[j]? =some o∧((∀g∈gs,∃e∈o.after,Region.binds .any e=true∧e.on=g)∨∃e∈o.after,Region.binds .any e=true∧hd.contains e.on=false∧gs.contains e.on=false))
  (vg:∀f a w,(∀i∈gs,∃o d,ops.toList[i]? =some o∧o.dst=some d∧a.tmps[d]? =some (f i))→Ag env a→Grown w0 w→kf f w.heap Qv→wpAnyH P .any ops Q (Grown w0) tl.length (marksOf (marksOf (Array.replicate ops.size false) hd) gs) a w):
  ∀(n:Nat) (rem:List Nat) (f:Nat→Value) (listed:Array Bool) (a:Act) (w:World),(∀i∈rem,i∈gs)→rem.Nodup→rem.length≤n→listed.size=ops.size→(∀j,j<ops.size→listed.getD j false=(hd.contains j||(gs.contains j&& !rem.contains j)))→
   Ag env a→(∀i∈gs,i∉rem→a.tmps[oO ops.toList i]? =some (f i))→Grown w0 w→FC n (gN P ops.toList env rem) f kf w.heap Qv→wpAnyH P .any ops Q (Grown w0) (rem.length+tl.length) listed a w:=by
 have spec:∀i∈gs,∃o d,ops.toList[i]? =some o∧o.guard=none∧o.dst=some d∧hd.contains i=false∧i<ops.size∧oO ops.toList i=d∧look env d=none∧d<env.length:=by
  intro i hi
  obtain⟨x,y,hxy⟩:=List.append_of_mem hi
  obtain⟨o,d,k1,k2,k3,_,k5,_⟩:=qG hgs x i y hxy
  have hds:oO ops.toList i=d:=by unfold oO;rw[k1];simp only[k3]
  unfold AL at hfr
  rw[List.all_eq_true]at hfr
  have:=hfr i hi
  rw[hds]at this
  simp only[Bool.and_eq_true,decide_eq_true_eq]at this
  exact⟨o,d,k1,k2,k3,k5,by have:=(List.getElem?_eq_some_iff.1 k1).1;simpa using this,hds,by simpa using this.1,this.2⟩
 intro n
 induction n with
 |zero=>
  intro rem f listed a w lC hnd hlen hsz hl ha hf hw aH
  have:rem=[]:=by cases rem<;>simp at hlen ⊢
  subst this
  rw[List.length_nil,Nat.zero_add]
  have aH:kf f w.heap Qv:=aH
  have hL:listed=marksOf (marksOf (Array.replicate ops.size false) hd) gs:=by
   apply Array.ext
   ·rw[kn,kn];simpa using hsz
   ·intro j h1 h2
    have h3:=hl j (by omega)
    have h4:=mB gs (marksOf (Array.replicate ops.size false) hd) j (by rw[kn];simp;omega)
    rw[mB hd _ j (by simp;omega)]at h4
    simp only[Array.getD_eq_getD_getElem?,Array.getElem?_eq_getElem h1,Option.getD_some]at h3
    simp only[Array.getD_eq_getD_getElem?,Array.getElem?_eq_getElem h2,Option.getD_some]at h4
    rw[h3,h4]
    have:(Array.replicate ops.size false)[j]?.getD false=false:=by
     by_cases hj:j<ops.size<;>simp[hj]
    rw[this]
    simp
  rw[hL]
  exact vg f a w (fun i hi=>by
   obtain⟨o,d,k1,_,k3,_,_,k6,_⟩:=spec i hi
   exact⟨o,d,k1,k3,k6 ▸ hf i hi (by simp)⟩) ha hw aH
 |succ n ih=>
  intro rem f listed a w lC hnd hlen hsz hl ha hf hw aH
  by_cases a7S:rem=[]
  ·exact ih rem f listed a w lC hnd (by rw[a7S];simp) hsz hl ha hf hw (by rw[a7S]at aH ⊢;cases n<;>exact aH)
  ·obtain⟨g0,hg0⟩:=List.exists_mem_of_ne_nil rem a7S
   obtain⟨kR,g,aft,vk,hg,e5W⟩:=Ug ⟨g0,lC g0 hg0,hg0⟩
   obtain⟨rl,hrl⟩:∃k,rem.length=k+1:=⟨rem.length-1,by have:=List.length_pos_iff.2 a7S;omega⟩
   rw[hrl,show rl+1+tl.length=(rl+tl.length)+1 by omega]
   have CS:∀i∈gs,i<ops.size:=fun i hi=>by obtain⟨_,_,_,_,_,_,h,_⟩:=spec i hi;exact h
   refine wpAnyH_all rfl ?_ fun i hi=>?_
   ·
    have:g∈Region.ready .any ops listed:=by
     obtain⟨o,d,k1,k2,k3,k4,k5,_⟩:=qG hgs kR g aft vk
     have hgm:g∈gs:=by rw[vk];simp
     have hlt:=CS g hgm
     refine mem_ready.2 ⟨?_,o,by rw[←Array.getElem?_toList];exact k1,fun e he hb=>?_⟩
     ·have:=hl g hlt
      have h1:g<listed.size:=by omega
      simp only[Array.getD_eq_getD_getElem?,Array.getElem?_eq_getElem h1,Option.getD_some]at this ⊢
      rw[this,k5]
      simp[hg]
     ·rcases k4 e he hb with h|h|h
      ·rw[hl _ (hhd _ (by simpa using h)),h];rfl
      ·cases h
      ·have hem:e.on∈gs:=by rw[vk];simp[h]
       rw[hl _ (CS _ hem)]
       have h1:gs.contains e.on=true:=by simpa using hem
       have h2:rem.contains e.on=false:=by simpa using e5W _ h
       rw[h1,h2];simp
    intro h0
    rw[h0]at this
    cases this
   ·obtain⟨h1,o,ho,hall⟩:=mem_ready.1 hi
    have AP:ops.toList[i]? =some o:=by rw[Array.getElem?_toList];exact ho
    have Uj:i<ops.size:=(Array.getElem?_eq_some_iff.1 ho).1
    have hli:=hl i Uj
    have h1':i<listed.size:=by omega
    have h1:listed.getD i false=false:=by
     simp only[Array.getD_eq_getD_getElem?,Array.getElem?_eq_getElem h1',Option.getD_some]at h1 ⊢
     exact h1
    rw[h1]at hli
    have hli:=hli.symm
    simp only[Bool.or_eq_false_iff,Bool.and_eq_false_iff,Bool.not_eq_false']at hli
    obtain⟨hnh,hng⟩:=hli
    have hig:i∈gs:=by
     rcases b7q i Uj with h|h|h
     ·simp[h]at hnh
     ·exact h
     ·obtain⟨o2,ho2,hw2⟩:=htl i h
      rw[AP]at ho2
      cases ho2
      rcases hw2 with hw2|⟨e,he,hb,hn1,hn2⟩
      case inr=>
       have h3:=hall e he hb
       by_cases hlt:e.on<ops.size
       ·rw[hl e.on hlt,hn1,hn2]at h3
        cases h3
       ·rw[Array.getD_eq_getD_getElem?,Array.getElem?_eq_none (by omega)]at h3
        cases h3
      obtain⟨e,he,hb,oS⟩:=hw2 g (by rw[vk];simp)
      have h3:=hall e he hb
      have hgm:g∈gs:=by rw[vk];simp
      obtain⟨_,_,_,_,_,k5,e5X,_⟩:=spec g hgm
      rw[oS,hl g e5X,k5]at h3
      simp[hg]at h3
    have hir:i∈rem:=by
     rcases hng with h|h
     ·simp[hig]at h
     ·simpa using h
    obtain⟨o2,d,k1,k2,k3,k4,k5,k6,k7,k8⟩:=spec i hig
    rw[AP]at k1
    cases k1
    unfold wpOp
    simp only[ho]
    have hwt:Region.wanted o (yielded ops a.tmps)=true:=by unfold Region.wanted;rw[k2]
    simp only[hwt,if_true]
    left
    have T7:∀x∈gN P ops.toList env rem,x.2 w.heap fun v h'=>ck w.heap.size w.heap h'∧FC n ((gN P ops.toList env rem).filter fun y=> !(y.1 == x.1)) (fun j=>if j=x.1 then v else f j) kf h' Qv:=by
     cases hgr:gN P ops.toList env rem with
     |nil=>intro x hx;cases hx
     |cons c cs=>rw[hgr]at aH;exact aH
    have hcall:=T7 _ (sM AP hir)
    simp only[ko]at hcall
    refine iV hcall ha fun v w' hk hm=>?_
    obtain⟨hu,hm⟩:=hm
    have hw':Grown w0 w':=⟨hw.1.trans (vf hu hw.1.size),hw.2.trans hk⟩
    refine⟨hw',?_⟩
    have f3b:=vi hnd hir
    have htm:a.tmps.size=env.length:=ha.size.symm
    rw[show rl=(rem.filter fun j=> !(j == i)).length by omega]
    refine ih _ (fun j=>if j=i then v else f j) _ _ _ (fun j hj=>lC j (List.mem_filter.1 hj).1) (hnd.filter _) (by omega) (by simpa using hsz) (fun j hj=>?_) ⟨?_,fun j u hu2=>?_,?_⟩ (fun j hj hjr=>?_) hw' hm
    ·by_cases u9:i=j
     ·subst u9
      have h2:(listed.setIfInBounds i true).getD i false=true:=by simp[h1']
      rw[h2,k4]
      have h3:gs.contains i=true:=by simpa using hig
      rw[h3]
      simp
     ·rw[getD_set_ne false u9,hl j hj]
      have:(rem.filter fun j=> !(j == i)).contains j=rem.contains j:=by
       rw[Bool.eq_iff_iff]
       simp only[List.contains_iff_mem,List.mem_filter,Bool.not_eq_true',beq_eq_false_iff_ne]
       exact⟨fun h=>h.1,fun h=>⟨h,fun h=>u9 h.symm⟩⟩
      rw[this]
    ·rw[k3];simp[Act.put,ha.size]
    ·rw[k3,gB]
     have hjd:j≠d:=fun h=>by rw[h,k7]at hu2;cases hu2
     rw[if_neg (fun hc=>hjd (Option.some.inj hc.1).symm)]
     exact ha.at_ _ _ hu2
    ·rw[put_defers,ha.defers]
    ·rw[k3,gB]
     by_cases u9:j=i
     ·subst u9
      rw[k6,if_pos ⟨rfl,by rw[htm];exact k8⟩,if_pos rfl]
     ·have hne:=vh Ui j hj i hig u9
      rw[k6]at hne
      rw[if_neg (fun hc=>hne (Option.some.inj hc.1).symm),if_neg u9]
      refine hf j hj fun h=>hjr (List.mem_filter.2 ⟨h,by simpa using u9⟩)
theorem xW (hmix:P.follows .mixedOrders=true){rid:Nat}{hd gs tl:List Nat}{env:Env}{fin:Env→M Value}{a:Act}{w:World}{Q:Value→Hp→Prop}{R:Act→World→Prop}(aH:uh P ops hd gs tl env fin w.heap Q)(ha:Ag env a)
  (hn:∀env' a' w',Ag env' a'→Kept w w'→fin env' w'.heap Q→R a' w'):(Code.region rid ops true).wp P (fun e a w=>e= .normal∧R a w) a w:=by
 unfold uh at aH
 cases hB:vB ops hd gs tl with
 |false=>rw[hB]at aH;exact aH.elim
 |true=>
  rw[hB]at aH
  cases fG:jM ops.toList hd with
  |none=>rw[fG]at aH;exact aH.elim
  |some l=>
   rw[fG]at aH
   simp only[]at aH
   unfold vB at hB
   simp only[Bool.and_eq_true,List.all_eq_true,decide_eq_true_eq]at hB
   obtain⟨⟨⟨⟨⟨⟨⟨⟨Ud,Uc⟩,b7q⟩,hhd⟩,hgs⟩,Ui⟩,htl⟩,hch⟩,hlen⟩:=hB
   let Qe:Exit→Act→World→Prop:=fun e a w=>e= .normal∧R a w
   have hq:=jn (CQ (P:=P) ops w (fun a'=>wpAnyH P .any ops Qe (Grown w) (gs.length+tl.length) (marksOf (Array.replicate ops.size false) hd) a' { w with drawn:=w.drawn+1})) _ Value none l env _ Q hd [] a w (iW hd l fG) aH ha
    (fun env' a' w' h1 h2 _ h4 hA=>by
     cases hf:AL ops.toList env' gs with
     |false=>rw[hf]at h4;exact h4.elim
     |true=>
      rw[hf]at h4
      simp only[]at h4
      refine Uh (w0:=w) (Q:=Qe) (tl:=tl) (kf:=fun f=>T2 P ops.toList f gs env' fun uT=>pq P ops.toList tl uT fin) (Qv:=Q) hhd hgs Ui hf (fun i hi=>?_) (fun j hj=>?_) (fun f a3 w3 h5 h6 h7 h8=>?_) gs.length gs (fun _=>undef) _ a' _ (fun _ h=>h) ?_ (Nat.le_refl _) (by rw[kn];simp) (fun j hj=>?_) h1 (fun i hi hni=>absurd hi hni) ⟨.refl _ _,rfl,rfl,rfl⟩ (hA.1 ▸ h4)
      ·have:=b7q i (List.mem_range.2 hi)
       simp only[Bool.or_eq_true,List.contains_iff_mem]at this
       rcases this with (h|h)|h
       ·exact .inl h
       ·exact .inr (.inl h)
       ·exact .inr (.inr h)
      ·have:=htl j hj
       cases ho:ops.toList[j]? with
       |none=>rw[ho]at this;cases this
       |some o=>
        rw[ho]at this
        refine⟨o,rfl,?_⟩
        rcases (Bool.or_eq_true _ _).mp this with this|this
        case inr=>
         obtain⟨e,he,hb⟩:=Array.any_eq_true'.1 this
         simp only[Bool.and_eq_true,Bool.not_eq_true']at hb
         exact .inr ⟨e,he,hb.1,hb.2.1,hb.2.2⟩
        refine .inl fun g hg=>?_
        rw[List.all_eq_true]at this
        obtain⟨e,he,hb⟩:=Array.any_eq_true'.1 (this g hg)
        simp only[Bool.and_eq_true,beq_iff_eq]at hb
        exact⟨e,he,hb.1,hb.2⟩
      ·obtain⟨uT,h9,h10⟩:=vj gs env' h8 h6 h5
       exact sL (fun env3 a4 w4 k1 k2 k3=>⟨rfl,hn _ _ _ k1 k2.2 k3⟩) tl _ _ _ _ hch h10 h9 h7
      ·
       have:∀(AU gs:List Nat),gsB ops.toList hd AU gs=true→gs.Nodup:=by
        intro AU gs
        induction gs generalizing AU with
        |nil=>intro _;exact .nil
        |cons x xs ih=>
         intro h
         have h':=h
         unfold gsB at h'
         simp only[Bool.and_eq_true]at h'
         refine List.nodup_cons.2 ⟨fun hx=>?_,ih _ h'.2⟩
         obtain⟨p,q,hpq⟩:=List.append_of_mem hx
         obtain⟨_,_,_,_,_,_,_,h6,_⟩:=qG h'.2 p x q hpq
         exact h6 (by simp)
       exact this [] gs hgs
      ·rw[mB hd _ j (by simpa using hj)]
       have:(Array.replicate ops.size false).getD j false=false:=by simp[hj]
       rw[this]
       cases gs.contains j<;>simp)
   have hq:=hq ⟨rfl,.refl w⟩
   rw[List.append_nil]at hq
   have hfm:hd.filterMap (fun i=>ops[i]?)=l:=by
    have:hd.filterMap (fun i=>ops[i]?)=(hd.map (fun i=>ops[i]?)).filterMap id:=by rw[List.filterMap_map];rfl
    rw[this,iW hd l fG];simp
   rw[hfm]at hq
   refine wp_region_held (S:=Grown w) hmix ?_
   have hS:Grown w { w with drawn:=w.drawn+1}:=⟨.refl _ _,rfl,rfl,rfl⟩
   have:=CR (P:=P) (ops:=ops) (S:=Grown w) (Q:=Qe) (w:={ w with drawn:=w.drawn+1}) (n:=gs.length+tl.length) Ud (fun c a w h=>by cases h.1) hS hd l (Array.replicate ops.size false) a fG Uc (fun a' h=>h) hq
   rwa [hlen]at this
end par
end Go.Sb
end
section
namespace Go.Sb
open Go
section whole
variable {P:Program}
theorem CT {f:FuncId}{fn:Func}(hf:P.funcs[f]? =some fn)(hmix:P.follows .mixedOrders=true)(cuts dm:List (Nat×List Nat)):∀(n:Nat) (first:Bool) (todo:List Item) (env:Env) (a:Act) (w:World) (Q:Value→Hp→Prop),
  ev P f fn.results.toList cuts dm n first todo env w.heap Q→Ag env a→bM P f todo a w Q:=by
 intro n
 induction n with
 |zero=>intro first todo env a w Q aH;exact aH.elim
 |succ n ih=>
  intro first todo env a w Q aH ha
  unfold ev at aH
  cases todo with
  |nil=>
   obtain⟨v,h1,h2⟩:=u7 (P:=P) ha aH
   exact bM.fin hf ha.defers h1 h2
  |cons it k=>
   cases it<;>simp only[]at aH<;>first|exact aH.elim|skip
   case inBlock i=>exact bM.inBlock (ih _ _ _ _ _ _ aH ha)
   case inLoop c=>exact bM.inLoop (ih _ _ _ _ _ _ aH ha)
   case code c=>
    cases c<;>simp only[]at aH<;>first|exact aH.elim|skip
    case skip=>exact bM.skip (ih _ _ _ _ _ _ aH ha)
    case label l=>exact bM.label (ih _ _ _ _ _ _ aH ha)
    case seq x y=>exact bM.seq (ih _ _ _ _ _ _ aH ha)
    case block i c=>exact bM.block (ih _ _ _ _ _ _ aH ha)
    case loop c=>exact bM.loop (ih _ _ _ _ _ _ aH ha)
    case ret=>
     obtain⟨v,h1,h2⟩:=u7 (P:=P) ha aH
     exact bM.ret hf ha.defers h1 h2
    case exit i=>
     cases he:exitTo i k with
     |none=>rw[he]at aH;exact aH.elim
     |some k'=>rw[he]at aH;exact bM.exit he (ih _ _ _ _ _ _ aH ha)
    case cond c x y=>
     cases hc:fF env c with
     |none=>rw[hc]at aH;exact aH.elim
     |some v=>
      rw[hc]at aH
      cases v<;>first|exact aH.elim|skip
      rename_i b
      refine bM.cond (ha.eval hc) ?_
      cases b
      ·exact ih _ _ _ _ _ _ aH ha
      ·exact ih _ _ _ _ _ _ aH ha
    case region id ops draw=>
     have body:(match draw with
       |false=>jL P ops.toList (fun _ env o kk=>ee P env o kk) (ops.toList.length+1) Value none ops.toList env fun env'=>ev P f fn.results.toList cuts dm n false k env'
       |true=>match FB dm id with
        |some hd=>match T1 hd with
         |some hu=>ug P ops hu env fun env'=>ev P f fn.results.toList cuts dm n false k env'
         |none=>match T3 hd with
          |some hv=>uh P ops hv.1 hv.2.1 hv.2.2 env fun env'=>ev P f fn.results.toList cuts dm n false k env'
          |none=>AK P ops hd env fun env'=>ev P f fn.results.toList cuts dm n false k env'
        |none=>match Region.lexB .any ops with
         |true=>jL P ops.toList (yy P) (ops.toList.length+1) Value none ops.toList env fun env'=>ev P f fn.results.toList cuts dm n false k env'
         |false=>aN) w.heap Q→bM P f (.code (.region id ops draw)::k) a w Q:=by
      intro hb
      cases draw with
      |false=>
       refine bM.code (wp_region ?_)
       have:=jn (AN (P:=P) ops (fun e a' w'=>e= .normal∧Kept w w'∧bM P f k a' w' Q)) _ Value none ops.toList env _ Q (List.range ops.size) [] a w (lN ops) hb ha
        fun env' a' w' h1 h2 _ h4=>⟨rfl,h2,ih _ _ _ _ _ _ h4 h1⟩
       rwa [List.append_nil]at this
      |true=>
       simp only[]at hb
       cases hdm:FB dm id with
       |some hd=>
        rw[hdm]at hb
        simp only[]at hb
        cases hum:T1 hd with
        |some hu=>
         rw[hum]at hb
         exact bM.code (wp_mono (xV (R:=fun a' w'=>Kept w w'∧bM P f k a' w' Q) hmix hb ha fun env' a' w' h1 h2 h3=>⟨h2,ih _ _ _ _ _ _ h3 h1⟩) fun _ _ _ h=>h)
        |none=>
        rw[hum]at hb
        simp only[]at hb
        cases hvm:T3 hd with
        |some hv=>
         rw[hvm]at hb
         exact bM.code (wp_mono (xW (R:=fun a' w'=>Kept w w'∧bM P f k a' w' Q) hmix hb ha fun env' a' w' h1 h2 h3=>⟨h2,ih _ _ _ _ _ _ h3 h1⟩) fun _ _ _ h=>h)
        |none=>
        rw[hvm]at hb
        exact bM.code (wp_mono (AT (R:=fun a' w'=>Kept w w'∧bM P f k a' w' Q) hmix hb ha fun env' a' w' h1 h2 h3=>⟨h2,ih _ _ _ _ _ _ h3 h1⟩) fun _ _ _ h=>h)
       |none=>
       rw[hdm]at hb
       simp only[]at hb
       cases hl:Region.lexB .any ops with
       |false=>rw[hl]at hb;exact hb.elim
       |true=>
        rw[hl]at hb
        simp only[]at hb
        refine bM.code (wp_region_quiet (C:=Alike w) hmix hl ⟨rfl,rfl,rfl,rfl⟩ ?_)
        have:=jn (u6 (P:=P) ops w (fun a'=>∀w',Alike w w'→Exit.normal= .normal∧Kept w w'∧bM P f k a' w' Q)) _ Value none ops.toList env _ Q (List.range ops.size) [] a w (lN ops) hb ha
         fun env' a' w' h1 h2 _ h4 hA w'' hA'=>⟨rfl,hA'.2,ih _ _ _ _ _ _ (by rw[hA'.1,←hA.1];exact h4) h1⟩
        have:=this ⟨rfl,.refl w⟩
        rwa [List.append_nil,AO]at this
     cases first with
     |true=>exact body aH
     |false=>
      cases mC:uf cuts id with
      |none=>rw[mC]at aH;exact body aH
      |some live=>rw[mC]at aH;exact aH a w rfl (ha.fP live)
theorem Nf.Uk {f:FuncId}{fn:Func}{c:Code}(hc:jm P f)(hf:P.funcs[f]? =some fn)(hb:fn.body=some c)(hmix:P.follows .mixedOrders=true)(cuts dm:List (Nat×List Nat))(n:Nat){args:List Value}{h:Hp}{Q:Value→Hp→Prop}
  (aH:ev P f fn.results.toList cuts dm n false [.code c] (args.map some++List.replicate (fn.ntmps-args.length) none) h Q):Nf P f args.toArray h Q:=by
 refine Nf.AH hc hf hb fun w hw=>CT hf hmix cuts dm n false _ _ _ w Q (hw ▸ aH) ⟨?_,?_,rfl⟩
 ·simp
 ·intro i v hv
  have d3h:∀(l:List (Option Value)) (i:Nat),look l i=(l[i]?).join:=by
   intro l
   induction l with
   |nil=>intro i;simp[look]
   |cons x xs ih=>intro i;cases i<;>simp[look,ih]
  rw[d3h]at hv
  rcases Nat.lt_or_ge i args.length with hlt|hge
  ·rw[List.getElem?_append_left (by simpa using hlt)]at hv
   simp only[List.getElem?_map,List.getElem?_eq_getElem hlt,Option.map_some,Option.join_some,Option.some.injEq]at hv
   subst hv
   simp[Array.getElem?_append,hlt]
  ·rw[List.getElem?_append_right (by simpa using hge)]at hv
   simp only[List.getElem?_replicate]at hv
   split at hv<;>simp at hv
theorem bM.mono {f:FuncId}{todo:List Item}{a:Act}{w:World}{Q Q':Value→Hp→Prop}(h:bM P f todo a w Q)(hq:∀v h',Q v h'→Q' v h'):bM P f todo a w Q':=
 fun b hb hk cs=>let ⟨v,w',fr,h1,h2⟩:=h b hb hk cs;⟨v,w',fr,hq _ _ h1,h2⟩
theorem Cut.mono {f:FuncId}{todo:List Item}{env:Env}{h:Hp}{Q Q':Value→Hp→Prop}(hc:Cut P f todo env h Q)(hq:∀v h',Q v h'→Q' v h'):Cut P f todo env h Q':=
 fun a w hw ha=>(hc a w hw ha).mono hq
theorem Cut.Uk {f:FuncId}{fn:Func}(hf:P.funcs[f]? =some fn)(hmix:P.follows .mixedOrders=true)(cuts dm:List (Nat×List Nat))(n:Nat){todo:List Item}{env:Env}{h:Hp}{Q:Value→Hp→Prop}
 (aH:ev P f fn.results.toList cuts dm n true todo env h Q):Cut P f todo env h Q:=
 fun _ w hw ha=>CT hf hmix cuts dm n true _ _ _ w Q (hw ▸ aH) ha
theorem Nf.bh {f:FuncId}{fn:Func}(hc:jm P f)(hf:P.funcs[f]? =some fn)(hb:fn.body=some (FD fn))(hmix:P.follows .mixedOrders=true){cuts dm:List (Nat×List Nat)}{args:List Value}{B:M Value}
  (he:ev P f fn.results.toList cuts dm 400 false [.code (FD fn)] (args.map some++List.replicate (fn.ntmps-args.length) none)=B) {h:Hp} {Q:Value→Hp→Prop} (hB:B h Q):Nf P f args.toArray h Q:=
 Nf.Uk hc hf hb hmix cuts dm 400 (by rw[he];exact hB)
theorem Cut.bh {f:FuncId}{fn:Func}(hf:P.funcs[f]? =some fn)(hmix:P.follows .mixedOrders=true){cuts dm:List (Nat×List Nat)}{todo:List Item}{env:Env}{B:M Value}
  (he:ev P f fn.results.toList cuts dm 400 true todo env=B) {h:Hp} {Q:Value→Hp→Prop} (hB:B h Q):Cut P f todo env h Q:=
 Cut.Uk hf hmix cuts dm 400 (by rw[he];exact hB)
end whole
end Go.Sb
end
section
namespace Go.Sb
open Go
section rules
variable {α β:Type}{h:Hp}{Q:α→Hp→Prop}
@[simp] theorem ak (a:α):af a h Q=Q a h:=id rfl
@[simp] theorem ae (m:M β)(k:β→M α):ai m k h Q=m h fun a h'=>k a h' Q:=id rfl
@[simp] theorem aq (x y:M α):aI true x y=x:=id rfl
@[simp] theorem aj (x y:M α):aI false x y=y:=id rfl
@[simp] theorem au (a:Addr)(k:Addr→M α):ax (some a) k=k a:=id rfl
@[simp] theorem d2T (k:Addr→M α):ax none k=aN:=id rfl
@[simp] theorem d3i:(aN:M α) h Q=False:=id rfl
@[simp] theorem e5h (x y:M α):aG x y h Q=(x h Q∧y h Q):=id rfl
@[simp] theorem d2U (c:Prop)(k:M α):cD c k h Q=(c∧k h Q):=id rfl
@[simp] theorem e5i (cs:Array Value)(T:TypeId)(k:Addr→M α):aJ cs T k h Q=k ⟨h.size,0,none⟩ (h.push (.cells cs T)) Q:=id rfl
@[simp] theorem az (kd:IntKind)(n:Int)(k:Int→M α):aP kd (.int kd n) k=k n:=by simp[aP]
@[simp] theorem av (b:Bool)(k:Bool→M α):da (.bool b) k=k b:=id rfl
@[simp] theorem b7r (b:ByteArray)(k:ByteArray→M α):unS (.string b) k=k b:=id rfl
@[simp] theorem aS (b:Option Addr)(k:Option Addr→M α):gx (.pointer b) k=k b:=id rfl
@[simp] theorem ez (p:Option Addr)(n c:Nat)(k:Sl→M α):sI (.slice p n c) k=k ⟨p,n,c⟩:=id rfl
@[simp] theorem d3j (g:Nat)(f c:Array Value)(k:Nat→Array Value→Array Value→M α):unF (.func (.func g) f c) k=k g f c:=id rfl
@[simp] theorem cG (cs:Array Value)(k:List Value→M α):kg (.agg cs) k=k cs.toList:=id rfl
@[simp] theorem cC (cs:Array Value)(k:List Value→M α):tM (.tuple cs) k=k cs.toList:=id rfl
@[simp] theorem bW (c:Value)(cs:List Value)(k:Value→List Value→M α):bB (c::cs) k=k c cs:=id rfl
@[simp] theorem cH (k:M α):fO [] k=k:=id rfl
@[simp] theorem bD {β γ:Type}(u:Value→(β→M α)→M α)(u':Value→(γ→M α)→M α)(a b:Value)(k:β→γ→M α):ki u u' (.tuple #[a,b]) k=u a fun x=>u' b fun y=>k x y:=id rfl
@[simp] theorem fi {β γ δ:Type}(u:Value→(β→M α)→M α)(u':Value→(γ→M α)→M α)(u'':Value→(δ→M α)→M α)(a b c:Value)(k:β→γ→δ→M α):un3 u u' u'' (.tuple #[a,b,c]) k=u a fun x=>u' b fun y=>u'' c fun z=>k x y z:=id rfl
theorem aE {b:Bool}{x y:M α}(hx:b=true→x h Q)(hy:b=false→y h Q):aI b x y h Q:=by
 cases b
 ·exact hy rfl
 ·exact hx rfl
theorem jo {m:M Value}{k:Value→M α}(v:Value)(hm:m h fun v' h'=>v'=v∧h'=h)(hk:k v h Q):mQ m k h Q:=⟨v,hm,hk⟩
theorem qH {kd:IntKind}{a:Addr}{k:Int→M α}{n:Int}(hc:hcell h a=some (.int kd n))(hk:k n h Q):ab kd a k h Q:=⟨n,hc,hk⟩
theorem AV {a:Addr}{k:Bool→M α}{n:Bool}(hc:hcell h a=some (.bool n))(hk:k n h Q):g9 a k h Q:=⟨n,hc,hk⟩
theorem Jf {a:Addr}{k:Option Addr→M α}{n:Option Addr}(hc:hcell h a=some (.pointer n))(hk:k n h Q):bz a k h Q:=⟨n,hc,hk⟩
theorem om {a:Addr}{k:Sl→M α}{p:Option Addr}{n c:Nat}(hc:hcell h a=some (.slice p n c))(hk:k ⟨p,n,c⟩ h Q):aw a k h Q:=⟨⟨p,n,c⟩,hc,hk⟩
theorem kV {p:Addr}{n c:Nat}{i:Int}{sz:Nat}{k:Addr→M α}(h0:0≤i)(h1:i<n)(hk:k (p.add (i.toNat*sz)) h Q):bd ⟨some p,n,c⟩ i sz k h Q:=⟨p,rfl,h0,h1,hk⟩
end rules
def kO (h:Hp)(b:Nat)(cs:List Value):Prop:=∃T,h[b]? =some (.cells cs.toArray T (0,0))
@[simp] theorem ay (b o k:Nat):(⟨b,o,none⟩:Addr).add k=⟨b,o+k,none⟩:=by
 unfold Addr.add
 split
 ·rename_i h;subst h;rfl
 ·rfl
@[simp] theorem d2V (h:Hp)(a:Addr)(v:Value):(gA h a v).size=h.size:=by simp[gA]
theorem kO.lt {h:Hp}{b:Nat}{cs:List Value}(hb:kO h b cs):b<h.size:=by
 obtain⟨T,hT⟩:=hb
 exact (Array.getElem?_eq_some_iff.1 hT).1
theorem kO.cell {h:Hp}{b:Nat}{cs:List Value}(hb:kO h b cs)(o:Nat):hcell h ⟨b,o,none⟩=cs[o]? :=by
 obtain⟨T,hT⟩:=hb
 simp[hcell,hT]
theorem kO.free {h:Hp}{b:Nat}{cs:List Value}(hb:kO h b cs)(o:Nat):gM h ⟨b,o,none⟩=false:=by
 obtain⟨T,hT⟩:=hb
 simp[gM,hT]
theorem vl (h:Hp)(a:Addr)(v:Value)(b:Nat)(hne:b≠a.block):(gA h a v)[b]? =h[b]? :=by
 simp only[gA,Array.getElem?_modify]
 rw[if_neg (fun e=>hne e.symm)]
theorem kO.set {h:Hp}{b:Nat}{cs:List Value}(hb:kO h b cs)(o:Nat)(v:Value):kO (gA h ⟨b,o,none⟩ v) b (cs.set o v):=by
 obtain⟨T,hT⟩:=hb
 refine⟨T,?_⟩
 simp[gA,Array.getElem?_modify,hT]
theorem kO.push {h:Hp}{b:Nat}{cs:List Value}(hb:kO h b cs)(o:Obj):kO (h.push o) b cs:=by
 have:=hb.lt
 obtain⟨T,hT⟩:=hb
 exact⟨T,by rw[Array.getElem?_push,if_neg (by omega)];exact hT⟩
theorem kO.new (h:Hp)(cs:List Value)(T:TypeId):kO (h.push (.cells cs.toArray T)) h.size cs:=⟨T,by simp⟩
theorem kO.new' (h:Hp)(cs:Array Value)(T:TypeId):kO (h.push (.cells cs T)) h.size cs.toList:=⟨T,by simp⟩
theorem kO.uniq {h:Hp}{b:Nat}{cs cs':List Value}(hb:kO h b cs)(hb':kO h b cs'):cs=cs':=by
 obtain⟨T,hT⟩:=hb
 obtain⟨T',hT'⟩:=hb'
 rw[hT]at hT'
 exact (by simpa using hT':cs=cs'∧T=T').1
structure eB (F:Nat→Prop) (h h':Hp):Prop where
 size:h.size≤h'.size
 at_:∀b,b<h.size→¬F b→h'[b]? =h[b]?
theorem eB.refl (F:Nat→Prop)(h:Hp):eB F h h:=⟨Nat.le_refl _,fun _ _ _=>rfl⟩
theorem eB.trans {F:Nat→Prop}{a b c:Hp}(h:eB F a b)(h':eB F b c):eB F a c:=
 ⟨Nat.le_trans h.size h'.size,fun i hi hf=>(h'.at_ i (Nat.lt_of_lt_of_le hi h.size) hf).trans (h.at_ i hi hf)⟩
theorem eB.mono {F G:Nat→Prop}{a b:Hp}(h:eB F a b)(hFG:∀i,i<a.size→F i→G i):eB G a b:=
 ⟨h.size,fun i hi hg=>h.at_ i hi fun hf=>hg (hFG i hi hf)⟩
theorem eB.push (F:Nat→Prop)(h:Hp)(o:Obj):eB F h (h.push o):=⟨by simp,fun b hb _=>by rw[Array.getElem?_push,if_neg (by omega)]⟩
theorem eB.set {F:Nat→Prop}(h:Hp)(a:Addr)(v:Value)(hF:F a.block):eB F h (gA h a v):=
 ⟨by simp,fun b _ hb=>vl h a v b fun e=>hb (e ▸ hF)⟩
theorem eB.mD {F:Nat→Prop}{h h':Hp}(hk:eB F h h'){b:Nat}{cs:List Value}(hb:kO h b cs)(hF:¬F b):kO h' b cs:=by
 have:=hb.lt
 obtain⟨T,hT⟩:=hb
 exact⟨T,by rw[hk.at_ b this hF];exact hT⟩
theorem eB.cell {F:Nat→Prop}{h h':Hp}(hk:eB F h h'){a:Addr}(ha:a.block<h.size)(hF:¬F a.block):hcell h' a=hcell h a:=by
 unfold hcell;rw[hk.at_ a.block ha hF]
theorem ck.push {B:Nat}(h:Hp)(o:Obj)(hB:B≤h.size):ck B h (h.push o):=⟨by simp,fun b hb=>by rw[Array.getElem?_push,if_neg (by omega)]⟩
theorem ck.set {B:Nat}(h:Hp)(a:Addr)(v:Value)(hB:B≤a.block):ck B h (gA h a v):=⟨by simp,fun b hb=>vl h a v b (by omega)⟩
theorem ck.Ul {B:Nat}{F:Nat→Prop}{h h':Hp}(hk:eB F h h')(hB:B≤h.size)(hF:∀b,F b→B≤b):ck B h h':=
 ⟨hk.size,fun b hb=>hk.at_ b (by omega) fun hf=>by have:=hF b hf;omega⟩
theorem wrap64 (n:Int)(h: -9223372036854775808≤n∧n≤9223372036854775807):IntKind.i64.wrap n=n:=IntWalk.i64_in n h
theorem mE (n:Int)(h:0≤n∧n≤18446744073709551615):IntKind.u64.wrap n=n:=by
 simp[IntKind.wrap,IntKind.bits,IntKind.signed];omega
section rows
variable {α:Type}
theorem bZ {enc:α→List Value}{sz:Nat}(he:∀a,(enc a).length=sz):∀l:List α,(l.flatMap enc).length=l.length*sz
 |[]=>by simp
 |a::l=>by rw[List.flatMap_cons,List.length_append,he,bZ he l,List.length_cons,Nat.succ_mul];omega
theorem vm {enc:α→List Value}{sz:Nat}(he:∀a,(enc a).length=sz):∀(l:List α) (i j:Nat) (a:α),l[i]? =some a→j<sz→(l.flatMap enc)[i*sz+j]? =(enc a)[j]?
 |[],i,j,a,h,_=>by simp at h
 |b::l,0,j,a,h,hj=>by
  simp only[List.getElem?_cons_zero,Option.some.injEq]at h
  subst h
  rw[List.flatMap_cons,Nat.zero_mul,Nat.zero_add,List.getElem?_append_left (by rw[he];exact hj)]
 |b::l,i+1,j,a,h,hj=>by
  simp only[List.getElem?_cons_succ]at h
  rw[List.flatMap_cons,List.getElem?_append_right (by rw[he,Nat.succ_mul];omega),he,show (i+1)*sz+j-sz=i*sz+j by rw[Nat.succ_mul];omega]
  exact vm he l i j a h hj
theorem CU {enc:α→List Value}{sz:Nat}(he:∀a,(enc a).length=sz):∀(l:List α) (i j:Nat) (a a':α) (v:Value),l[i]? =some a→j<sz→enc a'=(enc a).set j v→(l.flatMap enc).set (i*sz+j) v=(l.set i a').flatMap enc
 |[],i,j,a,a',v,h,_,_=>by simp at h
 |b::l,0,j,a,a',v,h,hj,ha=>by
  simp only[List.getElem?_cons_zero,Option.some.injEq]at h
  subst h
  rw[List.flatMap_cons,Nat.zero_mul,Nat.zero_add,List.set_append_left _ _ (by rw[he];exact hj),sz0,List.flatMap_cons,ha]
 |b::l,i+1,j,a,a',v,h,hj,ha=>by
  simp only[List.getElem?_cons_succ]at h
  rw[List.flatMap_cons,List.set_append_right _ _ (by rw[he,Nat.succ_mul];omega),he,show (i+1)*sz+j-sz=i*sz+j by rw[Nat.succ_mul];omega,CU he l i j a a' v h hj ha,sz1,List.flatMap_cons]
end rows
theorem yG (n:Nat):∀(r c:Nat),c<n→Builtin.growBy n r c≤2*n+192
 |0,c,h=>by simp only[Builtin.growBy];omega
 |r+1,c,h=>by
  simp only[Builtin.growBy]
  split
  ·omega
  ·by_cases h2:c+(c+768) / 4<n
   ·exact yG n r _ h2
   ·have:∀(r c:Nat),n≤c→Builtin.growBy n r c=c∨r=0:=by
     intro r c hc
     cases r with
     |zero=>exact .inr rfl
     |succ r=>left;simp only[Builtin.growBy];rw[if_pos (by omega)]
    rcases this r (c+(c+768) / 4) (by omega) with h3|h3
    ·rw[h3];omega
    ·subst h3;simp only[Builtin.growBy];omega
theorem vn (n c:Nat)(h:c<n):Builtin.nextslicecap n c≤2*n+192:=by
 unfold Builtin.nextslicecap
 split
 ·omega
 ·split
  ·omega
  ·exact yG n 4 c h
def d3k (h:Hp)(s:Sl)(sz:Nat)(cs:List Value):Prop:=
 (s=⟨none,0,0⟩∧cs=[])∨∃q rest,s.p=some ⟨q,0,none⟩∧cs.length=s.n*sz∧s.n≤s.c∧rest.length=(s.c-s.n)*sz∧kO h q (cs++rest)
def Sl.at (s:Sl)(q:Nat):Prop:=∃o,s.p=some ⟨q,o,none⟩
theorem kp {h:Hp}{b:Nat}{cs:List Value}(hb:kO h b cs):∀(n o i:Nat),o+i+n≤cs.length→hcells h ⟨b,o,none⟩ i n=some ((cs.drop (o+i)).take n)
 |0,o,i,_=>by simp[hcells]
 |n+1,o,i,hl=>by
  simp only[hcells,ay,hb.cell]
  rw[List.getElem?_eq_getElem (by omega),kp hb n o (i+1) (by omega)]
  simp only[]
  rw[List.drop_eq_getElem_cons (by omega:o+i<cs.length),List.take_succ_cons,Nat.add_assoc]
theorem d3k.cells {h:Hp}{s:Sl}{sz:Nat}{cs:List Value}(ho:d3k h s sz cs):cn h s s.n sz=some cs:=by
 rcases ho with ⟨rfl,rfl⟩|⟨q,rest,hp,hl,hn,hr,hb⟩
 ·rfl
 ·unfold cn
  rw[hp]
  simp only[]
  rw[kp hb _ 0 0 (by simp;omega),←hl]
  simp
theorem rM {b:Nat}:∀(vs:List Value) (h:Hp) (o i:Nat) (cs:List Value),kO h b cs→o+i+vs.length≤cs.length→
  kO (dQ h ⟨b,o,none⟩ i vs) b (cs.take (o+i)++vs++cs.drop (o+i+vs.length))∧eB (·=b) h (dQ h ⟨b,o,none⟩ i vs)
 |[],h,o,i,cs,hb,_=>by simp[dQ,hb,eB.refl]
 |v::vs,h,o,i,cs,hb,hl=>by
  simp only[List.length_cons]at hl
  simp only[dQ,ay]
  obtain⟨h1,h2⟩:=rM vs (gA h ⟨b,o+i,none⟩ v) o (i+1) _ (hb.set (o+i) v) (by simp;omega)
  refine⟨?_,(eB.set (F:=fun x=>x=b) h ⟨b,o+i,none⟩ v rfl).trans h2⟩
  have e:(cs.set (o+i) v).take (o+(i+1))++vs++(cs.set (o+i) v).drop (o+(i+1)+vs.length)=cs.take (o+i)++v::vs++cs.drop (o+i+(vs.length+1)):=by
   apply List.ext_getElem?
   intro k
   simp only[List.getElem?_append,List.getElem?_take,List.getElem?_drop,List.length_append,List.length_take,List.length_set,List.getElem?_set,List.length_cons]
   have m1:min (o+(i+1)) cs.length=o+i+1:=by omega
   have m2:min (o+i) cs.length=o+i:=by omega
   simp only[m1,m2]
   by_cases k1:k<o+i
   ·have:¬o+i=k:=by omega
    simp[k1,this,show k<o+i+1+vs.length by omega,show k<o+i+1 by omega,show k<o+i+(vs.length+1) by omega,show k<o+(i+1) by omega]
   ·by_cases k2:k=o+i
    ·subst k2
     simp[show o+i<o+i+1+vs.length by omega,show o+i<cs.length by omega,show o+i<o+(i+1) by omega]
    ·by_cases k3:k<o+i+1+vs.length
     ·have e1:k-(o+i)=(k-(o+i+1))+1:=by omega
      simp[k1,k3,show ¬k<o+i+1 by omega,show k<o+i+(vs.length+1) by omega,e1]
     ·simp[k3,show ¬k<o+i+(vs.length+1) by omega]
      have e2:o+(i+1)+vs.length+(k-(o+i+1+vs.length))=o+i+(vs.length+1)+(k-(o+i+(vs.length+1))):=by omega
      rw[e2]
      have:¬o+i=o+i+(vs.length+1)+(k-(o+i+(vs.length+1))):=by omega
      simp[this]
  rw[List.length_cons,←e]
  exact h1
theorem sN (z:Array Value)(n:Nat):(eK z n).size=n*z.size:=by simp[eK]
structure mr (B:Nat) (h:Hp) (k:IntKind) (s:Sl) (zs:List Int):Prop where
 n:s.n=zs.length
 at_:∀i z,zs[i]? =some z→∃a,s.p=some a∧a.block<B∧hcell h (a.add i)=some (.int k z)
 wf:∀z∈zs,k.min≤z∧z≤k.max
theorem fj (a:Addr)(i:Nat):(a.add i).block=a.block:=by unfold Addr.add;split<;>rfl
theorem mr.under {B:Nat}{h h':Hp}{k:IntKind}{s:Sl}{zs:List Int}(hr:mr B h k s zs)(hu:ck B h h'):mr B h' k s zs:=
 ⟨hr.n,fun i z hz=>by
  obtain⟨a,h1,h2,h3⟩:=hr.at_ i z hz
  exact⟨a,h1,h2,by rw[hu.cell (by rw[fj];exact h2)];exact h3⟩,hr.wf⟩
theorem mr.idx {α:Type}{B:Nat}{h:Hp}{k:IntKind}{s:Sl}{zs:List Int}(hr:mr B h k s zs){i:Int}{K:Addr→M α}{Q:α→Hp→Prop}(h0:0≤i)(h1:i<zs.length)
  (hk:∀a,hcell h a=some (.int k (zs.getD i.toNat 0))→K a h Q):bd s i 1 K h Q:=by
 have hlt:i.toNat<zs.length:=by omega
 obtain⟨a,e1,_,e3⟩:=hr.at_ i.toNat _ (List.getElem?_eq_getElem hlt)
 refine⟨a,e1,h0,by rw[hr.n];exact h1,hk _ ?_⟩
 rw[Nat.mul_one,e3]
 simp[hlt]
theorem mr.mD {B b:Nat}{h:Hp}{k:IntKind}{zs:List Int}{rest:List Value}{c:Nat}(hb:kO h b (zs.map (.int k)++rest))(hB:b<B)(hwf:∀z∈zs,k.min≤z∧z≤k.max):mr B h k ⟨some ⟨b,0,none⟩,zs.length,c⟩ zs:=
 ⟨rfl,fun i z hz=>⟨_,rfl,hB,by
  rw[ay,hb.cell,Nat.zero_add,List.getElem?_append_left (by have:=(List.getElem?_eq_some_iff.1 hz).1;simpa using this)]
  simp[hz]⟩,hwf⟩
structure RdB (B:Nat) (h:Hp) (s:Sl) (zs:List Bool):Prop where
 n:s.n=zs.length
 at_:∀i z,zs[i]? =some z→∃a,s.p=some a∧a.block<B∧hcell h (a.add i)=some (.bool z)
theorem RdB.under {B:Nat}{h h':Hp}{s:Sl}{zs:List Bool}(hr:RdB B h s zs)(hu:ck B h h'):RdB B h' s zs:=
 ⟨hr.n,fun i z hz=>by
  obtain⟨a,h1,h2,h3⟩:=hr.at_ i z hz
  exact⟨a,h1,h2,by rw[hu.cell (by rw[fj];exact h2)];exact h3⟩⟩
theorem RdB.idx {α:Type}{B:Nat}{h:Hp}{s:Sl}{zs:List Bool}(hr:RdB B h s zs){i:Int}{K:Addr→M α}{Q:α→Hp→Prop}(h0:0≤i)(h1:i<zs.length)
  (hk:∀a,hcell h a=some (.bool (zs.getD i.toNat false))→K a h Q):bd s i 1 K h Q:=by
 have hlt:i.toNat<zs.length:=by omega
 obtain⟨a,e1,_,e3⟩:=hr.at_ i.toNat _ (List.getElem?_eq_getElem hlt)
 refine⟨a,e1,h0,by rw[hr.n];exact h1,hk _ ?_⟩
 rw[Nat.mul_one,e3]
 simp[hlt]
end Go.Sb
end
section
namespace Go.Sb
open Go
def eC (P:Program)(h:Hp):Nat→TypeId→List Value→Prop
 |0,_,_=>True
 |d+1,t,cs=>match P.underlying t with
  |some .bool=>∃b,cs=[.bool b]
  |some (.int k)=>∃n,cs=[.int k n]∧k.min≤n∧n≤k.max
  |some .string=>∃s,cs=[.string s]
  |some (.slice e)=>cs=[.slice none 0 0]∨∃a len cap,cs=[.slice (some a) len cap]∧len≤cap∧cap≤maxLen∧
    ∀i,i<len→∃cs',cs'.length=P.cellsOf e∧(∀j v,cs'[j]? =some v→hcell h ((a.add (i*P.cellsOf e)).add j)=some v)∧eC P h d e cs'
  |some (.struct fs)=>cs.length=P.cellsOf t∧∀(i:Nat) (f:Field),fs[i]? =some f→eC P h d f.type ((cs.drop f.offset).take (P.cellsOf f.type))
  |some (.array n e)=>cs.length=P.cellsOf t∧∀i,i<n→eC P h d e ((cs.drop (i*P.cellsOf e)).take (P.cellsOf e))
  |_=>True
section
variable {H:Type}{enc:TypeId×Value→H}{P:Program}{w:World}{base:Nat}{spare:Nat→Bool}{held:Bool}
theorem kW:∀(d:Nat) (t:TypeId)(cs:List Value)(fuel:Nat)(x:DataW H×List MemPlace),DataW.trod enc P w base spare held fuel t cs=some x→eC P w.heap d t cs
 |0,_,_,_,_,_=>trivial
 |d+1,t,cs,fuel,x,h=>by
  unfold eC
  cases hu:P.underlying t with
  |none=>trivial
  |some ty=>
   cases ty<;>simp only[]<;>try trivial
   case bool=>
    cases fuel with
    |zero=>simp[DataW.trod]at h
    |succ n=>
     unfold DataW.trod at h
     rw[hu]at h
     split at h<;>simp_all
   case int k=>
    cases fuel with
    |zero=>simp[DataW.trod]at h
    |succ n=>
     unfold DataW.trod at h
     rw[hu]at h
     split at h<;>simp_all [Lit.wf]
   case string=>
    cases fuel with
    |zero=>simp[DataW.trod]at h
    |succ n=>
     unfold DataW.trod at h
     rw[hu]at h
     split at h<;>simp_all
   case slice e=>
    rcases Go.Deep.open_slice hu h with ⟨h0,_⟩|⟨a,len,cap,m,n,D,Pl,rfl,_,hl,hm,hmm,_,hi⟩
    ·exact .inl h0
    ·refine .inr ⟨a,len,cap,rfl,hl,hm,fun i hil=>?_⟩
     have:i<m:=by rw[hmm];split<;>omega
     obtain⟨cs',hc,ht⟩:=hi i this
     obtain⟨_,mC,fG⟩:=World.cells?_some hc
     refine⟨cs',mC,fun j v hj=>?_,kW d e cs' n _ ht⟩
     have hjl:j<P.cellsOf e:=by have:=(List.getElem?_eq_some_iff.1 hj).1;omega
     have:=fG j hjl
     rw[hj]at this
     exact this
   case struct fs=>
    obtain⟨xs,n,_,_,hlen,_,hf⟩:=DataW.trod_struct hu h
    refine⟨hlen,fun i f hif=>?_⟩
    have h1:=hf i f hif
    have hlt:i<xs.length:=by have:=(Array.getElem?_eq_some_iff.1 hif).1;omega
    rw[List.getElem?_eq_getElem hlt]at h1
    exact kW d f.type _ n _ h1
   case array n e=>
    cases fuel with
    |zero=>simp[DataW.trod]at h
    |succ m=>
     unfold DataW.trod at h
     rw[hu]at h
     simp only[]at h
     by_cases hlen:cs.length=P.cellsOf t
     ·refine⟨hlen,fun i hi=>?_⟩
      rw[if_pos hlen]at h
      cases hm:(List.range n).mapM fun i=>DataW.trod enc P w base spare held m e ((cs.drop (i*P.cellsOf e)).take (P.cellsOf e)) with
      |none=>rw[hm]at h;cases h
      |some xs=>
       have hx:∀(l:List Nat) (ys:List (DataW H×List MemPlace)),(l.mapM fun i=>DataW.trod enc P w base spare held m e ((cs.drop (i*P.cellsOf e)).take (P.cellsOf e)))=some ys→∀i∈l,∃y,DataW.trod enc P w base spare held m e ((cs.drop (i*P.cellsOf e)).take (P.cellsOf e))=some y:=by
        intro l
        induction l with
        |nil=>intro ys _ i hi;cases hi
        |cons k l ih=>
         intro ys hys i hi
         rw[List.mapM_cons]at hys
         cases hk:DataW.trod enc P w base spare held m e ((cs.drop (k*P.cellsOf e)).take (P.cellsOf e)) with
         |none=>rw[hk]at hys;cases hys
         |some y=>
          rw[hk]at hys
          cases hl:l.mapM fun i=>DataW.trod enc P w base spare held m e ((cs.drop (i*P.cellsOf e)).take (P.cellsOf e)) with
          |none=>simp only[Option.bind_eq_bind,Option.bind_some,hl]at hys;cases hys
          |some ys'=>
           rcases List.mem_cons.1 hi with rfl|hi
           ·exact⟨y,hk⟩
           ·exact ih ys' hl i hi
       obtain⟨y,hy⟩:=hx _ _ hm i (List.mem_range.2 hi)
       exact kW d e _ m _ hy
     ·rw[if_neg hlen]at h;cases h
theorem sO {t:TypeId}{v:Value}{dd:DataW H}{ps:List MemPlace}(d:Nat)(h:DataW.Trod enc P w base spare held t v dd ps):eC P w.heap d t v.cells.toList:=by
 obtain⟨fuel,hf⟩:=h
 exact kW d t _ fuel _ hf
end
theorem Jg {X:Type}{R:Nat→X→Prop}:∀n,(∀i,i<n→∃x,R i x)→∃xs:List X,xs.length=n∧∀i x,xs[i]? =some x→R i x
 |0,_=>⟨[],rfl,by simp⟩
 |n+1,h=>by
  obtain⟨xs,h1,h2⟩:=Jg n fun i hi=>h i (by omega)
  obtain⟨x,hx⟩:=h n (by omega)
  refine⟨xs++[x],by simp[h1],fun i y hy=>?_⟩
  by_cases hi:i<xs.length
  ·rw[List.getElem?_append_left hi]at hy;exact h2 i y hy
  ·rw[List.getElem?_append_right (by omega)]at hy
   have:i-xs.length=0:=by
    have:=(List.getElem?_eq_some_iff.1 hy).1
    simp at this;omega
   rw[this]at hy
   simp at hy
   subst hy
   rwa [show i=n by omega]
structure fK {X:Type} (B:Nat) (h:Hp) (enc:X→List Value) (sz:Nat) (s:Sl) (xs:List X):Prop where
 n:s.n=xs.length
 at_:∀i x,xs[i]? =some x→∃a,s.p=some a∧a.block<B∧∀j v,(enc x)[j]? =some v→hcell h ((a.add (i*sz)).add j)=some v
theorem fK.under {X:Type}{B:Nat}{h h':Hp}{enc:X→List Value}{sz:Nat}{s:Sl}{xs:List X}(hr:fK B h enc sz s xs)(hu:ck B h h'):fK B h' enc sz s xs:=
 ⟨hr.n,fun i x hx=>by
  obtain⟨a,h1,h2,h3⟩:=hr.at_ i x hx
  exact⟨a,h1,h2,fun j v hv=>by rw[hu.cell (by rw[fj,fj];exact h2)];exact h3 j v hv⟩⟩
theorem fK.idx {X α:Type}{B:Nat}{h:Hp}{enc:X→List Value}{sz:Nat}{s:Sl}{xs:List X}(hr:fK B h enc sz s xs){i:Int}{K:Addr→M α}{Q:α→Hp→Prop}(h0:0≤i)(h1:i<xs.length)
  (hk:∀(x:X) (a:Addr),xs[i.toNat]? =some x→(∀j v,(enc x)[j]? =some v→hcell h (a.add j)=some v)→K a h Q):bd s i sz K h Q:=by
 have hlt:i.toNat<xs.length:=by omega
 obtain⟨a,e1,_,e3⟩:=hr.at_ i.toNat _ (List.getElem?_eq_getElem hlt)
 exact⟨a,e1,h0,by rw[hr.n];exact h1,hk _ _ (List.getElem?_eq_getElem hlt) e3⟩
section open_
variable {P:Program}{h:Hp}
theorem CV {X:Type}{enc:X→List Value}{sz:Nat}{t e:TypeId}{a:Option Addr}{len cap d:Nat}(ht:P.underlying t=some (.slice e))(hsz:P.cellsOf e=sz)(hpos:∀x,(enc x)≠[])
  (b7s:∀cs,eC P h d e cs→∃x,cs=enc x) (hr:eC P h (d+1) t [.slice a len cap]):∃xs,fK h.size h enc sz ⟨a,len,cap⟩ xs:=by
 unfold eC at hr
 rw[ht]at hr
 simp only[]at hr
 rcases hr with h0|⟨ad,l,c,hcs,_,_,hi⟩
 ·simp only[List.cons.injEq,Value.slice.injEq,and_true]at h0
  obtain⟨rfl,rfl,rfl⟩:=h0
  exact⟨[],rfl,by simp⟩
 ·simp only[List.cons.injEq,Value.slice.injEq,and_true]at hcs
  obtain⟨rfl,rfl,rfl⟩:=hcs
  obtain⟨xs,h1,h2⟩:=Jg (R:=fun i x=>∀j v,(enc x)[j]? =some v→hcell h ((ad.add (i*sz)).add j)=some v) len fun i hil=>by
   obtain⟨cs',hl,hc,hrd⟩:=hi i hil
   obtain⟨x,rfl⟩:=b7s cs' hrd
   rw[hsz]at hc
   exact⟨x,hc⟩
  refine⟨xs,h1.symm,fun i x hx=>⟨ad,rfl,?_,h2 i x hx⟩⟩
  cases hex:enc x with
  |nil=>exact absurd hex (hpos x)
  |cons v vs=>
   have:=h2 i x hx 0 v (by rw[hex];rfl)
   have:=CL this
   rwa [fj,fj]at this
theorem qI {k:IntKind}{t e:TypeId}{a:Option Addr}{len cap d:Nat}(ht:P.underlying t=some (.slice e))(he:P.underlying e=some (.int k))(hsz:P.cellsOf e=1)
  (hr:eC P h (d+2) t [.slice a len cap]):∃zs,mr h.size h k ⟨a,len,cap⟩ zs:=by
 obtain⟨xs,hx⟩:=CV (X:={ n:Int // k.min≤n∧n≤k.max}) (enc:=fun x=>[.int k x.1]) ht hsz (by simp) (fun cs hcs=>by
  unfold eC at hcs
  rw[he]at hcs
  obtain⟨n,rfl,h1,h2⟩:=hcs
  exact⟨⟨n,h1,h2⟩,rfl⟩) hr
 refine⟨xs.map (·.1),by rw[List.length_map];exact hx.n,fun i z hz=>?_,?_⟩
 ·rw[List.getElem?_map]at hz
  cases Jh:xs[i]? with
  |none=>simp[Jh]at hz
  |some x=>
   simp only[Jh,Option.map_some,Option.some.injEq]at hz
   subst hz
   obtain⟨ad,h1,h2,h3⟩:=hx.at_ i x Jh
   refine⟨ad,h1,h2,?_⟩
   have:=h3 0 (.int k x.1) rfl
   simpa[Addr.add]using this
 ·intro z hz
  obtain⟨x,_,rfl⟩:=List.mem_map.1 hz
  exact x.2
end open_
theorem wf_u16 {a:Int}(h:(Lit.int .u16 a).wf=true):0≤a∧a≤65535:=by
 have h1:IntKind.u16.min=0:=by decide
 have h2:IntKind.u16.max=65535:=by decide
 simpa[Lit.wf,h1,h2]using h
theorem Nf.below {P:Program}{f:FuncId}{args:Array Value}{W:World}{r:Value}(hc:jm P f)(hn:Nf P f args W.heap fun v h'=>v=r∧ck W.heap.size W.heap h'):Calls P f args W fun e w'=>e= .returned r∧RowKit.Below W.heap.size W w':=
 match hn with
 | .inl hn=>(hn.2 W rfl).mono fun _ _ ⟨_,he,hk,hv,hu⟩=>⟨by rw[he,hv],hk.2.1,hk.1,hk.2.2,hu.size,hu.at_⟩
 | .inr (.inl ⟨v,h1,_⟩)=>by
  have h2:=hc args W
  rw[h1 W rfl]at h2
  cases h2
 | .inr (.inr hn)=>by
  obtain⟨v,w',h1,_⟩:=hn W rfl
  have h2:=hc args W
  rw[h1]at h2
  cases h2
end Go.Sb
end
