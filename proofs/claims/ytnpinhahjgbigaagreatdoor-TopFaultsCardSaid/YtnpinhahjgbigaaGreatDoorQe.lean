/- What TopFaults stands on, part 5. Conditions: none. -/
import Derived.Test.YtnpinhahjgbigaaGreatDoorQd
import Derived.WideKeyRuns
import Derived.Laws.Externs
import Derived.Lib.Bytealg
import Derived.RangeFuncBox
import Derived.RangeFuncLeaves
import Derived.Shelf.Abstract
import Derived.OwnWalkIn
import Derived.TacticsInMore
import Derived.LoopNIn
import Derived.LoopIn
import Derived.OrdersIn
import Derived.RangeFuncRecord
set_option linter.unusedSimpArgs false
set_option linter.unusedVariables false
set_option linter.unusedSectionVars false
section
namespace Go.Sb
open Go
noncomputable section
def nN (n:Nat)(env:eH):Env:=(List.range n).map fun i=>env.get i
theorem EC (f:Nat→Option Value):∀(l:List Nat) (i:Nat),look (l.map f) i=(l[i]?).bind f
 |[],i=>by simp[look]
 |x::xs,0=>by simp[look]
 |x::xs,i+1=>by simpa[look]using EC f xs i
theorem w8 (n:Nat)(env:eH)(i:Nat):look (nN n env) i=if i<n then env.get i else none:=by
 unfold nN
 rw[EC]
 by_cases h:i<n
 ·simp[h]
 ·simp[h]
structure kE (ρ:Rn) (env:eH) (a:Act):Prop where
 at_:∀i v,env.get i=some v→a.tmps[i]? =some (bk ρ v)
 defers:a.defers=[]
abbrev ED (ρ:Rn)(env:eH)(a:Act):Env:=sk ρ (nN a.tmps.size env)
theorem kE.lt {ρ:Rn}{env:eH}{a:Act}(h:kE ρ env a){i:Nat}{v:Value}(hi:env.get i=some v):i<a.tmps.size:=
 (Array.getElem?_eq_some_iff.1 (h.at_ i v hi)).1
theorem kE.ag {ρ:Rn}{env:eH}{a:Act}(h:kE ρ env a):Ag (ED ρ env a) a where
 size:=by simp[ED,sk,nN]
 at_ i v hv:=by
  rw[so,w8]at hv
  split at hv
  ·cases hg:env.get i with
   |none=>rw[hg]at hv;cases hv
   |some u=>
    rw[hg]at hv
    cases hv
    exact h.at_ i u hg
  ·cases hv
 defers:=h.defers
theorem kE.put {ρ:Rn}{env env':eH}{a:Act}(h:kE ρ env a){d:Nat}{v:Value}(hd:d<a.tmps.size)(he:∀i,env'.get i=if i=d then some v else env.get i):kE ρ env' (a.put (some d) (bk ρ v)) where
 at_ i u hu:=by
  rw[he]at hu
  rw[gB]
  by_cases hi:i=d
  ·subst hi
   rw[if_pos rfl]at hu;cases hu
   rw[if_pos ⟨rfl,hd⟩]
  ·rw[if_neg hi]at hu
   rw[if_neg (fun hc=>hi (Option.some.inj hc.1).symm)]
   exact h.at_ i u hu
 defers:=by rw[put_defers,h.defers]
section env
variable {ρ:Rn}{env:eH}{P:Program}
theorem oB {n:Nat}(hn:∀i v,env.get i=some v→i<n){x:Operand}{v:Value}(h:cY env x=some v):iG 0 x=true∧fF (nN n env) x=some v:=by
 cases x with
 |tmp t=>simp only[cY]at h;exact⟨rfl,by simp only[fF];rw[w8,if_pos (hn t v h),h]⟩
 |const u=>
  simp only[cY]at h
  cases hc:clean 8 u with
  |true=>rw[hc]at h;cases h;exact⟨hc,rfl⟩
  |false=>rw[hc]at h;cases h
 |global g=>simp[cY]at h
 |func f=>simp only[cY]at h;exact⟨rfl,h⟩
theorem fZ {n:Nat}(hn:∀i v,env.get i=some v→i<n):∀{xs:List Operand} {vs:List Value},jQ env xs=some vs→xs.all (iG 0)=true∧iS (nN n env) xs=some vs
 |[],vs,h=>⟨rfl,h⟩
 |x::xs,vs,h=>by
  simp only[jQ]at h
  split at h
  ·rename_i v vs' h1 h2
   cases h
   obtain⟨a1,a2⟩:=oB hn h1
   obtain⟨b1,b2⟩:=fZ hn h2
   exact⟨by simp[a1];simpa using b1,by simp[iS,a2,b2]⟩
  ·cases h
theorem lq {n:Nat}(hn:∀i v,env.get i=some v→i<n):∀{xs:List (Nat×Operand)} {vs:List (Nat×Value)},mM env xs=some vs→xs.all (fun x=>iG 0 x.2)=true∧eo (nN n env) xs=some vs
 |[],vs,h=>⟨rfl,h⟩
 |x::xs,vs,h=>by
  simp only[mM]at h
  split at h
  ·rename_i v vs' h1 h2
   cases h
   obtain⟨a1,a2⟩:=oB hn h1
   obtain⟨b1,b2⟩:=lq hn h2
   exact⟨by simp[a1];simpa using b1,by simp[eo,a2,b2]⟩
  ·cases h
theorem gl0 (ρ:Rn):ρ.gl 0:=fun g hg=>absurd hg (by omega)
theorem jJ {a:Act}(ha:kE ρ env a){x:Operand}{v:Value}(h:cY env x=some v):fF (ED ρ env a) x=some (bk ρ v):=
 let ⟨h1,h2⟩:=oB (fun _ _ hi=>ha.lt hi) h
 eR (gl0 ρ) h1 h2
theorem uC {a:Act}(ha:kE ρ env a){x:List Operand}{v:List Value}(h:jQ env x=some v):iS (ED ρ env a) x=some (v.map (bk ρ)):=
 let ⟨h1,h2⟩:=fZ (fun _ _ hi=>ha.lt hi) h
 jB (gl0 ρ) h1 h2
theorem a6K {a:Act}(ha:kE ρ env a){x:List (Nat×Operand)}{v:List (Nat×Value)}(h:mM env x=some v):eo (ED ρ env a) x=some (v.map fun y=>(y.1,bk ρ y.2)):=
 let ⟨h1,h2⟩:=lq (fun _ _ hi=>ha.lt hi) h
 jY (gl0 ρ) h1 h2
theorem bQ {a:Act}(ha:kE ρ env a){x:Operand}{v:Value}(h:cY env x=some v):a.eval x=bk ρ v:=ha.ag.eval (jJ ha h)
theorem cZ {p:Nat→Prop}(he:∀i v,env.get i=some v→dI p v){x:Operand}{v:Value}(h:cY env x=some v):dI p v:=by
 cases x with
 |tmp t=>exact he t v h
 |const u=>
  simp only[cY]at h
  cases hc:clean 8 u with
  |true=>rw[hc]at h;cases h;exact j6 p hc
  |false=>rw[hc]at h;cases h
 |global g=>simp[cY]at h
 |func f=>simp only[cY,Option.some.injEq]at h;subst h;exact j6 p (n:=1) rfl
theorem oC {p:Nat→Prop}(he:∀i v,env.get i=some v→dI p v):∀{xs:List Operand} {vs:List Value},jQ env xs=some vs→∀v∈vs,dI p v
 |[],vs,h=>by simp only[jQ,Option.some.injEq]at h;subst h;simp
 |x::xs,vs,h=>by
  simp only[jQ]at h
  split at h
  ·rename_i v vs' h1 h2
   cases h
   intro u hu
   rcases List.mem_cons.1 hu with rfl|hu
   ·exact cZ he h1
   ·exact oC he h2 u hu
  ·cases h
theorem w9 {p:Nat→Prop}(he:∀i v,env.get i=some v→dI p v):∀{xs:List (Nat×Operand)} {vs:List (Nat×Value)},mM env xs=some vs→∀v∈vs,dI p v.2
 |[],vs,h=>by simp only[mM,Option.some.injEq]at h;subst h;simp
 |x::xs,vs,h=>by
  simp only[mM]at h
  split at h
  ·rename_i v vs' h1 h2
   cases h
   intro u hu
   rcases List.mem_cons.1 hu with rfl|hu
   ·exact cZ he h1
   ·exact w9 he h2 u hu
  ·cases h
theorem xa {n:Nat}(hn:∀i v,env.get i=some v→i<n){o:Oper}{v:Value}(h:wT P env o.op=some v):uw P 0 o.op=true∧cJ P (nN n env) o=some v:=by
 obtain⟨dst,op,type,pos,after,guard⟩:=o
 have S:=fun {x v} (hx:cY env x=some v)=>oB hn hx
 cases op<;>simp only[wT,reduceCtorEq]at h<;>unfold uw<;>simp only[cJ,Op.operands]
 case move x=>obtain⟨h1,h2⟩:=S h;simp[h1,h2]
 case assign x=>obtain⟨h1,h2⟩:=S h;simp[h1,h2]
 case extract t i=>
  unfold Ai at h
  split at h
  ·rename_i vs ht;obtain⟨h1,h2⟩:=S ht;simp[h1,h2,h]
  ·cases h
 case unOp op t x=>
  unfold e4s at h
  split at h
  ·rename_i b ht;obtain⟨h1,h2⟩:=S ht;cases h;simp[h1,h2]
  ·rename_i k m ht;obtain⟨h1,h2⟩:=S ht;cases h;simp[h1,h2]
  ·cases h
 case binOp op t x y yt=>
  unfold b6E at h
  split at h
  ·rename_i vx vy hx hy
   obtain⟨h1,h2⟩:=S hx
   obtain⟨h3,h4⟩:=S hy
   refine⟨by simp[h1,h3],?_⟩
   simp only[h2,h4]
   unfold a6y at h
   split at h
   ·rename_i k a k' b
    split at h
    ·rename_i hk
     have hk:k=k':=by simpa using hk
     subst hk
     simpa[dR]using h
    ·cases h
   ·exact h
  ·cases h
 case convert s d x=>
  unfold a6z at h
  split at h
  ·rename_i k m hx
   obtain⟨h1,h2⟩:=S hx
   refine⟨by simp[h1],?_⟩
   split at h
   ·rename_i hs hd;simp only[hs,hd,h2];exact h
   ·cases h
  ·cases h
 case field t x f=>
  unfold KA at h
  split at h
  ·rename_i fs cs hu hx
   obtain⟨h1,h2⟩:=S hx
   refine⟨by simp[h1],?_⟩
   simp only[hu,h2]
   split at h
   ·rename_i g hg
    simp only[hg]
    split at h
    ·rename_i d m hd hm
     simp only[hd,hm]
     split at h
     ·rename_i dH;rw[if_pos dH];exact h
     ·rename_i dH;rw[if_neg (by simp[dH])];exact h
    ·cases h
   ·cases h
  ·cases h
 case build t parts=>
  unfold KB at h
  split at h
  ·rename_i fs z ps hu hz hps
   obtain⟨h1,h2⟩:=lq hn hps
   split at h
   ·rename_i pl T4 mC
    refine⟨by simp only[hz,mC,Bool.and_true,List.all_map];exact h1,?_⟩
    simp only[hu,hz,h2,T4]
    exact h
   ·cases h
  ·rename_i m e z ps hu hz hps
   obtain⟨h1,h2⟩:=lq hn hps
   split at h
   ·rename_i sz hsz mC
    refine⟨by simp only[hz,mC,Bool.and_true,List.all_map];exact h1,?_⟩
    simp only[hu,hz,h2,hsz]
    exact h
   ·cases h
  ·cases h
 case makeFunc fn first cap=>
  unfold a6A at h
  split at h
  ·rename_i x y hx hy
   obtain⟨h1,h2⟩:=fZ hn hx
   obtain⟨h3,h4⟩:=fZ hn hy
   refine⟨by rw[Array.toList_append,List.all_append,h1,h3];rfl,?_⟩
   simp only[h2,h4];exact h
  ·cases h
 case call c=>
  obtain⟨callee,args,ts⟩:=c
  simp only[Call.operands]at h ⊢
  split at h
  ·dsimp only
   unfold b6F at h
   split at h
   ·rename_i p m c t ts' hargs hts
    obtain⟨h1,h2⟩:=fZ hn hargs
    split at h
    ·rename_i e hu
     refine⟨?_,?_⟩
     ·simp only[hts,hu,Bool.and_true];simpa using h1
     ·simp only[h2,hts,hu];exact h
    ·cases h
   ·rename_i b t ts' hargs hts
    obtain⟨h1,h2⟩:=fZ hn hargs
    split at h
    ·rename_i hu
     refine⟨?_,?_⟩
     ·simp only[hts,hu,Bool.and_true];simpa using h1
     ·simp only[h2,hts,hu];exact h
    ·cases h
   ·cases h
  ·dsimp only
   unfold b6G at h
   split at h
   ·rename_i k x vs hargs
    obtain⟨h1,h2⟩:=fZ hn hargs
    exact⟨by simpa using h1,by simp only[h2];exact h⟩
   ·cases h
  ·dsimp only
   unfold b6H at h
   split at h
   ·rename_i k x vs hargs
    obtain⟨h1,h2⟩:=fZ hn hargs
    exact⟨by simpa using h1,by simp only[h2];exact h⟩
   ·cases h
  ·cases h
theorem b4F {a:Act}(ha:kE ρ env a){o:Oper}{v:Value}(h:wT P env o.op=some v):cJ P (ED ρ env a) o=some (bk ρ v):=
 let ⟨h1,h2⟩:=xa (fun _ _ hi=>ha.lt hi) h
 pS (gl0 ρ) h1 h2
theorem SY {p:Nat→Prop}(he:∀i v,env.get i=some v→dI p v){n:Nat}(hn:∀i v,env.get i=some v→i<n){o:Oper}{v:Value}(h:wT P env o.op=some v):dI p v:=by
 intro ρ ρ' hag
 obtain⟨h1,h2⟩:=xa hn h
 have e1:=pS (gl0 ρ) h1 h2
 have e2:=pS (gl0 ρ') h1 h2
 have:sk ρ' (nN n env)=sk ρ (nN n env):=by
  unfold sk nN
  rw[List.map_map,List.map_map]
  refine List.map_congr_left fun i _=>?_
  cases hg:env.get i with
  |none=>simp[hg]
  |some u=>simp[hg,he i u hg ρ ρ' hag]
 rw[this,e1]at e2
 exact (Option.some.inj e2).symm
end env
end
end Go.Sb
end
section
namespace Go.Sb
open Go
noncomputable section
def yo (P:Program)(a:Act)(o:Oper)(w:World)(F:Value→Hp→Prop):Prop:=
 ∀(next:Act→World→Prop) (Qx:Exit→Act→World→Prop),(∀u w',Kept w w'→F u w'.heap→next (a.put o.dst u) w')→o.wp P a w next Qx
def Out (ρ:Rn)(p:Nat→Prop)(s:St)(h:Hp)(v:Value)(s':St)(u:Value)(h':Hp):Prop:=
 ∃ρ',u=bk ρ' v∧m7 ρ p s.get h s.nx s'.nx ρ' s'.get h'∧dI (pn p s.nx s'.nx) v
def Good (P:Program)(ρ:Rn)(p:Nat→Prop)(s:St)(a:Act)(o:Oper)(w:World)(v:Value)(s':St):Prop:=
 yo P a o w (Out ρ p s w.heap v s')
def kF (F:Value→Hp→Prop)(u:Value):M Unit:=fun h' _=>F u h'
section addr
theorem Rn.EE (ρ:Rn)(x:Addr)(k:Nat):ρ.a (x.add k)=(ρ.a x).add k:=by
 unfold Addr.add Rn.a;split<;>rfl
theorem dI.ptr {p:Nat→Prop}{x:Addr}:dI p (.pointer (some x))↔∀ρ ρ',B0 p ρ ρ'→ρ'.b x.block=ρ.b x.block:=by
 unfold dI
 simp only[dS,Option.map_some,Value.pointer.injEq,Option.some.injEq]
 constructor
 ·intro h ρ ρ' ha
  have:=h ρ ρ' ha
  unfold Rn.a at this
  exact (Addr.mk.inj this).1
 ·intro h ρ ρ' ha
  unfold Rn.a
  rw[h ρ ρ' ha]
theorem dI.B8 {p:Nat→Prop}{x:Addr}(h:dI p (.pointer (some x)))(k:Nat):dI p (.pointer (some (x.add k))):=by
 rw[dI.ptr]at h ⊢
 have:(x.add k).block=x.block:=by unfold Addr.add;split<;>rfl
 rw[this];exact h
theorem dI.a6L {p:Nat→Prop}{x:Addr}{n c:Nat}(h:dI p (.slice (some x) n c)):dI p (.pointer (some x)):=by
 rw[dI.ptr]
 intro ρ ρ' ha
 have:=h ρ ρ' ha
 rw[eQ,eQ]at this
 simp only[Value.slice.injEq,Option.some.injEq]at this
 unfold Rn.a at this
 exact (Addr.mk.inj this.1).1
theorem Rn.EF {ρ:Rn}{a:Addr}{c:Nat}(h:c<dg):ρ.c a c=c:=by
 unfold Rn.c;rw[show Nat.blt c dg=true from Nat.ble_eq_true_of_le h]
theorem Rn.ua {ρ:Rn}{a:Addr}{c:Nat}(h:¬c<dg):ρ.c a c=c-dg+ρ.m a.block:=by
 unfold Rn.c
 cases hb:Nat.blt c dg with
 |true=>exact absurd (Nat.le_of_ble_eq_true hb) h
 |false=>rfl
theorem dI.sl {p:Nat→Prop}{x y:Addr}{n c n' c':Nat}(h:dI p (.slice (some x) n c))(hy:y.block=x.block)(hc:c'<dg∨(¬c<dg∧¬c'<dg)):dI p (.slice (some y) n' c'):=by
 intro ρ ρ' ha
 have h1:=dI.ptr.1 h.a6L ρ ρ' ha
 have h2:=h ρ ρ' ha
 rw[eQ,eQ]at h2 ⊢
 simp only[Value.slice.injEq,Option.some.injEq]at h2 ⊢
 refine⟨by unfold Rn.a;rw[hy,h1],trivial,?_⟩
 rcases hc with hc|⟨hc1,hc2⟩
 ·rw[Rn.EF hc,Rn.EF hc]
 ·rw[Rn.ua hc2,Rn.ua hc2,hy]
  rw[Rn.ua hc1,Rn.ua hc1]at h2
  omega
theorem dI.agg {p:Nat→Prop}{cs:List Value}(h:∀v∈cs,dI p v):dI p (.agg cs.toArray):=by
 intro ρ ρ' ha
 rw[ej,ej]
 congr 1
 apply Array.ext'
 simp only[Array.toList_map]
 exact ll ha h
theorem dI.tuple {p:Nat→Prop}{cs:List Value}(h:∀v∈cs,dI p v):dI p (.tuple cs.toArray):=by
 intro ρ ρ' ha
 rw[eG,eG]
 congr 1
 apply Array.ext'
 simp only[Array.toList_map]
 exact ll ha h
theorem dI.cells {p:Nat→Prop}{v:Value}(h:dI p v):∀c∈v.cells.toList,dI p c:=by
 intro c hc ρ ρ' ha
 have h1:=congrArg (fun u=>u.cells.toList) (h ρ ρ' ha)
 simp only[fp,Array.toList_map]at h1
 exact List.map_inj_left.1 h1 c hc
end addr
section op
variable {P:Program}{ρ:Rn}{p:Nat→Prop}{s:St}{env:eH}{a:Act}{w:World}{o:Oper}
theorem df {v:Value}(hm:lp ρ p s.get w.heap)(hs:dI p v)(hrun:(execOp a.eval o).run P w= .ok (.value (bk ρ v)) w):Good P ρ p s a o w v s:=
 fun _ _ hn=>bV hrun (hn _ w (.refl w) ⟨ρ,rfl,.refl hm _,hs.mono fun _=>.inl⟩)
theorem xc {b:Bl}{f:Nat→Value}{v:Value}{s':St}{ob:Obj}{m:Nat}{w':World}(hm:lp ρ p s.get w.heap)(hp:∀n,s.nx≤n→n<s'.nx→¬p n)(f2C:s.gz b (fun n s'=>some (f n,s'))=some (v,s'))(hb:oY p b)
  (hok:wY (ρ.ext s.nx w.heap.size m) (w.heap.push ob) s.nx b) (hw:w'.heap=w.heap.push ob) (hk:Kept w w') (hrun:(execOp a.eval o).run P w= .ok (.value (bk (ρ.ext s.nx w.heap.size m) (f s.nx))) w')
  (sw:dI (pn p s.nx (s.nx+1)) (f s.nx)):Good P ρ p s a o w v s':=by
 obtain⟨s1,he,_,kv,hg⟩:=fu f2C
 cases he
 intro next Qx hn
 refine bV hrun (hn _ w' hk ⟨_,rfl,?_,by rw[kv];exact sw⟩)
 rw[hw,kv]
 exact uA hm (hp s.nx (Nat.le_refl _) (by omega)) hb hg hok
theorem b4G (p:Nat→Prop)(n:Nat):dI (pn p n (n+1)) (.pointer (some ⟨n,0,none⟩)):=by
 rw[dI.ptr]
 intro ρ ρ' ha
 exact (ha n (.inr ⟨by omega,by omega⟩)).1
theorem nO (p:Nat→Prop)(n k c:Nat):dI (pn p n (n+1)) (.slice (some ⟨n,0,none⟩) k c):=by
 intro ρ ρ' ha
 obtain⟨h1,h2⟩:=ha n (.inr ⟨by omega,by omega⟩)
 rw[eQ,eQ]
 unfold Rn.a Rn.c
 simp only[h1,h2]
theorem uD {p:Nat→Prop}{n b m:Nat}(hp:¬p n){cs:List Value}(h:∀v∈cs,dI p v):cs.map (bk (ρ.ext n b m))=cs.map (bk ρ):=ll (Rn.B3 hp) h
theorem a6M {h:Hp}{n m sz:Nat}{op:Bool}{cs ex:List Value}{T:TypeId}(hp:¬p n)(hs:∀v∈cs,dI p v)(hex:ex.length=if op then m*sz else 0):
  wY (ρ.ext n h.size m) (h.push (.cells (cs.map (bk ρ)++ex).toArray T)) n (.cl cs sz op):=by
 refine⟨ex,?_,?_⟩
 ·rw[uD hp hs]
  have:(ρ.ext n h.size m).b n=h.size:=by simp[Rn.ext]
  rw[this]
  exact lH.new _ _ _
 ·rw[hex];simp[Rn.ext]
theorem tD {cs:List Value}{v:Value}{s':St}{T:TypeId}(hm:lp ρ p s.get w.heap)(hp:∀n,s.nx≤n→n<s'.nx→¬p n)(h:BL s cs=some (v,s'))(hs:∀c∈cs,dI p c)
  (hrun:(execOp a.eval o).run P w= .ok (.value (.pointer (some ⟨w.heap.size,0,none⟩))) { w with heap:=w.heap.push (.cells (cs.map (bk ρ)).toArray T)}):Good P ρ p s a o w v s':=by
 have kv:s'.nx=s.nx+1:=by
  obtain⟨s1,he,_,kv,_⟩:=fu h;cases he;exact kv
 have ri:=hp s.nx (Nat.le_refl _) (by omega)
 refine xc (m:=0) (ob:=.cells (cs.map (bk ρ)++[]).toArray T) (w':={ w with heap:=w.heap.push (.cells (cs.map (bk ρ)).toArray T)}) hm hp h hs (a6M (ex:=[]) (T:=T) ri hs rfl) (by simp) (Kept.heap w _) ?_ (b4G p _)
 rw[hrun,dS]
 simp[Rn.a,Rn.ext]
theorem SZ {cs:List Value}{v:Value}{s':St}{T:TypeId}{z n:Nat}(hm:lp ρ p s.get w.heap)(hp:∀n,s.nx≤n→n<s'.nx→¬p n){c:Nat}(hc:c<dg)(h:q7 s cs z false n c=some (v,s'))(hs:∀c∈cs,dI p c)
  (hout:yo P a o w fun u h'=>u= .slice (some ⟨w.heap.size,0,none⟩) n c∧h'=w.heap.push (.cells (cs.map (bk ρ)).toArray T)):Good P ρ p s a o w v s':=by
 obtain⟨s1,he,_,kv,hg⟩:=fu h
 cases he
 have ri:=hp s.nx (Nat.le_refl _) (by omega)
 intro next Qx hn
 refine hout next Qx fun u w' hk hu=>hn u w' hk ?_
 refine⟨ρ.ext s.nx w.heap.size 0,?_,?_,by rw[kv];exact nO p _ _ _⟩
 ·rw[hu.1,eQ,Rn.EF hc]
  simp[Rn.a,Rn.ext]
 ·rw[hu.2,kv]
  have:=uA (m:=0) (b:=.cl cs z false) hm ri hs hg (a6M (ex:=[]) (T:=T) ri hs rfl)
  simpa using this
theorem yo.ev {F:Value→Hp→Prop}{E:Env}(aH:ee P E o (kF F) w.heap (fun _ _=>True))(ha:Ag E a):yo P a o w F:=
 fun _ _ hn=>iV aH ha hn
theorem Iq {cs:List Value}{v:Value}{s':St}{T:TypeId}{z n:Nat}(hm:lp ρ p s.get w.heap)(hp:∀n,s.nx≤n→n<s'.nx→¬p n){c:Nat}(hc:c<dg)(h:q7 s cs z false n c=some (v,s'))(hs:∀c∈cs,dI p c)
  (hrun:(execOp a.eval o).run P w= .ok (.value (.slice (some ⟨w.heap.size,0,none⟩) n c)) { w with heap:=w.heap.push (.cells (cs.map (bk ρ)).toArray T)}):Good P ρ p s a o w v s':=by
 have kv:s'.nx=s.nx+1:=by
  obtain⟨s1,he,_,kv,_⟩:=fu h;cases he;exact kv
 have ri:=hp s.nx (Nat.le_refl _) (by omega)
 refine xc (m:=0) (ob:=.cells (cs.map (bk ρ)++[]).toArray T) (w':={ w with heap:=w.heap.push (.cells (cs.map (bk ρ)).toArray T)}) hm hp h hs (a6M (ex:=[]) (T:=T) ri hs rfl) (by simp) (Kept.heap w _) ?_ (nO p _ _ _)
 rw[hrun,eQ,Rn.EF hc]
 simp[Rn.a,Rn.ext]
theorem oD (hm:lp ρ p s.get w.heap){x:Addr}{n:Nat}{cs:List Value}(h:s.rd x n=some cs):hcells w.heap (ρ.a x) 0 n=some (cs.map (bk ρ))∧cs.length=n∧∀c∈cs,dI p c:=by
 unfold St.rd at h
 split at h
 ·rename_i l z op hsp hg
  split at h
  ·rename_i hle
   cases h
   have hle:=Nat.le_of_ble_eq_true hle
   obtain⟨ex,hb,_⟩:=hm.ok _ _ hg
   obtain⟨bl,off,sp⟩:=x
   simp only at hsp hg hle
   subst hsp
   refine⟨?_,by simp;omega,fun c hc=>(hm.sup _ _ hg).2 c (List.mem_of_mem_drop (List.mem_of_mem_take hc))⟩
   show hcells w.heap ⟨ρ.b bl,off,none⟩ 0 n=_
   rw[tC hb n off 0 (by simp;omega)]
   rw[Nat.add_zero,List.drop_append_of_le_length (by simp;omega),List.take_append_of_le_length (by simp;omega)]
   rw[List.map_take,List.map_drop]
  ·cases h
 ·cases h
theorem mP {h:Hp}{a:Addr}{v:Value}(hh:hcells h a 0 1=some [v]):hcell h a=some v:=by
 simp only[hcells]at hh
 have:a.add 0=a:=by unfold Addr.add;simp
 rw[this]at hh
 cases hc:hcell h a with
 |none=>rw[hc]at hh;simp at hh
 |some u=>rw[hc]at hh;simp at hh;rw[hh]
theorem EG (hm:lp ρ p s.get w.heap){t:TypeId}{x:Addr}{v:Value}(h:rdT P s t x=some v):(loadVar t (ρ.a x)).run P w= .ok (bk ρ v) w∧dI p v:=by
 unfold rdT at h
 split at h
 ·rename_i d n hd hn
  split at h
  ·rename_i dH
   split at h
   ·rename_i cs hcs
    cases h
    obtain⟨h1,h2,h3⟩:=oD hm hcs
    refine⟨?_,dI.agg h3⟩
    unfold loadVar loadCells
    simp only[Sem.run_bind,fc hd,Result.andThen_ok,dH,if_true,run_sizeOf hn]
    rw[il n 0 _ #[] h1 w rfl,ej]
    simp
   ·cases h
  ·rename_i dH
   split at h
   ·rename_i c hcs
    cases h
    obtain⟨h1,h2,h3⟩:=oD hm hcs
    refine⟨?_,h3 _ (by simp)⟩
    unfold loadVar
    simp only[Sem.run_bind,fc hd,Result.andThen_ok,dH,Bool.false_eq_true,if_false]
    exact gC (mP h1)
   ·cases h
 ·cases h
theorem nP:∀{vs:List Value},St.su vs=true→∀(ρ:Rn),∀v∈vs.map (bk ρ),v.oneCell'=true
 |[],_,ρ=>by simp
 |x::xs,h,ρ=>by
  have hx:(bk ρ x).oneCell'=true∧St.su xs=true:=by
   cases x<;>simp only[St.su,Bool.false_eq_true]at h<;>refine⟨?_,h⟩
   all_goals first
    |(simp[Value.oneCell'];done)
    |(rw[dS];rfl)
    |(rw[lg];rfl)
    |(rw[gL];rfl)
    |(rw[dO];rfl)
    |(rename_i q n c;obtain⟨c',hc⟩:=l9 ρ q n c;rw[hc];rfl)
    |(rw[show bk ρ _=_ from by rw[bk]<;>simp];rfl)
  intro v hv
  rcases List.mem_cons.1 hv with rfl|hv
  ·exact hx.1
  ·exact nP hx.2 ρ v hv
theorem Ak {α:Type}(hm:lp ρ p s.get w.heap){x:Addr}{vs:List Value}{k:St→Option α}{r:α}(h:s.SX x vs k=some r)(hs:∀v∈vs,dI p v):
  ∃s1,k s1=some r∧nr s s1∧s1.nx=s.nx∧(∀v∈vs.map (bk ρ),v.oneCell'=true)∧hfree w.heap (ρ.a x) 0 vs.length∧m7 ρ p s.get w.heap s.nx s1.nx ρ s1.get (dQ w.heap (ρ.a x) 0 (vs.map (bk ρ))):=by
 unfold St.SX at h
 split at h
 ·rename_i cs z op hsp hg hone
  split at h
  ·rename_i hle
   have hle:=Nat.le_of_ble_eq_true hle
   obtain⟨s1,h1,h2,h3,h4⟩:=gZ h hg
   obtain⟨ex,hb,hex⟩:=hm.ok _ _ hg
   obtain⟨bl,off,sp⟩:=x
   simp only at hsp hg hle h4 hb hex
   subst hsp
   have hl:off+0+(vs.map (bk ρ)).length≤(cs.map (bk ρ)++ex).length:=by simp;omega
   obtain⟨hb2,hk2⟩:=pW (vs.map (bk ρ)) w.heap off 0 _ hb hl
   refine⟨s1,h1,h2,h3,nP hone ρ,?_,?_⟩
   ·have:=wX (o:=off) (n:=vs.length) hb (by simp;omega)
    exact this
   ·rw[h3]
    refine uB hm hg h4 (kD _ _ _) (fun c hc=>?_) ?_
    ·rcases Nat.lt_or_ge c w.heap.size with hl|hl
     ·exact hk2.2 c hl hc
     ·rw[Array.getElem?_eq_none hl,Array.getElem?_eq_none (by rw[kD];exact hl)]
    ·intro b hbb
     cases hbb
     constructor
     ·intro v hv
      simp only[List.mem_append]at hv
      rcases hv with hv|hv|hv
      ·exact (hm.sup _ _ hg).2 v (List.mem_of_mem_take hv)
      ·exact hs v hv
      ·exact (hm.sup _ _ hg).2 v (List.mem_of_mem_drop hv)
     ·refine⟨ex,?_,hex⟩
      have e:(cs.take off++(vs++cs.drop (off+vs.length))).map (bk ρ)++ex=(cs.map (bk ρ)++ex).take (off+0)++vs.map (bk ρ)++(cs.map (bk ρ)++ex).drop (off+0+(vs.map (bk ρ)).length):=by
       rw[Nat.add_zero,List.take_append_of_le_length (by simp;omega),List.drop_append_of_le_length (by simp;omega)]
       simp[List.map_take,List.map_drop]
      rw[e]
      exact hb2
  ·cases h
 ·cases h
end op
end
end Go.Sb
end
section
namespace Go.Sb
open Go
noncomputable section
section reps
variable {ρ:Rn}
theorem KI (z:Array Value):∀n,(eK z n).toList=reps n z.toList:=by
 intro n
 induction n with
 |zero=>simp[eK,reps]
 |succ n ih=>
  rw[reps,←ih]
  unfold eK
  apply List.ext_getElem
  ·simp[Nat.succ_mul,Nat.add_comm]
  ·intro i h1 h2
   simp only[Array.getElem_toList,Array.getElem_map,Array.getElem_range]
   by_cases hi:i<z.toList.length
   ·rw[List.getElem_append_left hi]
    have:i<z.size:=by simpa using hi
    rw[Nat.mod_eq_of_lt this]
    simp[this]
   ·rw[List.getElem_append_right (by omega)]
    simp only[Array.getElem_toList,Array.getElem_map,Array.getElem_range,Array.length_toList]
    have hz:¬i<z.size:=by simpa using hi
    congr 1
    rw[Nat.mod_eq_sub_mod (by omega)]
theorem xd {l:List Value}:∀{n:Nat} {v:Value},v∈reps n l→v∈l
 |0,v,h=>by simp[reps]at h
 |n+1,v,h=>by
  simp only[reps,List.mem_append]at h
  exact h.elim id xd
theorem xe {l:List Value}(hl:l.map (bk ρ)=l):∀n,(reps n l).map (bk ρ)=reps n l
 |0=>rfl
 |n+1=>by simp only[reps,List.map_append,hl,xe hl n]
theorem rj {u:Value}:∀{vs cs:List Value} {i:Nat},u∈setCells cs i vs→u∈cs∨u∈vs
 |[],cs,i,h=>.inl h
 |v::vs,cs,i,h=>by
  rcases rj (vs:=vs) (cs:=cs.set i v) (i:=i+1) h with h|h
  ·rcases List.mem_or_eq_of_mem_set h with h|h
   ·exact .inl h
   ·exact .inr (by simp[h])
  ·exact .inr (by simp[h])
theorem Al {u:Value}{place:Nat→Option (Nat×Nat)}:∀{ps:List (Nat×Value)} {cells cs:List Value},gU place cells ps=some cs→u∈cs→u∈cells∨∃q∈ps,u∈q.2.cells.toList
 |[],cells,cs,h,hu=>by simp only[gU,Option.some.injEq]at h;subst h;exact .inl hu
 |(i,v)::ps,cells,cs,h,hu=>by
  simp only[gU]at h
  cases hp:place i with
  |none=>rw[hp]at h;cases h
  |some q=>
   obtain⟨off,size⟩:=q
   rw[hp]at h
   simp only[]at h
   split at h
   ·rcases Al h hu with h1|⟨q,h1,h2⟩
    ·rcases rj h1 with h1|h1
     ·exact .inl h1
     ·exact .inr ⟨(i,v),by simp,h1⟩
    ·exact .inr ⟨q,by simp[h1],h2⟩
   ·cases h
end reps
section op
variable {P:Program}{ρ:Rn}{p:Nat→Prop}{s:St}{env:eH}{a:Act}{w:World}{dst:Option Tmp}{type:TypeId}{pos:String}{after:Array Edge}{guard:Option (Nat×Bool)}
variable (hm:lp ρ p s.get w.heap)(he:∀i v,env.get i=some v→dI p v)(ha:kE ρ env a)
include hm he ha
theorem S0 {o:Oper}{v:Value}(h:wT P env o.op=some v):Good P ρ p s a o w v s:=
 df hm (SY he (fun _ _ hi=>ha.lt hi) h) (dw (b4F ha h) ha.ag w)
theorem Ir {c x y:Operand}{v:Value}{s':St}(h:KD s env c x y=some (v,s')):Good P ρ p s a ⟨dst,.pick c x y,type,pos,after,guard⟩ w v s':=by
 unfold KD at h
 split at h
 ·rename_i hc
  split at h
  ·rename_i u hx
   cases h
   refine df hm (cZ he hx) ?_
   simp only[execOp,bQ ha hc,bQ ha hx,eZ]
   rfl
  ·cases h
 ·rename_i hc
  split at h
  ·rename_i u hx
   cases h
   refine df hm (cZ he hx) ?_
   simp only[execOp,bQ ha hc,bQ ha hx,eZ]
   rfl
  ·cases h
 ·cases h
theorem S1 {x:Operand}{v:Value}{s':St}(h:b4w s env x=some (v,s')):Good P ρ p s a ⟨dst,.nilCheck x,type,pos,after,guard⟩ w v s':=by
 unfold b4w at h
 split at h
 ·rename_i ad hx
  cases h
  refine df hm (cZ he hx) ?_
  simp only[execOp,bQ ha hx,dS]
  rfl
 ·rename_i g f c hx
  cases h
  refine df hm (cZ he hx) ?_
  simp only[execOp,bQ ha hx,gL]
  rfl
 ·cases h
theorem S2 {op:BinOp}{t:TypeId}{x y:Operand}{yt:TypeId}{v:Value}{s':St}(h:b4x P s env op t x y=some (v,s')):Good P ρ p s a ⟨dst,.binOp op t x y yt,type,pos,after,guard⟩ w v s':=by
 unfold b4x at h
 split at h
 ·rename_i k m k' n hx hy
  have ex:=bQ ha hx
  have ey:=bQ ha hy
  simp only[bY]at ex ey
  have hg:(eqGuard op t x y (.int k m) (.int k' n)).run P w= .ok () w:=ik (by simp) (by simp) w
  have fin:∀u:Value,(∀ρ,bk ρ u=u)→(binOp op t (.int k m) (.int k' n)).run P w= .ok u w→Good P ρ p s a ⟨dst,.binOp op t x y yt,type,pos,after,guard⟩ w u s:=fun u hu hr=>
   df hm (fun ρ ρ' _=>by rw[hu,hu]) (by
    rw[hu]
    simp only[execOp,ex,ey]
    exact Sem.aO _ w (by rw[Sem.run_bind,hg,Result.andThen_ok,hr]))
  unfold a6B at h
  split at h
  ·split at h
   ·rename_i h0
    cases h
    have h0:0≤n:=by simpa using h0
    refine fin _ (fun _=>by simp) ?_
    have:¬n<0:=by omega
    simp[binOp,Op.shift,this]
   ·cases h
  ·split at h
   ·rename_i h0
    cases h
    have h0:0≤n:=by simpa using h0
    refine fin _ (fun _=>by simp) ?_
    have:¬n<0:=by omega
    simp[binOp,Op.shift,this]
   ·cases h
  ·split at h
   ·rename_i hk h0
    cases h
    have hk:k=k':=by simpa using hk
    have h0:¬n=0:=by simpa using h0
    subst hk
    refine fin _ (fun _=>by simp) ?_
    simp[binOp,Op.intDiv,h0]
   ·cases h
  ·split at h
   ·rename_i hk h0
    cases h
    have hk:k=k':=by simpa using hk
    have h0:¬n=0:=by simpa using h0
    subst hk
    refine fin _ (fun _=>by simp) ?_
    simp[binOp,Op.intDiv,h0]
   ·cases h
  ·cases h
 ·rename_i hx hy
  have ex:=bQ ha hx
  have ey:=bQ ha hy
  simp only[BJ]at ex ey
  have run:∀{u:Value} {ms:_},P.underlying t=some (.interface ms)→(op= .eql∧u= .bool true∨op= .neq∧u= .bool false)→y= .const .nilIface→(execOp a.eval ⟨dst,.binOp op t x y yt,type,pos,after,guard⟩).run P w= .ok (.value u) w:=by
   intro u ms hu ho hyy
   subst hyy
   simp only[execOp,ex,ey]
   refine Sem.aO _ w ?_
   have hg:(eqGuard op t x (.const .nilIface) .nilIface .nilIface).run P w= .ok () w:=by
    unfold eqGuard
    rcases ho with ⟨rfl,-⟩|⟨rfl,-⟩<;>simp
   rw[Sem.run_bind,hg,Result.andThen_ok]
   have heq:(Op.equal t .nilIface .nilIface).run P w= .ok true w:=by
    unfold Op.equal
    rw[show Op.maxDepth=9999+1 from rfl,Op.equalIn,Sem.run_bind,run_underlying hu]
    rfl
   rcases ho with ⟨rfl,rfl⟩|⟨rfl,rfl⟩<;>simp[binOp,heq]
  split at h
  ·rename_i ms hu
   cases h
   exact df hm (fun ρ ρ' _=>by simp) (by rw[eZ];exact run hu (.inl ⟨rfl,rfl⟩) rfl)
  ·rename_i ms hu
   cases h
   exact df hm (fun ρ ρ' _=>by simp) (by rw[eZ];exact run hu (.inr ⟨rfl,rfl⟩) rfl)
  ·cases h
 ·cases h
theorem Is {t:TypeId}{x:Operand}{v:Value}{s':St}(h:KE P s env t x=some (v,s')):Good P ρ p s a ⟨dst,.load t x,type,pos,after,guard⟩ w v s':=by
 unfold KE at h
 split at h
 ·rename_i ad hx
  split at h
  ·rename_i u hu
   cases h
   obtain⟨h1,h2⟩:=EG (P:=P) hm hu
   refine df hm h2 ?_
   simp only[execOp,bQ ha hx,dS,Option.map_some]
   exact Sem.aO _ w (by simp only[Instr.loadAt,Instr.sureAddr,Sem.run_bind,Sem.run_pure,Result.andThen_ok];exact h1)
  ·cases h
 ·cases h
theorem EH {t:TypeId}{x y:Operand}{v:Value}{s':St}(h:BM P s env t x y=some (v,s')):Good P ρ p s a ⟨dst,.store t x y,type,pos,after,guard⟩ w v s':=by
 unfold BM at h
 split at h
 ·rename_i ad u n hx hy hn
  split at h
  ·rename_i hl
   have hl:u.cells.toList.length=n:=Nat.eq_of_beq_eq_true hl
   obtain⟨s1,h1,h2,h3,h4,h5,h6⟩:=Ak hm h (cZ he hy).cells
   cases h1
   intro next Qx kv
   have ub:(bk ρ u).cells.toList=u.cells.toList.map (bk ρ):=by rw[fp];simp
   refine rL (w':={ w with heap:=dQ w.heap (ρ.a ad) 0 (u.cells.toList.map (bk ρ))}) ?_ (kv _ _ (Kept.heap w _) ⟨ρ,(dP ρ).symm,h6,fun ρ ρ' _=>by rw[dP,dP]⟩)
   simp only[execOp,bQ ha hx,bQ ha hy,dS,Option.map_some]
   have:=mz (P:=P) (t:=t) (a:=ρ.a ad) (v:=bk ρ u) (w:=w) hn (by rw[ub];simpa using hl) (gV _ 0 w.heap (by rw[ub];exact h4) (by rw[ub];simpa using h5) w rfl)
   rw[ub]at this
   simp only[Instr.storeAt,Instr.sureAddr,Sem.run_bind,Sem.run_pure,Result.andThen_ok,this]
  ·cases h
 ·cases h
theorem EI {T:TypeId}{v:Value}{s':St}(hp:∀n,s.nx≤n→n<s'.nx→¬p n)(h:BN P s T=some (v,s')):Good P ρ p s a ⟨dst,.alloc T,type,pos,after,guard⟩ w v s':=by
 unfold BN at h
 split at h
 ·rename_i z hz
  split at h
  ·rename_i hc
   have hsz:z.cells.toList.map (bk ρ)=z.cells.toList:=by rw[←Array.toList_map,←fp,dC ρ 8 z hc]
   refine tD (T:=T) hm hp h (j6 p hc).cells ?_
   rw[hsz]
   simp only[execOp]
   refine Sem.aO _ w ?_
   simp[Instr.alloc,cE hz,newVar,newRow]
  ·cases h
 ·cases h
theorem S3 {T:TypeId}{x:Operand}{v:Value}{s':St}(hp:∀n,s.nx≤n→n<s'.nx→¬p n)(h:b4y s env x=some (v,s')):Good P ρ p s a ⟨dst,.box T x,type,pos,after,guard⟩ w v s':=by
 unfold b4y at h
 split at h
 ·rename_i u hx
  refine tD (T:=T) hm hp h (cZ he hx).cells ?_
  simp only[execOp,bQ ha hx]
  refine Sem.aO _ w ?_
  rw[show (List.map (bk ρ) u.cells.toList).toArray=(bk ρ u).cells from by rw[fp,←Array.toList_map]]
  simp[Instr.box,newVar,newRow]
 ·cases h
end op
end
end Go.Sb
end
section
namespace Go.Sb
open Go
noncomputable section
section op
variable {P:Program}{ρ:Rn}{p:Nat→Prop}{s:St}{env:eH}{a:Act}{w:World}{dst:Option Tmp}{type:TypeId}{pos:String}{after:Array Edge}{guard:Option (Nat×Bool)}
variable (hm:lp ρ p s.get w.heap)(he:∀i v,env.get i=some v→dI p v)(ha:kE ρ env a)
include hm he ha
theorem jk {o:Oper}{v:Value}(hs:dI p v)(hq:er o.op=true)(aH:ee P (ED ρ env a) o (kF fun u _=>u=bk ρ v) w.heap (fun _ _=>True)):Good P ρ p s a o w v s:=by
 obtain⟨u,h1,h2⟩:=iU aH ha.ag hq
 exact df hm hs (h2 ▸ h1 w fun _=>rfl)
theorem EJ {st:TypeId}{x:Operand}{f:Nat}{v:Value}{s':St}(h:BR P s env st x f=some (v,s')):Good P ρ p s a ⟨dst,.fieldAddr st x f,type,pos,after,guard⟩ w v s':=by
 unfold BR at h
 split at h
 ·rename_i fs ad hu hx
  split at h
  ·rename_i g hg
   split at h
   ·rename_i n hn
    cases h
    refine jk hm he ha ((cZ he hx).B8 _) rfl ?_
    have hE:=jJ ha hx
    rw[dS]at hE
    unfold ee
    simp only[show cJ P (ED ρ env a) ⟨dst,.fieldAddr st x f,type,pos,after,guard⟩=none from rfl,hu,hE,hg,hn,Option.map_some,ax]
    rw[if_neg (by simp),dS]
    simp[Rn.EE,kF]
   ·cases h
  ·cases h
 ·cases h
theorem It {t:TypeId}{x i:Operand}{v:Value}{s':St}(h:KF P s env t x i=some (v,s')):Good P ρ p s a ⟨dst,.indexAddr t x i,type,pos,after,guard⟩ w v s':=by
 unfold KF at h
 split at h
 ·rename_i e ad n c k j hu hx hi
  split at h
  ·rename_i z hz h0 h1
   cases h
   have h0:0≤j:=by simpa using h0
   have h1:j.toNat<n:=Nat.le_of_ble_eq_true h1
   refine jk hm he ha ((cZ he hx).a6L.B8 _) rfl ?_
   have hE:=jJ ha hx
   have hI:=jJ ha hi
   rw[eQ]at hE
   rw[bY]at hI
   unfold ee
   simp only[show cJ P (ED ρ env a) ⟨dst,.indexAddr t x i,type,pos,after,guard⟩=none from rfl,hu,hE,hI,hz]
   refine⟨ρ.a ad,rfl,h0,by simp only;omega,?_⟩
   rw[dS]
   simp[Rn.EE,kF]
  ·cases h
 ·rename_i n e ad k j hu hx hi
  split at h
  ·rename_i z hz h0 h1
   cases h
   have h0:0≤j:=by simpa using h0
   have h1:j.toNat<n:=Nat.le_of_ble_eq_true h1
   refine jk hm he ha ((cZ he hx).B8 _) rfl ?_
   have hE:=jJ ha hx
   have hI:=jJ ha hi
   rw[dS]at hE
   rw[bY]at hI
   unfold ee
   simp only[show cJ P (ED ρ env a) ⟨dst,.indexAddr t x i,type,pos,after,guard⟩=none from rfl,hu,hE,hI,hz,Option.map_some]
   refine⟨ρ.a ad,rfl,h0,by simp only;omega,?_⟩
   rw[dS]
   simp[Rn.EE,kF]
  ·cases h
 ·cases h
theorem S4 {t:TypeId}{x i:Operand}{v:Value}{s':St}(h:b4z P s env t x i=some (v,s')):Good P ρ p s a ⟨dst,.index t x i,type,pos,after,guard⟩ w v s':=by
 unfold b4z at h
 split at h
 ·rename_i b k j hu hx hi
  split at h
  ·rename_i u h0 h1
   cases h
   have h0:0≤j:=by simpa using h0
   refine jk hm he ha (fun ρ ρ' _=>by simp) rfl ?_
   have hE:=jJ ha hx
   have hI:=jJ ha hi
   rw[fX]at hE
   rw[bY]at hI
   unfold ee
   simp only[show cJ P (ED ρ env a) ⟨dst,.index t x i,type,pos,after,guard⟩=none from rfl,hu,hE,hI]
   refine⟨u,h0,?_,by simp[kF]⟩
   rw[Array.getElem?_toList]at h1
   exact h1
  ·cases h
 ·cases h
theorem rk {d l:Nat}{x:Option Operand}(h:pT env d x=some l):bound (ED ρ env a) d x=some (l:Int):=by
 cases x with
 |none=>simp only[pT,Option.some.injEq]at h;subst h;rfl
 |some x=>
  simp only[pT]at h
  split at h
  ·rename_i k n hx
   split at h
   ·rename_i h0
    cases h
    have h0:0≤n:=by simpa using h0
    have:=jJ ha hx
    rw[bY]at this
    unfold bound
    simp only[this]
    congr 1;omega
   ·cases h
  ·cases h
theorem a6N {x:Option Operand}{m:Option Int}(h:BP env x=some m)(d:Int):bound (ED ρ env a) d x=some (m.getD d):=by
 cases x with
 |none=>simp only[BP,Option.some.injEq]at h;subst h;rfl
 |some x=>
  simp only[BP]at h
  split at h
  ·rename_i k n hx
   cases h
   have:=jJ ha hx
   rw[bY]at this
   unfold bound
   simp only[this];rfl
  ·cases h
omit hm he ha in
theorem S5 {q q':Option Addr}{n c cap z l u c':Nat}{m:Option Int}(hS:dI p (.slice q n c))(hcap:(q=none∧cap=c)∨∃ad,q=some ad∧cap=ρ.c ad c)(h:d2b q c z l u m=some (q',c')):
  (∀k,dI p (.slice q' k c'))∧(u:Int)≤m.getD cap∧m.getD cap≤cap∧bk ρ (.slice q' (u-l) c')= .slice (if (m.getD (cap:Int)).toNat=l then q.map ρ.a else (q.map ρ.a).map (·.add (l*z))) (u-l) ((m.getD (cap:Int)).toNat-l):=by
 have B9:∀k,(q.map ρ.a).map (·.add k)=(q.map (·.add k)).map ρ.a:=by intro k;cases q<;>simp[Rn.EE]
 have Iu:∀(q2:Option Addr) (c2:Nat),(q2=q∨∃k,q2=q.map (·.add k))→(c2<dg∨(¬c<dg∧¬c2<dg))→∀k,dI p (.slice q2 k c2):=by
  intro q2 c2 hq hc k
  cases q with
  |none=>
   have:q2=none:=by rcases hq with h|⟨_,h⟩<;>simpa using h
   subst this
   exact fun ρ ρ' _=>by simp
  |some ad=>
   rcases hq with rfl|⟨k',rfl⟩
   ·exact hS.sl rfl hc
   ·exact hS.sl (y:=ad.add k') (by unfold Addr.add;split<;>rfl) hc
 have Iv:∀(q2:Option Addr) (c2 k b4H:Nat),(q2=q∨∃k,q2=q.map (·.add k))→(q=none→b4H=c2)→(∀ad,q=some ad→(∀y:Addr,y.block=ad.block→ρ.c y c2=b4H))→bk ρ (.slice q2 k c2)= .slice (q2.map ρ.a) k b4H:=by
  intro q2 c2 k b4H hq h1 h2
  cases q with
  |none=>
   have:q2=none:=by rcases hq with h|⟨_,h⟩<;>simpa using h
   subst this
   rw[SW,h1 rfl];rfl
  |some ad=>
   rcases hq with rfl|⟨k',rfl⟩
   ·rw[eQ,h2 ad rfl ad rfl];rfl
   ·rw[Option.map_some,eQ,h2 ad rfl (ad.add k') (by unfold Addr.add;split<;>rfl)];rfl
 have EK:c<dg→cap=c:=by
  intro hc
  rcases hcap with ⟨_,h⟩|⟨ad,_,h⟩
  ·exact h
  ·rw[h,Rn.EF hc]
 have KJ:¬c<dg→c-dg≤cap:=by
  intro hc
  rcases hcap with ⟨_,h⟩|⟨ad,_,h⟩
  ·omega
  ·rw[h,Rn.ua hc];omega
 unfold d2b at h
 cases m with
 |none=>
  simp only[Option.getD_none,Int.toNat_natCast]at h ⊢
  split at h
  ·rename_i hc
   have hc:c<dg:=Nat.le_of_ble_eq_true hc
   have hcc:=EK hc
   split at h
   ·rename_i hu
    have hu:=Nat.le_of_ble_eq_true hu
    simp only[Option.some.injEq,Prod.mk.injEq]at h
    obtain⟨h1,rfl⟩:=h
    have hq:q'=q∨∃k,q'=q.map (·.add k):=by
     split at h1
     ·exact .inl h1.symm
     ·exact .inr ⟨_,h1.symm⟩
    refine⟨Iu q' _ hq (.inl (by omega)),by omega,by omega,?_⟩
    rw[Iv q' (c-l) _ (c-l) hq (fun _=>rfl) (fun ad _ y _=>Rn.EF (by omega)),hcc]
    congr 1
    split at h1
    ·rename_i hb
     rw[if_pos (Nat.eq_of_beq_eq_true hb),h1]
    ·rename_i hb
     rw[if_neg (Nat.ne_of_beq_eq_false hb),←h1,B9]
   ·cases h
  ·rename_i hc
   have hc:¬c<dg:=fun h=>by rw[show Nat.blt c dg=true from Nat.ble_eq_true_of_le h]at hc;cases hc
   split at h
   ·rename_i hu hlt
    have hu:=Nat.le_of_ble_eq_true hu
    have hlt:l<c-dg:=Nat.le_of_ble_eq_true hlt
    simp only[Option.some.injEq,Prod.mk.injEq]at h
    obtain⟨rfl,rfl⟩:=h
    have hge:=KJ hc
    refine⟨Iu _ _ (.inr ⟨_,rfl⟩) (.inr ⟨hc,by omega⟩),by omega,by omega,?_⟩
    rw[Iv _ (c-l) _ (cap-l) (.inr ⟨_,rfl⟩) ?_ ?_]
    ·rw[if_neg (by omega),B9]
    ·intro hq
     rcases hcap with ⟨_,h⟩|⟨ad,h,_⟩
     ·rw[h]
     ·rw[hq]at h;cases h
    ·intro ad hq y hy
     rcases hcap with ⟨h,_⟩|⟨ad',h,hh⟩
     ·rw[hq]at h;cases h
     ·rw[hq]at h;cases h
      rw[hh,Rn.ua hc,Rn.ua (by omega),hy];omega
   ·cases h
 |some m=>
  simp only[Option.getD_some]at h ⊢
  split at h
  ·rename_i h0 hu hle hlt
   have h0:0≤m:=by simpa using h0
   have hu:=Nat.le_of_ble_eq_true hu
   have hle:=Nat.le_of_ble_eq_true hle
   have hlt:m.toNat<dg:=Nat.le_of_ble_eq_true hlt
   simp only[Option.some.injEq,Prod.mk.injEq]at h
   obtain⟨h1,rfl⟩:=h
   have hq:q'=q∨∃k,q'=q.map (·.add k):=by
    split at h1
    ·exact .inl h1.symm
    ·exact .inr ⟨_,h1.symm⟩
   have hmc:m.toNat≤cap:=by
    split at hle
    ·rename_i hc
     rw[EK (Nat.le_of_ble_eq_true hc)];exact hle
    ·rename_i hc
     exact Nat.le_trans hle (KJ fun h=>by rw[show Nat.blt c dg=true from Nat.ble_eq_true_of_le h]at hc;cases hc)
   refine⟨Iu q' _ hq (.inl (by omega)),by omega,by omega,?_⟩
   rw[Iv q' _ _ (m.toNat-l) hq (fun _=>rfl) (fun ad _ y _=>Rn.EF (by omega))]
   congr 1
   split at h1
   ·rename_i hb
    rw[if_pos (Nat.eq_of_beq_eq_true hb),h1]
   ·rename_i hb
    rw[if_neg (Nat.ne_of_beq_eq_false hb),←h1,B9]
  ·cases h
theorem EL {t:TypeId}{x:Operand}{lo hi mx:Option Operand}{v:Value}{s':St}(h:BQ P s env t x lo hi mx=some (v,s')):Good P ρ p s a ⟨dst,.slice t x lo hi mx,type,pos,after,guard⟩ w v s':=by
 unfold BQ at h
 split at h
 ·rename_i b hu hx
  split at h
  ·rename_i l u hl hh
   split at h
   ·rename_i h1 h2
    cases h
    have h1:=Nat.le_of_ble_eq_true h1
    have h2:=Nat.le_of_ble_eq_true h2
    refine jk hm he ha (fun ρ ρ' _=>by simp) rfl ?_
    have hE:=jJ ha hx
    rw[fX]at hE
    have hl:=rk hm he ha hl
    have hh:=rk hm he ha hh
    unfold ee
    simp only[show cJ P (ED ρ env a) ⟨dst,.slice t x lo hi none,type,pos,after,guard⟩=none from rfl,hu,hE]
    rw[show (0:Int)=((0:Nat):Int) from rfl,hl,hh]
    refine⟨by omega,by omega,by omega,?_⟩
    simp[kF]
   ·cases h
  ·cases h
 ·rename_i e q n c hu hx
  split at h
  ·rename_i z l u m hz hl hh hmx
   split at h
   ·rename_i q' c' hg h1 Ua
    cases h
    have h1:=Nat.le_of_ble_eq_true h1
    have hl:=rk hm he ha hl
    have hh:=rk hm he ha hh
    have hE:=jJ ha hx
    have hS:=cZ he hx
    have hM:=a6N hm he ha hmx
    obtain⟨cap,ub,hcap⟩:∃cap,bk ρ (.slice q n c)= .slice (q.map ρ.a) n cap∧((q=none∧cap=c)∨∃ad,q=some ad∧cap=ρ.c ad c):=by
     cases q with
     |none=>exact⟨c,by simp,.inl ⟨rfl,rfl⟩⟩
     |some ad=>exact⟨_,eQ ρ ad n c,.inr ⟨ad,rfl,rfl⟩⟩
    rw[ub]at hE
    obtain⟨sw,h2,h3,h4⟩:=S5 (ρ:=ρ) hS hcap Ua
    refine jk hm he ha (sw _) rfl ?_
    unfold ee
    simp only[show cJ P (ED ρ env a) ⟨dst,.slice t x lo hi mx,type,pos,after,guard⟩=none from rfl,hu,hE,hz]
    rw[show (0:Int)=((0:Nat):Int) from rfl,hl,hh,hM cap]
    simp only[hg,Bool.false_eq_true,if_false]
    refine⟨by omega,by omega,h2,h3,?_⟩
    simp only[kF,Int.toNat_natCast]
    rw[h4]
   ·cases h
  ·cases h
 ·cases h
theorem EM {t:TypeId}{x:Operand}{v:Value}{s':St}(h:BS P s env t x=some (v,s')):Good P ρ p s a ⟨dst,.makeInterface t x,type,pos,after,guard⟩ w v s':=by
 unfold BS at h
 split at h
 ·cases h
 ·rename_i d u hno hu hx
  cases h
  refine df hm (fun ρ ρ' hag=>by rw[dO,dO,cZ he hx ρ ρ' hag]) ?_
  simp only[execOp,bQ ha hx]
  rw[dO]
  refine Sem.aO _ w ?_
  unfold Instr.makeInterface
  rw[Sem.run_bind,run_underlying hu,Result.andThen_ok]
  cases d<;>first|rfl|exact (hno _ rfl).elim
 ·cases h
theorem Ca {x:Operand}{T0 T:TypeId}{ok:Bool}{v:Value}{s':St}(h:uy P s env x T ok=some (v,s')):Good P ρ p s a ⟨dst,.typeAssert x T0 T ok,type,pos,after,guard⟩ w v s':=by
 unfold uy at h
 split at h
 ·cases h
 ·rename_i t u d hno hx hu
  have hS:dI p u:=fun ρ ρ' hag=>by
   have:=cZ he hx ρ ρ' hag
   rw[dO,dO]at this
   exact (Value.iface.inj this).2
  have run:t=T→(Instr.typeAssert (.iface t (bk ρ u)) T0 T ok).run P w= .ok (if ok then .tuple #[bk ρ u,.bool true] else bk ρ u) w:=by
   intro ht
   unfold Instr.typeAssert
   rw[Sem.run_bind,run_underlying hu,Result.andThen_ok]
   cases d<;>first|exact (hno _ rfl).elim|simp[ht]
  split at h
  ·rename_i ht
   cases h
   have ht:t=T:=Nat.eq_of_beq_eq_true ht
   refine df hm (dI.tuple (cs:=[u,.bool true]) (by simp[hS];exact fun ρ ρ' _=>by simp)) ?_
   simp only[execOp,bQ ha hx,dO]
   rw[eG]
   refine Sem.aO _ w ?_
   rw[run ht];simp
  ·rename_i ht
   cases h
   have ht:t=T:=Nat.eq_of_beq_eq_true ht
   refine df hm hS ?_
   simp only[execOp,bQ ha hx,dO]
   refine Sem.aO _ w ?_
   rw[run ht];simp
  ·cases h
 ·cases h
theorem Cb {t:TypeId}{len:Nat}{parts:Array (Nat×Operand)}{v:Value}{s':St}(hp:∀n,s.nx≤n→n<s'.nx→¬p n)(h:ux P s env t len parts=some (v,s')):Good P ρ p s a ⟨dst,.buildSlice t len parts,type,pos,after,guard⟩ w v s':=by
 unfold ux at h
 split at h
 ·rename_i e ps hu hps
  split at h
  ·rename_i n z hsz hz
   split at h
   ·rename_i h1 h2 hc
    split at h
    ·rename_i cs hf
     simp only[Bool.and_eq_true]at h1
     have h3:len<1000000:=Nat.le_of_ble_eq_true h1.2
     have h1:=Nat.le_of_ble_eq_true h1.1
     have h2:z.cells.toList.length=n:=Nat.eq_of_beq_eq_true h2
     have hzc:z.cells.toList.map (bk ρ)=z.cells.toList:=by rw[←Array.toList_map,←fp,dC ρ 8 z hc]
     have hlen:len<dg:=by unfold dg;omega
     refine SZ (T:=e) hm hp hlen h ?_ ?_
     ·intro c hcm
      rcases Al hf hcm with h3|⟨q,h3,h4⟩
      ·exact (j6 p hc).cells c (xd h3)
      ·exact (w9 he hps q h3).cells c h4
     ·have hf':=oA ρ _ _ _ _ hf
      rw[xe hzc,←KI]at hf'
      have hpE:=a6K ha hps
      refine yo.ev ?_ ha.ag
      unfold ee
      simp only[show cJ P (ED ρ env a) ⟨dst,.buildSlice t len parts,type,pos,after,guard⟩=none from rfl,hu,hpE,hsz,hz,hf',h2,if_true]
      rw[if_pos (by omega)]
      exact⟨rfl,rfl⟩
    ·cases h
   ·cases h
  ·cases h
 ·cases h
end op
end
end Go.Sb
end
section
namespace Go.Sb
open Go
noncomputable section
section mat
variable {ρ:Rn}{p:Nat→Prop}{g g':Nat→Option Bl}{h h':Hp}
theorem S6 {n0 nm m:Nat}{b0 b:Bl}(hm:lp ρ p g h)(hn:g n0=some b0)(hp:¬p nm)(hb:oY p b)(hg:∀k,g' k=if k=nm then some b else if k=n0 then none else g k)(hsz:h'.size=h.size)
  (hfr:∀c,c≠ρ.b n0→h'[c]? =h[c]?) (hok:wY (ρ.ext nm (ρ.b n0) m) h' nm b):m7 ρ p g h nm (nm+1) (ρ.ext nm (ρ.b n0) m) g' h':=by
 have rh:∀k,k≠nm→(ρ.ext nm (ρ.b n0) m).b k=ρ.b k:=fun k hk=>by simp[Rn.ext,hk]
 have w7:(ρ.ext nm (ρ.b n0) m).b nm=ρ.b n0:=by simp[Rn.ext]
 have key:∀k c,g' k=some c→(k=nm∧c=b)∨(k≠nm∧k≠n0∧g k=some c):=by
  intro k c hk
  rw[hg]at hk
  by_cases h1:k=nm
  ·rw[if_pos h1]at hk;cases hk;exact .inl ⟨h1,rfl⟩
  ·rw[if_neg h1]at hk
   by_cases h2:k=n0
   ·rw[if_pos h2]at hk;cases hk
   ·rw[if_neg h2]at hk;exact .inr ⟨h1,h2,hk⟩
 refine⟨⟨fun k c hk=>?_,fun k l c d hk hl he=>?_,fun k c hk=>?_⟩,fun k hk=>?_,by omega,fun c hc hno=>hfr c fun he=>hno n0 b0 hn he.symm,fun k c hk=>?_⟩
 ·rcases key k c hk with ⟨rfl,rfl⟩|⟨h1,h2,h3⟩
  ·exact hok
  ·exact (hm.ok k c h3).keep (hm.sup k c h3).2 (Rn.B3 hp) (hm.sup k c h3).1 (hfr _ fun he=>h2 (hm.inj k n0 c b0 h3 hn he))
 ·rcases key k c hk with ⟨rfl,rfl⟩|⟨h1,h2,h3⟩<;>rcases key l d hl with ⟨rfl,rfl⟩|⟨h4,h5,h6⟩
  ·rfl
  ·rw[w7,rh l h4]at he
   exact absurd (hm.inj l n0 d b0 h6 hn he.symm) h5
  ·rw[w7,rh k h1]at he
   exact absurd (hm.inj k n0 c b0 h3 hn he) h2
  ·rw[rh k h1,rh l h4]at he
   exact hm.inj k l c d h3 h6 he
 ·rcases key k c hk with ⟨rfl,rfl⟩|⟨h1,h2,h3⟩
  ·exact⟨.inr ⟨by omega,by omega⟩,hb.mono fun _=>.inl⟩
  ·exact⟨.inl (hm.sup k c h3).1,(hm.sup k c h3).2.mono fun _=>.inl⟩
 ·have:k≠nm:=by omega
  simp[Rn.ext,this]
 ·rcases key k c hk with ⟨rfl,rfl⟩|⟨h1,h2,h3⟩
  ·exact .inl ⟨n0,b0,hn,w7.symm⟩
  ·exact .inl ⟨k,c,h3,(rh k h1).symm⟩
end mat
section op
variable {P:Program}{ρ:Rn}{p:Nat→Prop}{s:St}{env:eH}{a:Act}{w:World}{dst:Option Tmp}{type:TypeId}{pos:String}{after:Array Edge}{guard:Option (Nat×Bool)}{o:Oper}
theorem xf {cs:List Value}{v:Value}{s':St}{z n:Nat}(hm:lp ρ p s.get w.heap)(hp:∀n,s.nx≤n→n<s'.nx→¬p n)(h:q7 s cs z true n (dg+n)=some (v,s'))(hs:∀c∈cs,dI p c)
  (hout:yo P a o w fun u h'=>∃m ex T fz,ex.length=m*z∧u= .slice (some ⟨w.heap.size,0,none⟩) n (n+m)∧h'=w.heap.push (.cells (cs.map (bk ρ)++ex).toArray T fz)∧∀i,i<(cs.map (bk ρ)++ex).length→¬(fz.1≤i∧i<fz.2)):Good P ρ p s a o w v s':=by
 obtain⟨s1,he,_,kv,hg⟩:=fu h
 cases he
 have ri:=hp s.nx (Nat.le_refl _) (by omega)
 intro next Qx hn
 refine hout next Qx fun u w' hk ⟨m,ex,T,fz,hex,hu,hw,hfz⟩=>hn u w' hk ?_
 refine⟨ρ.ext s.nx w.heap.size m,?_,?_,by rw[kv];exact nO p _ _ _⟩
 ·rw[hu,eQ,Rn.ua (by omega)]
  simp[Rn.a,Rn.ext]
 ·rw[hw,kv]
  refine uA (b:=.cl cs z true) hm ri hs hg ⟨ex,?_,by simp[hex,Rn.ext]⟩
  rw[uD ri hs]
  have:(ρ.ext s.nx w.heap.size m).b s.nx=w.heap.size:=by simp[Rn.ext]
  rw[this]
  exact⟨T,fz,by simp,hfz⟩
theorem EN (hm:lp ρ p s.get w.heap)(ha:kE ρ env a){t:TypeId}{l c:Operand}{v:Value}{s':St}(hp:∀n,s.nx≤n→n<s'.nx→¬p n)(h:BO P s env t l c=some (v,s')):Good P ρ p s a ⟨dst,.makeSlice t l c,type,pos,after,guard⟩ w v s':=by
 unfold BO at h
 split at h
 ·rename_i e kl li kc ci hu hl hc
  split at h
  ·rename_i n z b hsz hz hb
   split at h
   ·rename_i h1 h2 h3 h4 h5 h6
    have h1:z.cells.toList.length=n:=Nat.eq_of_beq_eq_true h1
    have h3:0≤li:=by simpa using h3
    have h4:li≤ci:=by simpa using h4
    have h5:=Nat.le_of_ble_eq_true h5
    have h6:ci.toNat<1000000:=Nat.le_of_ble_eq_true h6
    have hzc:z.cells.toList.map (bk ρ)=z.cells.toList:=by rw[←Array.toList_map,←fp,dC ρ 8 z h2]
    refine Iq (T:=e) hm hp (by unfold dg;omega) h (fun c hc=>(j6 p h2).cells c (xd hc)) ?_
    have hL:=bQ ha hl
    have hC:=bQ ha hc
    rw[bY]at hL hC
    rw[xe hzc,←KI]
    simp only[execOp,hL,hC]
    have hbb:(b:Int)*ci≤2 ^ 48:=by
     have h7:((b*ci.toNat:Nat):Int)≤((281474976710656:Nat):Int):=Int.ofNat_le.2 h5
     rw[Int.natCast_mul,Int.toNat_of_nonneg (by omega)]at h7
     have h8:((281474976710656:Nat):Int)=2 ^ 48:=by decide
     rw[←h8];exact h7
    have:=Sem.aO _ w (run_makeSlice (k:=kl) (k':=kc) hu hsz hz hb (by simpa using h1) h3 h4 hbb (by rw[show IntKind.i64.max=9223372036854775807 by decide];omega) w)
    simpa only[Array.toArray_toList]using this
   ·cases h
  ·cases h
 ·cases h
theorem Iw (hm:lp ρ p s.get w.heap)(ha:kE ρ env a){t d:TypeId}{x:Operand}{v:Value}{s':St}(hp:∀n,s.nx≤n→n<s'.nx→¬p n)(h:KH P s env t d x=some (v,s')):Good P ρ p s a ⟨dst,.convert t d x,type,pos,after,guard⟩ w v s':=by
 unfold KH at h
 split at h
 ·rename_i e b hs hd hx
  split at h
  ·rename_i he hlt
   refine xf hm hp h (fun c hc=>?_) ?_
   ·obtain⟨y,_,rfl⟩:=List.mem_map.1 hc
    exact fun ρ ρ' _=>by simp
   ·obtain⟨c,hc1,hc2,hc3⟩:=mX w e b
    have hrun:=Lib.run_convert_string_bytes w t d e b hs hd he
    rw[hc3]at hrun
    have hX:=bQ ha hx
    rw[fX]at hX
    intro next Qx hn
    refine bV (v:=.slice (some ⟨w.heap.size,0,none⟩) b.size c) (w':=Lib.bytesWorld w e b) ?_ (hn _ _ ?_ ⟨c-b.size,List.replicate (c-b.size) (.int .u8 0),e,(c,c+1),by simp,by congr 1;omega,?_,?_⟩)
    ·simp only[execOp,hX]
     exact Sem.aO _ w hrun
    ·rw[hc2];exact⟨rfl,rfl,rfl⟩
    ·rw[hc2]
     simp only
     congr 2
     apply Array.ext'
     simp
    ·intro i hi
     simp at hi
     have:b.data.size=b.size:=rfl
     simp only;omega
  ·cases h
 ·cases h
theorem EO (hm:lp ρ p s.get w.heap){q:Option Addr}{n z c c':Nat}{cs:List Value}(h:s.rdS q n z=some cs):cn w.heap ⟨q.map ρ.a,c',c⟩ n z=some (cs.map (bk ρ))∧cs.length=n*z∧∀c∈cs,dI p c:=by
 cases n with
 |zero=>
  simp only[St.rdS,Option.some.injEq]at h
  subst h
  refine⟨?_,by simp,by simp⟩
  unfold cn
  cases q<;>simp[hcells]
 |succ n=>
  cases q with
  |none=>simp[St.rdS]at h
  |some x=>
   simp only[St.rdS]at h
   obtain⟨h1,h2,h3⟩:=oD hm h
   exact⟨h1,h2,h3⟩
theorem EP {n b c:Nat}(h:a6w n b=true)(hc:c<n):Builtin.nextslicecap n c*b≤2 ^ 48:=by
 have h:=Nat.le_of_ble_eq_true h
 have h1:=vn n c hc
 have:Builtin.nextslicecap n c*b≤(2*n+192)*b:=Nat.mul_le_mul_right _ h1
 have h2:(2*n+192)*b≤4*(n+1000)*b:=Nat.mul_le_mul_right _ (by omega)
 have h3:(2:Nat) ^ 48=281474976710656:=by decide
 omega
theorem S7 (hm:lp ρ p s.get w.heap)(he:∀i v,env.get i=some v→dI p v)(ha:kE ρ env a){args:Array Operand}{ts:Array TypeId}{v:Value}{s':St}(hp:∀n,s.nx≤n→n<s'.nx→¬p n)(h:b4B P s env args ts=some (v,s')):
  Good P ρ p s a ⟨dst,.call ⟨.builtin .append,args,ts⟩,type,pos,after,guard⟩ w v s':=by
 unfold b4B at h
 split at h
 ·rename_i q n c q2 k d st xt hargs hts
  split at h
  ·rename_i e e' hst K1
   split at h
   ·rename_i z hz
    split at h
    ·rename_i xs hxs
     have hS:=oC he hargs
     have hSq:dI p (.slice q n c):=hS _ (by simp)
     have hE:=uC ha hargs
     obtain⟨d',Uf⟩:∃d',bk ρ (.slice q2 k d)= .slice (q2.map ρ.a) k d':=l9 ρ q2 k d
     obtain⟨cap,ub,hcap⟩:∃cap,bk ρ (.slice q n c)= .slice (q.map ρ.a) n cap∧((q=none∧cap=c)∨∃ad,q=some ad∧cap=ρ.c ad c):=by
      cases q with
      |none=>exact⟨c,by simp,.inl ⟨rfl,rfl⟩⟩
      |some ad=>exact⟨_,eQ ρ ad n c,.inr ⟨ad,rfl,rfl⟩⟩
     simp only[List.map_cons,List.map_nil,ub,Uf]at hE
     obtain⟨hx1,hx2,hx3⟩:=EO (c:=d') (c':=k) hm hxs
     unfold b4v at h
     split at h
     ·rename_i z' b zv hz' hb hzv
      rw[hz]at hz';cases hz'
      split at h
      ·rename_i hl1 hone hl2 mC
       have hl1:zv.cells.toList.length=z:=Nat.eq_of_beq_eq_true hl1
       have hone:=nP hone ρ
       have ev:∀F:Value→Hp→Prop,bU e z b zv.cells ⟨q.map ρ.a,n,cap⟩ ⟨q2.map ρ.a,k,d'⟩ (fun s=>kF F (.slice s.p s.n s.c)) w.heap (fun _ _=>True)→yo P a ⟨dst,.call ⟨.builtin .append,args,ts⟩,type,pos,after,guard⟩ w F:=by
        intro F hF
        refine yo.ev ?_ ha.ag
        unfold ee
        simp only[show cJ P (ED ρ env a) ⟨dst,.call ⟨.builtin .append,args,ts⟩,type,pos,after,guard⟩=none from rfl,hE,hts,hst,K1,hz,hb,hzv,hl1,if_true]
        exact hF
       have EK:c<dg→cap=c:=by
        intro hc
        rcases hcap with ⟨_,h⟩|⟨ad,_,h⟩
        ·exact h
        ·rw[h,Rn.EF hc]
       have KJ:¬c<dg→c-dg≤cap:=by
        intro hc
        rcases hcap with ⟨_,h⟩|⟨ad,_,h⟩
        ·omega
        ·rw[h,Rn.ua hc];omega
       have ble:∀{x y:Nat},Nat.blt x y=false→¬x<y:=fun {x y} h hl=>by
        rw[show Nat.blt x y=true from Nat.ble_eq_true_of_le hl]at h;cases h
       split at h
       ·
        rename_i hle
        have hle:n+k≤cap:=by
         have hle:=Nat.le_of_ble_eq_true hle
         split at hle
         ·rename_i hc;rw[EK (Nat.le_of_ble_eq_true hc)];exact hle
         ·rename_i hc;exact Nat.le_trans hle (KJ (ble hc))
        split at h
        ·
         cases h
         have Uo:xs=[]:=by simpa using hx2
         subst Uo
         intro next Qx kv
         refine ev (fun u h'=>u=bk ρ (.slice q n c)∧h'=w.heap) ?_ next Qx fun u w' hk ⟨h1,h2⟩=>kv u w' hk ⟨ρ,h1,h2 ▸ .refl hm _,hSq.mono fun _=>.inl⟩
         refine⟨[],by simpa using hx1,by simp,?_⟩
         rw[if_pos (by simpa using hle)]
         cases q with
         |none=>exact⟨by rw[ub];rfl,rfl⟩
         |some ad=>exact⟨fun j h1 h2=>absurd h2 (by simp),by rw[ub];rfl,rfl⟩
        ·rename_i k'
         split at h
         ·rename_i ad
          obtain⟨s1,h1,h2,h3,h4,h5,h6⟩:=Ak hm h hx3
          simp only[Option.some.injEq,Prod.mk.injEq]at h1
          obtain⟨hv,rfl⟩:=h1
          rw[Rn.EE]at h5 h6
          intro next Qx kv
          refine ev (fun u h'=>u=bk ρ v∧h'=dQ w.heap ((ρ.a ad).add (n*z)) 0 (xs.map (bk ρ))) ?_ next Qx fun u w' hk ⟨h1,h2⟩=>kv u w' hk ⟨ρ,h1,h2 ▸ h6,hv ▸ (hSq.sl rfl (by by_cases hc:c<dg;exact .inl hc;exact .inr ⟨hc,hc⟩)).mono fun _=>.inl⟩
          refine⟨xs.map (bk ρ),hx1,hone,?_⟩
          rw[if_pos hle]
          refine⟨by simpa using h5,?_,rfl⟩
          rcases hcap with ⟨h,_⟩|⟨ad',h,hh⟩
          ·cases h
          ·cases h
           rw[←hv,eQ,←hh];rfl
         ·cases h
       ·rename_i hle
        split at h
        ·rename_i hb0 d2d hnk
         have hb0:0<b:=Nat.le_of_ble_eq_true hb0
         have hnk:n+k<1000000:=Nat.le_of_ble_eq_true hnk
         split at h
         ·cases h
         ·rename_i old hold
          obtain⟨ho1,ho2,ho3⟩:=EO (c:=cap) (c':=n) hm hold
          have hcs:∀c∈old++xs,dI p c:=fun c hc=>(List.mem_append.1 hc).elim (ho3 c) (hx3 c)
          have grow:∀F:Value→Hp→Prop,¬n+k≤cap→(∀c',n+k≤c'→F (.slice (some ⟨w.heap.size,0,none⟩) (n+k) c') (w.heap.push (.cells ((old++xs).map (bk ρ)++(eK zv.cells (c' -(n+k))).toList).toArray e)))→
            yo P a ⟨dst,.call ⟨.builtin .append,args,ts⟩,type,pos,after,guard⟩ w F:=by
           intro F hno hF
           refine ev F ⟨xs.map (bk ρ),hx1,hone,?_⟩
           rw[if_neg hno]
           refine⟨hb0,EP d2d (by show cap<n+k;omega),old.map (bk ρ),ho1,fun c' hc'=>?_⟩
           have e9:((old++xs).map (bk ρ)++(eK zv.cells (c' -(n+k))).toList).toArray=(old.map (bk ρ)++xs.map (bk ρ)).toArray++eK zv.cells (c' -(n+k)):=by
            apply Array.ext';simp
           have:=hF c' hc'
           rw[e9]at this
           exact this
          have b6L:∀c',n+k≤c'→(eK zv.cells (c' -(n+k))).toList.length=(c' -(n+k))*z:=by
           intro c' _
           rw[Array.length_toList,sN]
           have:zv.cells.size=z:=by simpa using hl1
           rw[this]
          split at h
          ·rename_i hc
           have hc:c<dg:=Nat.le_of_ble_eq_true hc
           have hno:¬n+k≤cap:=by
            rw[EK hc]
            have hb:Nat.blt c dg=true:=Nat.ble_eq_true_of_le hc
            rw[hb]at hle
            exact fun hh=>by rw[show Nat.ble (n+k) c=true from Nat.ble_eq_true_of_le hh]at hle;cases hle
           refine xf hm hp h hcs (grow _ hno fun c' hc'=>⟨c' -(n+k),_,e,(0,0),b6L c' hc',by congr 1;omega,rfl,fun i _ hh=>by simp at hh⟩)
          ·rename_i hc
           have hc:=ble hc
           split at h
           ·rename_i mD
            split at h
            ·rename_i cs Cu a6O
             split at h
             ·rename_i hz1 hz2
              have hz1:Cu=z:=Nat.eq_of_beq_eq_true hz1
              subst hz1
              have hz2:cs.length=(c-dg)*Cu:=Nat.eq_of_beq_eq_true hz2
              obtain⟨s1,h1,h2,h3,h4⟩:=gZ h a6O
              obtain⟨s2,h5,h6,h7,h8⟩:=fu h1
              cases h5
              have e4v:cap=c-dg+ρ.m mD:=by
               rcases hcap with ⟨h,_⟩|⟨ad',h,hh⟩
               ·cases h
               ·cases h;rw[hh,Rn.ua hc]
              have ri:=hp s.nx (Nat.le_refl _) (by rw[h7,h3];omega)
              have hg2:∀m,s'.get m=if m=s.nx then some (.cl (old++xs) Cu true) else if m=mD then none else s.get m:=by
               intro m;rw[h8,h3,h4]
              obtain⟨ex,hB,hex⟩:=hm.ok _ _ a6O
              simp only[if_true]at hex
              have a6P:old=cs.take (n*Cu):=by
               cases n with
               |zero=>simp only[St.rdS,Option.some.injEq]at hold;subst hold;simp
               |succ n=>
                simp only[St.rdS,St.rd,a6O]at hold
                split at hold
                ·simp only[List.drop_zero,Option.some.injEq]at hold;exact hold.symm
                ·cases hold
              have hnl:n*Cu≤cs.length:=by
               have:=ho2
               rw[a6P,List.length_take]at this;omega
              have f3g:∀ρ2:Rn,ρ2.b s.nx=ρ.b mD→True:=fun _ _=>trivial
              by_cases hin:n+k≤cap
              ·
               intro next Qx kv
               have hlen:(cs.map (bk ρ)++ex).length=cap*Cu:=by rw[List.length_append,List.length_map,hz2,hex,e4v,Nat.add_mul]
               have hmul:(n+k)*Cu≤cap*Cu:=Nat.mul_le_mul_right _ hin
               rw[Nat.add_mul]at hmul
               have hroom:n*Cu+0+(xs.map (bk ρ)).length≤(cs.map (bk ρ)++ex).length:=by
                rw[hlen,List.length_map,hx2];omega
               obtain⟨hB2,hK2⟩:=pW (xs.map (bk ρ)) w.heap (n*Cu) 0 _ hB hroom
               refine ev (fun u h'=>u= .slice (some ⟨ρ.b mD,0,none⟩) (n+k) cap∧h'=dQ w.heap ⟨ρ.b mD,n*Cu,none⟩ 0 (xs.map (bk ρ))) ?_ next Qx fun u w' hk ⟨e1,e2⟩=>kv u w' hk ⟨ρ.ext s.nx (ρ.b mD) (cap-(n+k)),?_,?_,?_⟩
               ·refine⟨xs.map (bk ρ),hx1,hone,?_⟩
                rw[if_pos hin]
                show hfree w.heap ((ρ.a ⟨mD,0,none⟩).add (n*Cu)) 0 _∧_
                have ea:(ρ.a ⟨mD,0,none⟩).add (n*Cu)=⟨ρ.b mD,n*Cu,none⟩:=by
                 show Addr.add ⟨ρ.b mD,0,none⟩ _=_
                 rw[uz,Nat.zero_add]
                rw[ea]
                exact⟨wX hB (by simpa using hroom),rfl,rfl⟩
               ·rw[e1,eQ,Rn.ua (by omega)]
                have hcc:dg+(n+k)-dg+(cap-(n+k))=cap:=by
                 have f3K:n+k≤cap:=hin
                 omega
                simp only[Rn.a,Rn.ext,h3,if_true,hcc]
               ·rw[e2,h7,h3]
                refine S6 (b:=.cl (old++xs) Cu true) hm a6O ri hcs hg2 (kD _ _ _) (fun c' hc'=>?_) ?_
                ·rcases Nat.lt_or_ge c' w.heap.size with hl|hl
                 ·exact hK2.2 c' hl hc'
                 ·rw[Array.getElem?_eq_none hl,Array.getElem?_eq_none (by rw[kD];exact hl)]
                ·refine⟨(cs.map (bk ρ)++ex).drop (n*Cu+0+(xs.map (bk ρ)).length),?_,?_⟩
                 ·rw[uD ri hcs]
                  have:(ρ.ext s.nx (ρ.b mD) (cap-(n+k))).b s.nx=ρ.b mD:=by simp[Rn.ext]
                  rw[this]
                  have e3:(old++xs).map (bk ρ)=(cs.map (bk ρ)++ex).take (n*Cu+0)++xs.map (bk ρ):=by
                   rw[Nat.add_zero,List.take_append_of_le_length (by simpa using hnl),a6P]
                   simp[List.map_take]
                  rw[e3]
                  exact hB2
                 ·have:(ρ.ext s.nx (ρ.b mD) (cap-(n+k))).m s.nx=cap-(n+k):=by simp[Rn.ext]
                  rw[this,List.length_drop,hlen,List.length_map,hx2]
                  simp only[if_true]
                  rw[Nat.sub_mul,Nat.add_mul];omega
               ·rw[h7,h3];exact nO p _ _ _
              ·intro next Qx kv
               refine grow (fun u h'=>∃c',n+k≤c'∧u= .slice (some ⟨w.heap.size,0,none⟩) (n+k) c'∧h'=w.heap.push (.cells ((old++xs).map (bk ρ)++(eK zv.cells (c' -(n+k))).toList).toArray e)) hin (fun c' hc'=>⟨c',hc',rfl,rfl⟩) next Qx fun u w' hk ⟨c',hc',e1,e2⟩=>kv u w' hk ?_
               have l1:m7 ρ p s.get w.heap s.nx s1.nx ρ s1.get w.heap:=by
                rw[h3];exact uB hm a6O h4 rfl (fun _ _=>rfl) (by simp)
               have hm1:lp ρ p s1.get w.heap:=l1.mat.mono fun n hn=>by rw[h3]at hn;exact B2.1 hn
               refine⟨ρ.ext s1.nx w.heap.size (c' -(n+k)),?_,?_,?_⟩
               ·rw[e1,eQ,Rn.ua (by omega)]
                simp[Rn.a,Rn.ext]<;>omega
               ·rw[e2]
                have l2:m7 ρ p s1.get w.heap s1.nx s'.nx (ρ.ext s1.nx w.heap.size (c' -(n+k))) s'.get (w.heap.push (.cells ((old++xs).map (bk ρ)++(eK zv.cells (c' -(n+k))).toList).toArray e)):=by
                 rw[h7]
                 refine uA (b:=.cl (old++xs) Cu true) hm1 (by rw[h3];exact ri) hcs h8 ⟨(eK zv.cells (c' -(n+k))).toList,?_,?_⟩
                 ·rw[uD (by rw[h3];exact ri) hcs]
                  have:(ρ.ext s1.nx w.heap.size (c' -(n+k))).b s1.nx=w.heap.size:=by simp[Rn.ext]
                  rw[this]
                  exact lH.new _ _ e
                 ·have:(ρ.ext s1.nx w.heap.size (c' -(n+k))).m s1.nx=c' -(n+k):=by simp[Rn.ext]
                  rw[this];simp only[if_true];exact b6L c' hc'
                refine m7.trans l1 (?_:m7 ρ (pn p s.nx s1.nx) s1.get w.heap s1.nx s'.nx _ s'.get _) (by omega) (by omega)
                have e4:pn p s.nx s1.nx=p:=by
                 funext n;rw[h3];exact propext B2
                rw[e4];exact l2
               ·rw[h7,h3];exact nO p _ _ _
             ·cases h
            ·cases h
           ·cases h
        ·cases h
      ·cases h
     ·cases h
    ·cases h
   ·cases h
  ·cases h
 ·cases h
end op
end
end Go.Sb
end
section
namespace Go.Sb
open Go
noncomputable section
section key
variable {P:Program}{w:World}{ρ:Rn}
theorem lr {kt:TypeId}{k:Value}(h:q9 P kt k=true)(ρ:Rn)(em:Bool):(Instr.checkKey em 10000 kt (bk ρ k)).run P w= .ok () w:=by
 unfold q9 at h
 split at h
 ·rename_i kd k' n hu
  rw[bY,Instr.checkKey]
  simp only[Sem.run_bind,run_underlying hu,Result.andThen_ok,Sem.run_pure]
 ·rename_i fs cs hu
  rw[ej,Instr.checkKey]
  simp only[Sem.run_bind,run_underlying hu,Result.andThen_ok]
  rw[←Array.forIn_toList]
  rw[List.all_eq_true]at h
  generalize fs.toList=L at h
  induction L with
  |nil=>simp
  |cons f L ih=>
   have hf:=h f (by simp)
   split at hf
   ·rename_i kd k' n hfu hp
    have hp2:=ny (P:=P) (t:=f.type) (xs:=cs.map (bk ρ)) (off:=f.offset) (v:=.int k' n) (by
     have:=sq ρ hp
     rw[bY]at this
     simpa using this) w
    have hck:(Instr.checkKey em 9999 f.type (.int k' n)).run P w= .ok () w:=by
     rw[Instr.checkKey]
     simp only[Sem.run_bind,run_underlying hfu,Result.andThen_ok,Sem.run_pure]
    have ih':=ih fun x hx=>h x (by simp[hx])
    by_cases hn:f.name= "_"
    ·simp only[List.forIn_cons,Sem.run_bind,hn,ne_eq,not_true,if_false,Result.andThen_ok,Sem.run_pure]
     exact ih'
    ·simp only[List.forIn_cons,Sem.run_bind,hn,ne_eq,not_false_eq_true,if_true,Result.andThen_ok,hp2,hck,Sem.run_pure]
     exact ih'
   ·cases hf
 ·cases h
def ER (P:Program)(kt:TypeId)(k:Value):List (Value×Value)→Nat→Option (Option (Nat×Value))
 |[],_=>some none
 |(k',v)::es,i=>match xK P 20 kt k k' with
  |some true=>some (some (i,v))
  |some false=>ER P kt k es (i+1)
  |none=>none
theorem sx {kt:TypeId}{k:Value}:∀{es:List (Value×Value)} {f:Option Value} (i:Nat),Ah P kt k es=some f→∃r,ER P kt k es i=some r∧r.map (·.2)=f
 |[],f,i,h=>by simp only[Ah,Option.some.injEq]at h;subst h;exact⟨none,rfl,rfl⟩
 |(k',v)::es,f,i,h=>by
  simp only[Ah]at h
  simp only[ER]
  split at h
  ·rename_i he;cases h;rw[he];exact⟨_,rfl,rfl⟩
  ·rename_i he;rw[he];exact sx (i+1) h
  ·cases h
theorem Am {kt:TypeId}{k:Value}:∀{es es':List (Value×Value)} (i:Nat),Ey P kt k es=some es'→∃r,ER P kt k es i=some r∧es'=(match r with
  |none=>es
  |some (j,_)=>es.eraseIdx (j-i))∧∀j v,r=some (j,v)→i≤j
 |[],es',i,h=>by simp only[Ey,Option.some.injEq]at h;subst h;exact⟨none,rfl,rfl,by simp⟩
 |(k',v)::es,es',i,h=>by
  simp only[Ey]at h
  simp only[ER]
  split at h
  ·rename_i he;cases h;rw[he];exact⟨_,rfl,by simp,by simp⟩
  ·rename_i he
   rw[he]
   split at h
   ·rename_i r hr
    cases h
    obtain⟨r',h1,h2,h3⟩:=Am (i+1) hr
    refine⟨r',h1,?_,fun j v hj=>by have:=h3 j v hj;omega⟩
    cases r' with
    |none=>simp only at h2 ⊢;rw[h2]
    |some q=>
     obtain⟨j,u⟩:=q
     have:=h3 j u rfl
     simp only at h2 ⊢
     rw[h2,show j-i=(j-(i+1))+1 by omega,List.eraseIdx_cons_succ]
   ·cases h
  ·cases h
theorem lu {kt:TypeId}{k:Value}(hk:q9 P kt k=true){es:List (Value×Value)}{m:List MapEntry}(hm:m.map (fun e=>(e.key,e.val))=es.map fun e=>(bk ρ e.1,bk ρ e.2)){r:Option (Nat×Value)}(h:ER P kt k es 0=some r):
  (Instr.findKey kt (bk ρ k) m).run P w= .ok (r.map fun x=>(x.1,bk ρ x.2)) w:=by
 unfold q9 at hk
 split at hk
 ·rename_i kd k' n hu
  unfold Instr.findKey
  rw[Sem.run_bind,run_underlying hu,Result.andThen_ok]
  have:∀(es:List (Value×Value)) (m:List MapEntry) (i:Nat) (r:Option (Nat×Value)),m.map (fun e=>(e.key,e.val))=(es.map fun e=>(bk ρ e.1,bk ρ e.2))→ER P kt (.int k' n) es i=some r→Instr.findNow (.int kd) (.int k' n) m i=some (r.map fun x=>(x.1,bk ρ x.2)):=by
   intro es
   induction es with
   |nil=>
    intro m i r hm h
    have:m=[]:=by simpa using hm
    subst this
    simp only[ER,Option.some.injEq]at h
    subst h;rfl
   |cons e es ih=>
    intro m i r hm h
    cases m with
    |nil=>simp at hm
    |cons x m=>
     simp only[List.map_cons,List.cons.injEq,Prod.mk.injEq]at hm
     obtain⟨⟨h1,h2⟩,h3⟩:=hm
     obtain⟨ek,ev⟩:=e
     simp only[ER]at h
     simp only at h1 h2
     have sn:∀b,xK P 20 kt (.int k' n) ek=some b→Instr.sameNow (.int kd) (.int k' n) x.key=some b:=by
      intro b hb
      have hb2:=uv ρ 20 kt _ _ _ hb
      rw[bY]at hb2
      rw[h1]
      unfold xK at hb
      rw[hu]at hb
      cases ek<;>simp only[reduceCtorEq]at hb
      rw[bY]
      exact hb
     unfold Instr.findNow
     split at h
     ·rename_i he
      cases h
      rw[sn _ he,h2];rfl
     ·rename_i he
      rw[sn _ he]
      exact ih m (i+1) r h3 h
     ·cases h
  rw[bY]
  have:=this es m 0 r hm h
  rw[this];rfl
 ·rename_i fs cs hu
  rw[run_findKey_eq w (by rw[hu])]
  have:∀(es:List (Value×Value)) (m:List MapEntry) (i:Nat) (r:Option (Nat×Value)),m.map (fun e=>(e.key,e.val))=(es.map fun e=>(bk ρ e.1,bk ρ e.2))→ER P kt (.agg cs) es i=some r→(Instr.findAsking kt (bk ρ (.agg cs)) m i).run P w= .ok (r.map fun x=>(x.1,bk ρ x.2)) w:=by
   intro es
   induction es with
   |nil=>
    intro m i r hm h
    have:m=[]:=by simpa using hm
    subst this
    simp only[ER,Option.some.injEq]at h
    subst h;rfl
   |cons e es ih=>
    intro m i r hm h
    cases m with
    |nil=>simp at hm
    |cons x m=>
     simp only[List.map_cons,List.cons.injEq,Prod.mk.injEq]at hm
     obtain⟨⟨h1,h2⟩,h3⟩:=hm
     obtain⟨ek,ev⟩:=e
     simp only[ER]at h
     simp only at h1 h2
     have eq:∀b,xK P 20 kt (.agg cs) ek=some b→(Op.equal kt (bk ρ (.agg cs)) x.key).run P w= .ok b w:=by
      intro b hb
      rw[h1]
      exact oe w 20 Op.maxDepth kt _ _ b (by decide) (uv ρ 20 kt _ _ _ hb)
     rw[Instr.findAsking,Sem.run_bind]
     split at h
     ·rename_i he
      cases h
      rw[eq _ he,Result.andThen_ok,h2];rfl
     ·rename_i he
      rw[eq _ he,Result.andThen_ok]
      exact ih m (i+1) r h3 h
     ·cases h
  exact this es m 0 r hm h
 ·cases hk
end key
section op
variable {P:Program}{ρ:Rn}{p:Nat→Prop}{s:St}{env:eH}{a:Act}{w:World}{dst:Option Tmp}{type:TypeId}{pos:String}{after:Array Edge}{guard:Option (Nat×Bool)}{o:Oper}
variable (hm:lp ρ p s.get w.heap)(he:∀i v,env.get i=some v→dI p v)(ha:kE ρ env a)
include hm he ha
theorem S8 {t:TypeId}{v:Value}{s':St}(hp:∀n,s.nx≤n→n<s'.nx→¬p n)(h:a6C P s t=some (v,s')):Good P ρ p s a ⟨dst,.makeMap t none,type,pos,after,guard⟩ w v s':=by
 unfold a6C at h
 split at h
 ·rename_i kt e hu
  have kv:s'.nx=s.nx+1:=by
   obtain⟨s1,he,_,kv,_⟩:=fu h;cases he;exact kv
  have ri:=hp s.nx (Nat.le_refl _) (by omega)
  refine xc (m:=0) (ob:=.map #[] 0) (w':={ w with heap:=w.heap.push (.map #[] 0)}) (f:=fun n=>.map (some n)) hm hp h (by simp[oY]) ⟨#[],0,?_,rfl⟩ rfl (Kept.heap w _) ?_ ?_
  ·simp[Rn.ext]
  ·simp only[execOp]
   rw[lg]
   refine Sem.aO _ w ?_
   simp[Instr.makeMap,newObj,Sem.run,Rn.ext]
  ·intro ρ ρ' hag
   rw[lg,lg]
   simp[(hag s.nx (.inr ⟨by omega,by omega⟩)).1]
 ·cases h
theorem Iy {t:TypeId}{x i:Operand}{ok:Bool}{v:Value}{s':St}(h:KG P s env t x i ok=some (v,s')):Good P ρ p s a ⟨dst,.lookup t x i ok,type,pos,after,guard⟩ w v s':=by
 unfold KG at h
 split at h
 ·rename_i kt e r key hu hx hi
  split at h
  ·rename_i z es hko hz hg
   split at h
   ·rename_i f hf mC
    cases h
    obtain⟨m,clock,hb,hme⟩:=hm.ok _ _ hg
    obtain⟨rr,hr1,KK⟩:=sx 0 hf
    have hX:=bQ ha hx
    have hI:=bQ ha hi
    rw[lg]at hX
    simp only[Option.map_some]at hX
    have hfk:=lu (w:=w) (ρ:=ρ) hko hme hr1
    have hsz:dI p z:=j6 p mC
    have hfz:∀u,f=some u→dI p u:=by
     intro u hu
     have:∀(es:List (Value×Value)) (i:Nat) (r:Nat×Value),ER P kt key es i=some (some r)→∃e∈es,e.2=r.2:=by
      intro es
      induction es with
      |nil=>intro i r h;simp[ER]at h
      |cons e es ih=>
       intro i r h
       obtain⟨ek,ev⟩:=e
       simp only[ER]at h
       split at h
       ·cases h;exact⟨_,List.mem_cons_self,rfl⟩
       ·obtain⟨q,h1,h2⟩:=ih _ _ h
        exact⟨q,List.mem_cons_of_mem _ h1,h2⟩
       ·cases h
     rw[hu]at KK
     cases rr with
     |none=>cases KK
     |some q=>
      obtain⟨e',h1,h2⟩:=this es 0 q hr1
      simp only[Option.map_some,Option.some.injEq]at KK
      rw[←KK,←h2]
      exact ((hm.sup _ _ hg).2 e' h1).2
    have hval:dI p (f.getD z):=by
     cases f with
     |none=>exact hsz
     |some u=>exact hfz u rfl
    have ub:bk ρ (f.getD z)=(rr.map fun x=>bk ρ x.2).getD z:=by
     rw[←KK]
     cases rr with
     |none=>simp[dC ρ 8 z mC]
     |some q=>simp
    have hsome:f.isSome=rr.isSome:=by rw[←KK];cases rr<;>rfl
    have hrun:(Instr.lookup t (.map (some (ρ.b r))) (bk ρ key) ok).run P w= .ok (match ok with
      |true=>.tuple #[bk ρ (f.getD z),.bool f.isSome]
      |false=>bk ρ (f.getD z)) w:=by
     unfold Instr.lookup
     simp only[Sem.run_bind,run_underlying hu,Result.andThen_ok,dt hb,Sem.run_pure,lr hko ρ]
     rw[hfk,ub,hsome]
     cases rr with
     |none=>
      simp only[Option.map_none,Result.andThen_ok,Sem.run_bind,cE hz,Sem.run_pure]
      cases ok<;>rfl
     |some q=>
      simp only[Option.map_some,Result.andThen_ok,Sem.run_pure]
      cases ok<;>rfl
    cases ok with
    |true=>
     refine df hm (dI.tuple (cs:=[f.getD z,.bool f.isSome]) (by simp[hval];exact fun ρ ρ' _=>by simp)) ?_
     simp only[execOp,hX,hI]
     rw[eG]
     refine Sem.aO _ w ?_
     rw[hrun];simp
    |false=>
     refine df hm hval ?_
     simp only[execOp,hX,hI]
     exact Sem.aO _ w hrun
   ·cases h
  ·cases h
 ·cases h
theorem S9 {t:TypeId}{x i y:Operand}{v:Value}{s':St}(h:b4A P s env t x i y=some (v,s')):Good P ρ p s a ⟨dst,.mapUpdate t x i y,type,pos,after,guard⟩ w v s':=by
 unfold b4A at h
 split at h
 ·rename_i kt e r key u hu hx hi hy
  split at h
  ·rename_i es hko hg
   split at h
   ·rename_i hf
    obtain⟨m,clock,hb,hme⟩:=hm.ok _ _ hg
    obtain⟨rr,hr1,KK⟩:=sx 0 hf
    have hrr:rr=none:=by cases rr<;>simp at KK ⊢
    subst hrr
    have hX:=bQ ha hx
    have hI:=bQ ha hi
    have hY:=bQ ha hy
    rw[lg]at hX
    simp only[Option.map_some]at hX
    have hfk:=lu (w:=w) (ρ:=ρ) hko hme hr1
    obtain⟨s1,h1,h2,h3,h4⟩:=gZ h hg
    cases h1
    intro next Qx kv
    refine rL (w':={ w with heap:=w.heap.setIfInBounds (ρ.b r) (.map (m.push { key:=bk ρ key,val:=bk ρ u,born:=clock}) (clock+1))}) ?_ (kv _ _ (Kept.heap w _) ⟨ρ,(dP ρ).symm,?_,fun ρ ρ' _=>by rw[dP,dP]⟩)
    ·simp only[execOp,hX,hI,hY]
     have:(Instr.mapUpdate t (.map (some (ρ.b r))) (bk ρ key) (bk ρ u)).run P w= .ok () { w with heap:=w.heap.setIfInBounds (ρ.b r) (.map (m.push { key:=bk ρ key,val:=bk ρ u,born:=clock}) (clock+1))}:=by
      unfold Instr.mapUpdate
      simp only[Sem.run_bind,run_underlying hu,Result.andThen_ok,dt hb,Sem.run_pure,lr hko ρ]
      rw[hfk]
      simp only[Option.map_none,Result.andThen_ok]
      rw[eN hb]
     simp only[Sem.run_bind,this,Result.andThen_ok,Sem.run_pure]
    ·rw[h3]
     have hlt:ρ.b r<w.heap.size:=(hm.ok _ _ hg).lt
     refine uB hm hg h4 (by simp) (fun c hc=>Array.getElem?_setIfInBounds_ne (Ne.symm hc)) fun bl hbl=>?_
     cases hbl
     refine⟨fun q hq=>?_,m.push { key:=bk ρ key,val:=bk ρ u,born:=clock},clock+1,by simp[hlt],by simp[hme]⟩
     rcases List.mem_append.1 hq with hq|hq
     ·exact (hm.sup _ _ hg).2 q hq
     ·rw[List.mem_singleton.1 hq]
      exact⟨cZ he hi,cZ he hy⟩
   ·cases h
  ·cases h
 ·cases h
theorem Ta {args:Array Operand}{ts:Array TypeId}{v:Value}{s':St}(h:b4C P s env args ts=some (v,s')):Good P ρ p s a ⟨dst,.call ⟨.builtin .delete,args,ts⟩,type,pos,after,guard⟩ w v s':=by
 unfold b4C at h
 split at h
 ·rename_i r key st ts' hargs hts
  split at h
  ·rename_i kt e es hu hg
   split at h
   ·rename_i es' hko hd
    obtain⟨m,clock,hb,hme⟩:=hm.ok _ _ hg
    obtain⟨rr,hr1,KK,hr3⟩:=Am 0 hd
    have hE:=cQ ha.ag (uC ha hargs)
    simp only[List.map_cons,List.map_nil,lg,Option.map_some]at hE
    have hfk:=lu (w:=w) (ρ:=ρ) hko hme hr1
    obtain⟨s1,h1,h2,h3,h4⟩:=gZ h hg
    cases h1
    have fG:ts[0]? =some st:=by rw[←Array.getElem?_toList,hts];rfl
    let m':Array MapEntry:=match rr with
     |none=>m
     |some (i,_)=>m.eraseIdxIfInBounds i
    have Ip:m'.toList.map (fun e=>(e.key,e.val))=es'.map fun e=>(bk ρ e.1,bk ρ e.2):=by
     rw[KK]
     cases rr with
     |none=>exact hme
     |some q=>
      obtain⟨i,u⟩:=q
      show (m.eraseIdxIfInBounds i).toList.map _=_
      rw[Array.toList_eraseIdxIfInBounds]
      simp only[Nat.sub_zero]
      rw[←fh,hme,fh]
    intro next Qx kv
    refine bV (v:=undef) (w':={ w with heap:=w.heap.setIfInBounds (ρ.b r) (.map m' clock)}) ?_ (kv _ _ (Kept.heap w _) ⟨ρ,(dP ρ).symm,?_,fun ρ ρ' _=>by rw[dP,dP]⟩)
    ·simp only[execOp,resolve,Sem.run_bind,Sem.run_pure,Result.andThen_ok,invoke,builtin]
     rw[hE]
     have:(Builtin.delete_ ts type [Value.map (some (ρ.b r)),bk ρ key].toArray).run P w= .ok undef { w with heap:=w.heap.setIfInBounds (ρ.b r) (.map m' clock)}:=by
      unfold Builtin.delete_
      simp only[fG,List.getElem?_toArray,List.getElem?_cons_zero,List.getElem?_cons_succ,Sem.run_bind,run_underlying hu,Result.andThen_ok,dt hb,lr hko ρ]
      rw[hfk]
      cases rr with
      |none=>
       simp only[Option.map_none,Result.andThen_ok]
       rw[Sem.run_bind,eN hb];rfl
      |some q=>
       simp only[Option.map_some,Result.andThen_ok]
       rw[Sem.run_bind,eN hb];rfl
     rw[this];rfl
    ·rw[h3]
     have hlt:ρ.b r<w.heap.size:=(hm.ok _ _ hg).lt
     refine uB hm hg h4 (by simp) (fun c hc=>Array.getElem?_setIfInBounds_ne (Ne.symm hc)) fun bl hbl=>?_
     cases hbl
     refine⟨fun q hq=>(hm.sup _ _ hg).2 q ?_,m',clock,by simp[hlt],Ip⟩
     rw[KK]at hq
     cases rr with
     |none=>exact hq
     |some x=>exact List.mem_of_mem_eraseIdx hq
   ·cases h
  ·cases h
 ·cases h
end op
end
end Go.Sb
end
section
namespace Go.Sb
open Go
noncomputable section
def lv (s:St):Prop:=∀n,s.nx≤n→s.t.get n=none
def cT (P:Program)(call:FuncId→List Value→St→fq):Prop:=∀f args s v s',call f args s=some (v,s')→nr s s'∧
 ∀ρ p h,lv s→lp ρ p s.get h→(∀x∈args,dI p x)→(∀n,s.nx≤n→n<s'.nx→¬p n)→Nf P f (args.map (bk ρ)).toArray h (Out ρ p s h v s')
section op
variable {P:Program}{ρ:Rn}{p:Nat→Prop}{s:St}{env:eH}{a:Act}{w:World}{dst:Option Tmp}{type:TypeId}{pos:String}{after:Array Edge}{guard:Option (Nat×Bool)}{o:Oper}
theorem b6M {g:FuncId}{args:Array Value}{F:Value→Hp→Prop}(hrun:(execOp a.eval o).run P w=(callFunc g args).run P w)(hnf:Nf P g args w.heap F):yo P a o w F:=by
 intro next Qx hn
 rcases hnf with ⟨hc,aH⟩|⟨v,hc,aH⟩|aH
 ·exact AM (X:=F) (hrun.trans (hc _ w)) (aH w rfl) hn
 ·exact bV (hrun.trans (hc w rfl)) (hn v w (.refl w) aH)
 ·obtain⟨v,w',hc,hk,-,aH⟩:=aH w rfl
  exact bV (hrun.trans hc) (hn v w' hk aH)
theorem dI.func {f:Fn}{x y:Array Value}(h:dI p (.func f x y)):(∀v∈x.toList,dI p v)∧∀v∈y.toList,dI p v:=by
 constructor
 all_goals
  intro v hv ρ ρ' ha
  have:=h ρ ρ' ha
  rw[gL,gL]at this
  simp only[Value.func.injEq,true_and]at this
  first
   |(have h1:=congrArg Array.toList this.1;simp only[Array.toList_map]at h1;exact List.map_inj_left.1 h1 v hv)
   |(have h1:=congrArg Array.toList this.2;simp only[Array.toList_map]at h1;exact List.map_inj_left.1 h1 v hv)
variable (hm:lp ρ p s.get w.heap)(he:∀i v,env.get i=some v→dI p v)(ha:kE ρ env a)
include hm he ha
theorem ES (hf:lv s){call:FuncId→List Value→St→fq}(hcall:cT P call){f:Operand}{args:Array Operand}{ts:Array TypeId}{v:Value}{s':St}(hp:∀n,s.nx≤n→n<s'.nx→¬p n)(h:BT s env call f args=some (v,s')):
  Good P ρ p s a ⟨dst,.call ⟨.value f,args,ts⟩,type,pos,after,guard⟩ w v s':=by
 unfold BT at h
 split at h
 ·rename_i g first cap vs hfv hvs
  obtain⟨_,h2⟩:=hcall _ _ _ _ _ h
  obtain⟨s1,s2⟩:=dI.func (cZ he hfv)
  have d2e:=oC he hvs
  have hnf:=h2 ρ p w.heap hf hm (by
   intro x hx
   simp only[List.mem_append]at hx
   rcases hx with (hx|hx)|hx
   ·exact s1 x hx
   ·exact d2e x hx
   ·exact s2 x hx) hp
  refine b6M ?_ hnf
  have hF:=bQ ha hfv
  rw[gL]at hF
  have hE:=cQ ha.ag (uC ha hvs)
  simp only[execOp,resolve,hF,hE,Deferred.ofValue,Sem.run_bind,Sem.run_pure,Result.andThen_ok,invoke]
  congr 2
  apply Array.ext'
  simp
 ·cases h
theorem Iz {t:TypeId}{v rv:Value}{name:String}{f:FuncId}(h:a6x P s t v name=some (f,rv))(hv:dI p v):dI p rv∧∀args:Array Value,(callMethod (.iface t (bk ρ v)) name args).run P w=(callFunc f (#[bk ρ rv]++args)).run P w:=by
 unfold a6x at h
 split at h
 ·rename_i i hi
  split at h
  ·rename_i m TM
   obtain⟨k,hk⟩:∃k,P.types.size+Made.depth=k+1:=by
    have h0:0<Made.depth:=by decide
    exact⟨P.types.size+Made.depth-1,by omega⟩
   have yB:i.methods.find? (fun m=>m.name == name)=some m:=by
    rw[←Array.find?_toList]
    exact TM
   have FJ:∀args,(callMethod (.iface t (bk ρ v)) name args).run P w=((Go.method (k+1) t (bk ρ v) name).run P w).andThen fun r w=>(callFunc r.1 (#[r.2]++args)).run P w:=by
    intro args
    simp only[callMethod,program,Sem.run_bind]
    show ((Go.method (P.types.size+Made.depth) t (bk ρ v) name).run P w).andThen _=_
    rw[hk]
   split at h
   ·rename_i f' e lM hfn hu
    cases h
    refine⟨hv,fun args=>?_⟩
    rw[FJ]
    have:(Go.method (k+1) t (bk ρ v) name).run P w= .ok (f,bk ρ v) w:=by
     rw[Go.method]
     simp only[Sem.run_bind,run_typeInfo hi,Result.andThen_ok,yB,lM,follow,Sem.run_pure,hfn,receiverAt,run_underlying hu,Place.get]
    rw[this];rfl
   ·rename_i f' e lM hfn hu
    split at h
    ·rename_i ad d n hue hn
     split at h
     ·rename_i cs hcs
      obtain⟨h1,h2,h3⟩:=oD hm hcs
      have b7n:m.path.isEmpty=true:=by
       have:m.path= #[]:=by apply Array.ext';rw[lM]
       rw[this];rfl
      have load:∀u,(loadVar e (ρ.a ad)).run P w= .ok u w→(Go.method (k+1) t (bk ρ (.pointer (some ad))) name).run P w= .ok (f',u) w:=by
       intro u hu2
       have chk:∀n,(Builtin.ssaWrapNilChk_ #[t] t #[.pointer (some (ρ.a ad)),strVal "",strVal n]).run P w= .ok (.pointer (some (ρ.a ad))) w:=fun _=>rfl
       rw[Go.method,dS]
       simp only[Sem.run_bind,run_typeInfo hi,Result.andThen_ok,yB,lM,follow,Sem.run_pure,hfn,receiverAt,run_underlying hu,Place.get,b7n,if_true,Option.map_some,chk,asAddr,hu2]
      split at h
      ·rename_i dH
       cases h
       refine⟨dI.agg h3,fun args=>?_⟩
       rw[FJ,load (bk ρ (.agg cs.toArray))]
       ·rfl
       ·unfold loadVar loadCells
        simp only[Sem.run_bind,fc hue,Result.andThen_ok,dH,if_true,run_sizeOf hn]
        rw[il n 0 _ #[] h1 w rfl,ej]
        simp
      ·rename_i dH
       split at h
       ·rename_i c
        cases h
        refine⟨h3 _ (by simp),fun args=>?_⟩
        rw[FJ,load (bk ρ rv)]
        ·rfl
        ·unfold loadVar
         simp only[Sem.run_bind,fc hue,Result.andThen_ok,dH,Bool.false_eq_true,if_false]
         have:n=1:=by simpa using h2.symm
         subst this
         exact gC (mP h1)
       ·cases h
     ·cases h
    ·cases h
   ·cases h
  ·cases h
 ·cases h
theorem ET (hf:lv s){call:FuncId→List Value→St→fq}(hcall:cT P call){r:Operand}{name:String}{args:Array Operand}{ts:Array TypeId}{v:Value}{s':St}(hp:∀n,s.nx≤n→n<s'.nx→¬p n)(h:BU P s env call r name args=some (v,s')):
  Good P ρ p s a ⟨dst,.call ⟨.invoke r name,args,ts⟩,type,pos,after,guard⟩ w v s':=by
 unfold BU at h
 split at h
 ·rename_i t u vs hr hvs
  split at h
  ·rename_i f rv hmt
   have hS:dI p u:=fun ρ ρ' hag=>by
    have:=cZ he hr ρ ρ' hag
    rw[dO,dO]at this
    exact (Value.iface.inj this).2
   obtain⟨h1,h2⟩:=Iz (ρ:=ρ) hm he ha hmt hS
   obtain⟨_,h3⟩:=hcall _ _ _ _ _ h
   have d2e:=oC he hvs
   have hnf:=h3 ρ p w.heap hf hm (by
    intro x hx
    rcases List.mem_cons.1 hx with rfl|hx
    ·exact h1
    ·exact d2e x hx) hp
   refine b6M ?_ hnf
   have hR:=bQ ha hr
   rw[dO]at hR
   have hE:=cQ ha.ag (uC ha hvs)
   simp only[execOp,resolve,hR,hE,Sem.run_bind,Sem.run_pure,Result.andThen_ok,invoke]
   have e1:(#[Value.iface t (bk ρ u)]++(vs.map (bk ρ)).toArray)[0]? =some (.iface t (bk ρ u)):=by simp
   have e2:(#[Value.iface t (bk ρ u)]++(vs.map (bk ρ)).toArray).extract 1 (#[Value.iface t (bk ρ u)]++(vs.map (bk ρ)).toArray).size=(vs.map (bk ρ)).toArray:=by
    apply Array.ext';simp[List.take_of_length_le]
   simp only[e1,e2,h2]
   congr 2
   apply Array.ext';simp
  ·cases h
 ·cases h
theorem Tb (hfr:lv s){call:FuncId→List Value→St→fq}(hcall:cT P call){v:Value}{s':St}(hp:∀n,s.nx≤n→n<s'.nx→¬p n)(h:a6D P s env call o.op=some (v,s')):Good P ρ p s a o w v s':=by
 obtain⟨dst,op,type,pos,after,guard⟩:=o
 cases op<;>simp only[a6D,reduceCtorEq]at h
 case pick=>exact Ir hm he ha h
 case nilCheck=>exact S1 hm he ha h
 case binOp=>exact S2 hm he ha h
 case load=>exact Is hm he ha h
 case store=>exact EH hm he ha h
 case alloc=>exact EI hm he ha hp h
 case box=>exact S3 hm he ha hp h
 case buildSlice=>exact Cb hm he ha hp h
 case makeSlice=>exact EN hm ha hp h
 case slice=>exact EL hm he ha h
 case fieldAddr=>exact EJ hm he ha h
 case indexAddr=>exact It hm he ha h
 case index=>exact S4 hm he ha h
 case makeMap t r=>
  cases r with
  |none=>exact S8 hm he ha hp h
  |some r=>cases h
 case lookup=>exact Iy hm he ha h
 case mapUpdate=>exact S9 hm he ha h
 case convert=>exact Iw hm ha hp h
 case makeInterface=>exact EM hm he ha h
 case typeAssert=>exact Ca hm he ha h
 case call c=>
  obtain⟨callee,args,ts⟩:=c
  simp only at h
  split at h
  ·exact ES hm he ha hfr hcall hp h
  ·exact ET hm he ha hfr hcall hp h
  ·exact S7 hm he ha hp h
  ·exact Ta hm he ha h
  ·cases h
theorem a6Q (hfr:lv s){call:FuncId→List Value→St→fq}(hcall:cT P call){v:Value}{s':St}(hp:∀n,s.nx≤n→n<s'.nx→¬p n)(h:cop P call s env o=some (v,s')):Good P ρ p s a o w v s':=by
 unfold cop at h
 split at h
 ·rename_i u hu
  cases h
  exact S0 hm he ha hu
 ·exact Tb hm he ha hfr hcall hp h
end op
section stp
variable {P:Program}{s:St}{env:eH}
theorem EU {α:Type}{x:Addr}{vs:List Value}{k:St→Option α}{r:α}(h:s.SX x vs k=some r):∃s1,k s1=some r∧nr s s1:=by
 unfold St.SX at h
 split at h
 ·rename_i cs z op hsp hg hone
  split at h
  ·obtain⟨s1,h1,h2,_⟩:=gZ h hg
   exact⟨s1,h1,h2⟩
  ·cases h
 ·cases h
theorem me {cs:List Value}{z n c:Nat}{op:Bool}{v:Value}{s':St}(h:q7 s cs z op n c=some (v,s')):nr s s':=by
 obtain⟨s1,h1,h2,_⟩:=fu h
 cases h1;exact h2
theorem xg {cs:List Value}{v:Value}{s':St}(h:BL s cs=some (v,s')):nr s s':=by
 obtain⟨s1,h1,h2,_⟩:=fu h
 cases h1;exact h2
theorem a6R {e:TypeId}{p:Option Addr}{n c k:Nat}{xs:List Value}{v:Value}{s':St}(h:b4v P s e p n c xs k=some (v,s')):nr s s':=by
 unfold b4v at h
 split at h
 ·split at h
  ·split at h
   ·split at h
    ·cases h;exact .refl s
    ·split at h
     ·obtain⟨s1,h1,h2⟩:=EU h
      cases h1;exact h2
     ·cases h
   ·split at h
    ·split at h
     ·cases h
     ·split at h
      ·exact me h
      ·split at h
       ·split at h
        ·rename_i hg
         split at h
         ·obtain⟨s1,h1,h2,_⟩:=gZ h hg
          exact h2.trans (me h1)
         ·cases h
        ·cases h
       ·cases h
    ·cases h
  ·cases h
 ·cases h
theorem dU {v u:Value}{s':St}(h:some (v,s)=some (u,s')):nr s s':=by cases h;exact .refl s
theorem a6S {call:FuncId→List Value→St→fq}(hcall:∀f args s v s',call f args s=some (v,s')→nr s s'){op:Op}{v:Value}{s':St}(h:a6D P s env call op=some (v,s')):nr s s':=by
 cases op<;>simp only[a6D,reduceCtorEq]at h
 case pick=>
  unfold KD at h
  repeat' split at h
  all_goals first|(cases h;done)|exact dU h
 case nilCheck=>
  unfold b4w at h
  repeat' split at h
  all_goals first|(cases h;done)|exact dU h
 case binOp=>
  unfold b4x at h
  split at h
  ·unfold a6B at h
   repeat' split at h
   all_goals first|(cases h;done)|exact dU h
  ·repeat' split at h
   all_goals first|(cases h;done)|exact dU h
  ·cases h
 case load=>
  unfold KE at h
  repeat' split at h
  all_goals first|(cases h;done)|exact dU h
 case store=>
  unfold BM at h
  split at h
  ·split at h
   ·obtain⟨s1,h1,h2⟩:=EU h
    cases h1;exact h2
   ·cases h
  ·cases h
 case alloc=>
  unfold BN at h
  repeat' split at h
  all_goals first|(cases h;done)|exact xg h
 case box=>
  unfold b4y at h
  repeat' split at h
  all_goals first|(cases h;done)|exact xg h
 case buildSlice=>
  unfold ux at h
  repeat' split at h
  all_goals first|(cases h;done)|exact me h
 case makeSlice=>
  unfold BO at h
  repeat' split at h
  all_goals first|(cases h;done)|exact me h
 case slice=>
  unfold BQ at h
  repeat' split at h
  all_goals first|(cases h;done)|exact dU h
 case fieldAddr=>
  unfold BR at h
  repeat' split at h
  all_goals first|(cases h;done)|exact dU h
 case indexAddr=>
  unfold KF at h
  repeat' split at h
  all_goals first|(cases h;done)|exact dU h
 case index=>
  unfold b4z at h
  repeat' split at h
  all_goals first|(cases h;done)|exact dU h
 case makeMap t r=>
  cases r with
  |some r=>cases h
  |none=>
   have h:a6C P s t=some (v,s'):=h
   unfold a6C at h
   split at h
   ·obtain⟨s1,h1,h2,_⟩:=fu h
    cases h1;exact h2
   ·cases h
 case lookup=>
  unfold KG at h
  repeat' split at h
  all_goals first|(cases h;done)|exact dU h
 case mapUpdate=>
  unfold b4A at h
  split at h
  ·split at h
   ·rename_i hg
    split at h
    ·obtain⟨s1,h1,h2,_⟩:=gZ h hg
     cases h1;exact h2
    ·cases h
   ·cases h
  ·cases h
 case convert=>
  unfold KH at h
  repeat' split at h
  all_goals first|(cases h;done)|exact me h
 case makeInterface=>
  unfold BS at h
  repeat' split at h
  all_goals first|(cases h;done)|exact dU h
 case typeAssert=>
  unfold uy at h
  repeat' split at h
  all_goals first|(cases h;done)|exact dU h
 case call c=>
  obtain⟨callee,args,ts⟩:=c
  simp only at h
  split at h
  ·unfold BT at h
   split at h
   ·exact hcall _ _ _ _ _ h
   ·cases h
  ·unfold BU at h
   split at h
   ·split at h
    ·exact hcall _ _ _ _ _ h
    ·cases h
   ·cases h
  ·unfold b4B at h
   repeat' split at h
   all_goals first|(cases h;done)|exact a6R h
  ·unfold b4C at h
   split at h
   ·split at h
    ·rename_i hg
     split at h
     ·obtain⟨s1,h1,h2,_⟩:=gZ h hg
      cases h1;exact h2
     ·cases h
    ·cases h
   ·cases h
  ·cases h
theorem b4I {call:FuncId→List Value→St→fq}(hcall:∀f args s v s',call f args s=some (v,s')→nr s s'){o:Oper}{v:Value}{s':St}(h:cop P call s env o=some (v,s')):nr s s':=by
 unfold cop at h
 split at h
 ·exact dU h
 ·exact a6S hcall h
theorem kH {call:FuncId→List Value→St→fq}(hcall:∀f args s v s',call f args s=some (v,s')→nr s s'){ops:List Oper}{o:Oper}{v:Value}{s':St}(h:BV P call ops s env o=some (v,s')):nr s s':=by
 unfold BV at h
 repeat' split at h
 all_goals first|(cases h;done)|exact b4I hcall h|exact dU h
end stp
end
end Go.Sb
end
section
namespace Go.Sb
open Go
noncomputable section
def ia (p:Nat→Prop)(env:eH):Prop:=∀i v,env.get i=some v→dI p v
theorem ia.mono {p q:Nat→Prop}{env:eH}(h:ia p env)(hpq:∀n,p n→q n):ia q env:=fun i v hi=>(h i v hi).mono hpq
theorem kE.wZ {ρ ρ':Rn}{p:Nat→Prop}{env:eH}{a:Act}(h:kE ρ env a)(he:ia p env)(hag:B0 p ρ ρ'):kE ρ' env a:=
 ⟨fun i v hi=>by rw[h.at_ i v hi,he i v hi ρ ρ' hag],h.defers⟩
theorem mf {β:Type}{N:Nat}{env:eH}{d:Option Tmp}{v:Option Value}{k:eH→Option β}{r:β}(hN:N≤1000000)(h:sr N env d v k=some r):
  ∃env1,k env1=some r∧((d=none∧env1=env)∨∃d',d=some d'∧d'<N∧∀i,env1.get i=if i=d' then v else env.get i):=by
 cases d with
 |none=>exact⟨env,h,.inl ⟨rfl,rfl⟩⟩
 |some d=>
  simp only[sr]at h
  split at h
  ·rename_i hlt
   have hlt:d<N:=Nat.le_of_ble_eq_true hlt
   rw[Tr.dn]at h
   exact⟨_,h,.inr ⟨d,rfl,hlt,fun i=>Tr.kC _ _ _ (Nat.lt_of_lt_of_le hlt hN)⟩⟩
  ·cases h
theorem kE.d2f {ρ:Rn}{env env1:eH}{a:Act}{N:Nat}{d:Option Tmp}{v:Value}(h:kE ρ env a)(hN:N≤a.tmps.size)(he:(d=none∧env1=env)∨∃d',d=some d'∧d'<N∧∀i,env1.get i=if i=d' then some v else env.get i):kE ρ env1 (a.put d (bk ρ v)):=by
 rcases he with ⟨rfl,rfl⟩|⟨d',rfl,h1,h2⟩
 ·exact⟨fun i u hu=>by rw[gB,if_neg (by simp)];exact h.at_ i u hu,by rw[put_defers,h.defers]⟩
 ·exact h.put (Nat.lt_of_lt_of_le h1 hN) h2
theorem ia.d2f {p:Nat→Prop}{env env1:eH}{N:Nat}{d:Option Tmp}{v:Value}(h:ia p env)(hv:dI p v)(he:(d=none∧env1=env)∨∃d',d=some d'∧d'<N∧∀i,env1.get i=if i=d' then some v else env.get i):ia p env1:=by
 rcases he with ⟨rfl,rfl⟩|⟨d',rfl,h1,h2⟩
 ·exact h
 ·intro i u hu
  rw[h2]at hu
  split at hu
  ·cases hu;exact hv
  ·exact h i u hu
section reg
variable {P:Program}{ops:Array Oper}{call:FuncId→List Value→St→fq}
theorem Cc (hcall:cT P call){ρ:Rn}{p:Nat→Prop}{s s':St}(hfr:lv s){env:eH}{a:Act}{w:World}{i:Nat}{o:Oper}{v:Value}(hm:lp ρ p s.get w.heap)(he:ia p env)(ha:kE ρ env a)(hi:ops[i]? =some o)
  (hp:∀n,s.nx≤n→n<s'.nx→¬p n) (h:BV P call ops.toList s env o=some (v,s')) (next:Act→World→Prop) (Qx:Exit→Act→World→Prop)
  (hn:∀u w',Kept w w'→Out ρ p s w.heap v s' u w'.heap→next (a.put o.dst u) w'):wpOp P ops Qx i next a w:=by
 unfold wpOp
 simp only[hi]
 have skip:v=undef→s'=s→Region.wanted o (yielded ops a.tmps)=false→(if Region.wanted o (yielded ops a.tmps)=true then o.wp P a w next Qx∨(o.asks P a w∧LetsOut Qx) else next (a.put o.dst undef) w):=by
  intro e1 e2 e3
  rw[e3]
  simp only[Bool.false_eq_true,if_false]
  subst e1 e2
  exact hn _ w (.refl w) ⟨ρ,(dP ρ).symm,.refl hm _,fun ρ ρ' _=>by rw[dP,dP]⟩
 have go:cop P call s env o=some (v,s')→Region.wanted o (yielded ops a.tmps)=true→(if Region.wanted o (yielded ops a.tmps)=true then o.wp P a w next Qx∨(o.asks P a w∧LetsOut Qx) else next (a.put o.dst undef) w):=by
  intro e1 e3
  rw[e3]
  simp only[if_true]
  exact .inl (a6Q hm he ha hfr hcall hp e1 next Qx hn)
 unfold BV at h
 cases hg:o.guard with
 |none=>
  rw[hg]at h
  exact go h (by unfold Region.wanted;rw[hg])
 |some g=>
  obtain⟨j,want⟩:=g
  rw[hg]at h
  simp only[]at h
  have yF:Region.wanted o (yielded ops a.tmps)=(yielded ops a.tmps j == some want):=by unfold Region.wanted;rw[hg]
  cases hj:cB ops.toList j with
  |none=>rw[hj]at h;cases h
  |some c=>
   rw[hj]at h
   simp only[]at h
   cases hl:env.get c with
   |none=>rw[hl]at h;cases h
   |some u=>
    rw[hl]at h
    have hc:=ha.at_ _ _ hl
    cases u<;>simp only[reduceCtorEq]at h
    case tuple vs=>
     cases h
     refine skip rfl rfl ?_
     have hy:yielded ops a.tmps j=none:=by
      unfold yielded;rw[iq hj,Option.bind_some,hc,eG]
     rw[yF,hy];rfl
    case bool b=>
     rw[eZ]at hc
     have hy:=gh (tmps:=a.tmps) hj hc
     rw[hy]at yF
     cases want<;>cases b<;>simp only[]at h
     ·exact go h (by rw[yF];rfl)
     ·cases h;exact skip rfl rfl (by rw[yF];rfl)
     ·cases h;exact skip rfl rfl (by rw[yF];rfl)
     ·exact go h (by rw[yF];rfl)
theorem mg {N:Nat}(hcall:cT P call){ol:List Oper}:∀(l:List Oper) {s s':St} {env env':eH},BW P N call ol l s env=some (env',s')→N≤1000000→nr s s'
 |[],s,s',env,env',h,_=>by simp only[BW,Option.some.injEq,Prod.mk.injEq]at h;rw[h.2];exact .refl _
 |o::l,s,s',env,env',h,hN=>by
  simp only[BW]at h
  split at h
  ·rename_i v s1 h1
   rw[m6]at h
   obtain⟨env1,h2,_⟩:=mf hN h
   exact (kH (fun f args s v s' hh=>(hcall f args s v s' hh).1) h1).trans (mg hcall l h2 hN)
  ·cases h
theorem pX (hcall:cT P call){N:Nat}(hN:N≤1000000){Qx:Exit→Act→World→Prop}{R:List Nat}:∀(l:List Oper) (is:List Nat) {ρ:Rn} {p:Nat→Prop} {s s':St} {env env':eH} {a:Act} {w:World},is.map (fun i=>ops[i]?)=l.map some→lv s→lp ρ p s.get w.heap→ia p env→kE ρ env a→N≤a.tmps.size→
  BW P N call ops.toList l s env=some (env',s')→(∀n,s.nx≤n→n<s'.nx→¬p n)→
  (∀ρ' a' w',Kept w w'→m7 ρ p s.get w.heap s.nx s'.nx ρ' s'.get w'.heap→ia (pn p s.nx s'.nx) env'→kE ρ' env' a'→a'.tmps.size=a.tmps.size→wpOps P ops Qx R a' w')→wpOps P ops Qx (is++R) a w
 |[],is,ρ,p,s,s',env,env',a,w,hi,hfr,hm,he,ha,hNa,h,hp,K=>by
  have:is=[]:=by cases is<;>simp at hi ⊢
  subst this
  simp only[BW,Option.some.injEq,Prod.mk.injEq]at h
  obtain⟨rfl,rfl⟩:=h
  exact K ρ a w (.refl w) (.refl hm _) (he.mono fun _=>.inl) ha rfl
 |o::l,is,ρ,p,s,s',env,env',a,w,hi,hfr,hm,he,ha,hNa,h,hp,K=>by
  cases is with
  |nil=>simp at hi
  |cons i is=>
   simp only[List.map_cons,List.cons.injEq]at hi
   simp only[BW]at h
   split at h
   ·rename_i v s1 h1
    rw[m6]at h
    obtain⟨env1,h2,h3⟩:=mf hN h
    have st1:=kH (fun f args s v s' hh=>(hcall f args s v s' hh).1) h1
    have Tc:=mg hcall l h2 hN
    have n1:=st1.nx
    have n2:=Tc.nx
    rw[List.cons_append,wpOps_cons]
    refine Cc hcall hfr hm he ha hi.1 (fun n a b=>hp n a (by omega)) h1 _ Qx ?_
    rintro u w' hk ⟨ρ',rfl,d2g,sw⟩
    have hag:=d2g.e4u fun n a b=>hp n a (by omega)
    have ha':=(ha.wZ he hag).d2f hNa h3
    refine pX hcall hN l is hi.2 (st1.fr hfr) d2g.mat ((he.mono fun _=>.inl).d2f sw h3) ha' (by rw[nw];exact hNa) h2 ?_ ?_
    ·intro n a b hpn
     rcases hpn with hpn|hpn
     ·exact hp n (by omega) b hpn
     ·omega
    ·intro ρ2 a2 w2 hk2 hl2 he2 ha2 hsz
     refine K ρ2 a2 w2 (hk.trans hk2) (d2g.trans hl2 n1 n2) (he2.mono fun n hn=>?_) ha2 (by rw[hsz,nw])
     rcases hn with (hn|hn)|hn
     ·exact .inl hn
     ·exact .inr ⟨hn.1,by omega⟩
     ·exact .inr ⟨by omega,hn.2⟩
   ·cases h
end reg
end
end Go.Sb
end
section
namespace Go.Sb
open Go
noncomputable section
structure Rec where
 i:Nat
 o:Oper
 mask:Nat
 blind:Bool
 v:Value
 lo:Nat
 hi:Nat
 old:List Nat
 tb:Tr Bl
 ta:Tr Bl
 eb:eH
def Rec.did (r:Rec):Did:=⟨r.i,r.blind,r.lo,r.hi,r.old⟩
def Rec.N (r:Rec)(n:Nat):Prop:=(r.lo≤n∧n<r.hi)∨n∈r.old
instance (r:Rec) (n:Nat):Decidable (r.N n):=by unfold Rec.N;infer_instance
def iH (o:Oper)(x:Nat):Prop:=o.dst=some x
instance (o:Oper) (x:Nat):Decidable (iH o x):=by unfold iH;infer_instance
def sig (D:Nat→Bool):List Rec→(Nat→Option Bl)→Nat→Option Bl
 |[],g=>g
 |r::rs,g=>sig D rs fun n=>if D r.i=true∧r.blind=false∧r.N n then r.ta.get n else g n
def jK (D:Nat→Bool):List Rec→(Nat→Option Value)→Nat→Option Value
 |[],e=>e
 |r::rs,e=>jK D rs fun x=>if D r.i=true∧iH r.o x then some r.v else e x
theorem rm (D:Nat→Bool):∀(a b:List Rec) (g:Nat→Option Bl),sig D (a++b) g=sig D b (sig D a g)
 |[],b,g=>rfl
 |r::a,b,g=>rm D a b _
theorem rn (D:Nat→Bool):∀(a b:List Rec) (g:Nat→Option Value),jK D (a++b) g=jK D b (jK D a g)
 |[],b,g=>rfl
 |r::a,b,g=>rn D a b _
theorem nQ {D:Nat→Bool}{n:Nat}:∀{rs:List Rec} {g:Nat→Option Bl},(∀r∈rs,D r.i=true→r.blind=false→¬r.N n)→sig D rs g n=g n
 |[],g,_=>rfl
 |r::rs,g,h=>by
  unfold sig
  rw[nQ fun x hx=>h x (by simp[hx])]
  rw[if_neg]
  rintro ⟨h1,h2,h3⟩
  exact h r (by simp) h1 h2 h3
theorem oE {D:Nat→Bool}{x:Nat}:∀{rs:List Rec} {g:Nat→Option Value},(∀r∈rs,D r.i=true→¬iH r.o x)→jK D rs g x=g x
 |[],g,_=>rfl
 |r::rs,g,h=>by
  unfold jK
  rw[oE fun y hy=>h y (by simp[hy])]
  rw[if_neg]
  rintro ⟨h1,h2⟩
  exact h r (by simp) h1 h2
theorem mh {D D':Nat→Bool}{n:Nat}:∀{rs:List Rec} {g g':Nat→Option Bl},g n=g' n→(∀r∈rs,r.blind=false→r.N n→D r.i=D' r.i)→sig D rs g n=sig D' rs g' n
 |[],g,g',h,_=>h
 |r::rs,g,g',h,hd=>by
  unfold sig
  refine mh ?_ fun x hx=>hd x (by simp[hx])
  by_cases hb:r.blind=false∧r.N n
  ·rw[hd r (by simp) hb.1 hb.2]
   simp only[h]
  ·rw[if_neg fun hh=>hb hh.2,if_neg fun hh=>hb hh.2,h]
theorem mR {D D':Nat→Bool}{x:Nat}:∀{rs:List Rec} {g g':Nat→Option Value},g x=g' x→(∀r∈rs,iH r.o x→D r.i=D' r.i)→jK D rs g x=jK D' rs g' x
 |[],g,g',h,_=>h
 |r::rs,g,g',h,hd=>by
  unfold jK
  refine mR ?_ fun y hy=>hd y (by simp[hy])
  by_cases hb:iH r.o x
  ·rw[hd r (by simp) hb]
   simp only[h]
  ·rw[if_neg fun hh=>hb hh.2,if_neg fun hh=>hb hh.2,h]
theorem mem_iff {l:List (Nat×Nat)}{n:Nat}:mem l n=true↔∃q∈l,q.1≤n∧n<q.2:=by
 induction l with
 |nil=>simp[mem]
 |cons q l ih=>
  obtain⟨x,y⟩:=q
  simp only[mem]
  split
  ·rename_i h1 h2
   have h1:=Nat.le_of_ble_eq_true h1
   have h2:n<y:=Nat.le_of_ble_eq_true h2
   simp[h1,h2]
  ·rename_i hno
   rw[ih]
   constructor
   ·rintro ⟨q,h1,h2⟩;exact⟨q,by simp[h1],h2⟩
   ·rintro ⟨q,h1,h2,h3⟩
    rcases List.mem_cons.1 h1 with rfl|h1
    ·exact (hno (Nat.ble_eq_true_of_le h2) (Nat.ble_eq_true_of_le h3)).elim
    ·exact⟨q,h1,h2,h3⟩
theorem b4J {xs:List Nat}{l:List (Nat×Nat)}{n:Nat}:mem (rf xs l) n=true↔n∈xs∨mem l n=true:=by
 induction xs with
 |nil=>simp[rf]
 |cons x xs ih=>
  rw[mem_iff]
  simp only[rf,List.mem_cons,exists_eq_or_imp]
  rw[←mem_iff,ih]
  constructor
  ·rintro (h|h|h)
   ·exact .inl (.inl (by omega))
   ·exact .inl (.inr h)
   ·exact .inr h
  ·rintro ((h|h)|h)
   ·exact .inl (by omega)
   ·exact .inr (.inl h)
   ·exact .inr (.inr h)
theorem rq {m:Nat}{lk:List (Nat×Nat)}{n:Nat}:∀{ds:List Did},mem (jZ m lk ds) n=true↔mem lk n=true∨∃d∈ds,Nat.testBit m d.i=false∧d.blind=false∧((d.lo≤n∧n<d.hi)∨n∈d.old)
 |[]=>by simp[jZ]
 |d::ds=>by
  unfold jZ
  split
  ·rename_i h
   rw[rq]
   constructor
   ·rintro (h1|⟨x,h1,h2⟩)
    ·exact .inl h1
    ·exact .inr ⟨x,by simp[h1],h2⟩
   ·rintro (h1|⟨x,h1,h2,h3,h4⟩)
    ·exact .inl h1
    ·rcases List.mem_cons.1 h1 with rfl|h1
     ·rw[h2,h3]at h;cases h
     ·exact .inr ⟨x,h1,h2,h3,h4⟩
  ·rename_i h
   rw[Bool.or_eq_false_iff]at h
   rw[mem_iff]
   simp only[List.mem_cons,exists_eq_or_imp]
   rw[←mem_iff,b4J,rq]
   constructor
   ·rintro (h1|h1|h1|h1)
    ·exact .inr (.inl ⟨h.1,h.2,.inl h1⟩)
    ·exact .inr (.inl ⟨h.1,h.2,.inr h1⟩)
    ·exact .inl h1
    ·exact .inr (.inr h1)
   ·rintro (h1|⟨_,_,h1|h1⟩|h1)
    ·exact .inr (.inr (.inl h1))
    ·exact .inl h1
    ·exact .inr (.inl h1)
    ·exact .inr (.inr (.inr h1))
theorem gq {lo hi m:Nat}:∀{l:List Nat},m∈yn lo hi l↔m∈l∧¬(lo≤m∧m<hi)
 |[]=>by simp[yn]
 |x::xs=>by
  unfold yn
  split
  ·rename_i h
   rw[Bool.and_eq_true]at h
   have h1:=Nat.le_of_ble_eq_true h.1
   have h2:x<hi:=Nat.le_of_ble_eq_true h.2
   simp only[List.mem_cons,gq]
   constructor
   ·rintro ⟨h3,h4⟩;exact⟨.inr h3,h4⟩
   ·rintro ⟨rfl|h3,h4⟩
    ·exact (h4 ⟨h1,h2⟩).elim
    ·exact⟨h3,h4⟩
  ·rename_i h
   have h:¬(lo≤x∧x<hi):=fun hh=>by
    rw[Nat.ble_eq_true_of_le hh.1,show Nat.blt x hi=true from Nat.ble_eq_true_of_le hh.2]at h
    cases h
   simp only[List.mem_cons,gq]
   constructor
   ·rintro (rfl|⟨h1,h2⟩)
    ·exact⟨.inl rfl,h⟩
    ·exact⟨.inr h1,h2⟩
   ·rintro ⟨rfl|h1,h2⟩
    ·exact .inl rfl
    ·exact .inr ⟨h1,h2⟩
theorem oZ {m:Nat}:∀{ds:List Did},ma m ds=true→∀d∈ds,Nat.testBit m d.i=true∨d.blind=true
 |[],_=>by simp
 |d::ds,h=>by
  simp only[ma,Bool.and_eq_true,Bool.or_eq_true]at h
  intro x hx
  rcases List.mem_cons.1 hx with rfl|hx
  ·exact h.1
  ·exact oZ h.2 x hx
theorem lI {α:Type}{i mask:Nat}:∀(k:Nat) (ol:List Oper) (ms:List Nat) (env:eH) (K:eH→Option α) (r:α),eI i mask k ol ms env K=some r→ol.length≤ms.length→
  ∃eu,K eu=some r∧∀x v,eu.get x=some v→env.get x=some v∧(x<1000000→∀j o m,ol[j]? =some o→ms[j]? =some m→Nat.testBit mask (k+j)=false→Nat.testBit m i=false→k+j≠i→¬iH o x)
 |k,[],ms,env,K,r,h,_=>by
  unfold eI at h
  exact⟨env,h,fun x v hx=>⟨hx,fun _ j o m ho=>by simp at ho⟩⟩
 |k,o::ol,[],env,K,r,h,hl=>by simp at hl
 |k,o::ol,m::ms,env,K,r,h,hl=>by
  simp only[List.length_cons]at hl
  unfold eI at h
  have pass:eI i mask (k+1) ol ms env K=some r→(∀x,x<1000000→env.get x≠none→(Nat.testBit mask k||Nat.testBit m i||Nat.beq k i)=true∨¬iH o x)→∃eu,K eu=some r∧∀x v,eu.get x=some v→env.get x=some v∧(x<1000000→∀j o' m',(o::ol)[j]? =some o'→(m::ms)[j]? =some m'→Nat.testBit mask (k+j)=false→Nat.testBit m' i=false→k+j≠i→¬iH o' x):=by
   intro h hd
   obtain⟨eu,h1,h2⟩:=lI (k+1) ol ms env K r h (by omega)
   refine⟨eu,h1,fun x v hx=>?_⟩
   obtain⟨h3,h4⟩:=h2 x v hx
   refine⟨h3,fun hx1 j o' m' ho hm t1 t2 t3=>?_⟩
   cases j with
   |zero=>
    simp only[List.getElem?_cons_zero,Option.some.injEq]at ho hm
    subst ho hm
    rcases hd x hx1 (by rw[h3];simp) with hd|hd
    ·rw[Nat.add_zero]at t1 t3
     rw[t1,t2,Bool.false_or,Bool.false_or]at hd
     exact absurd (Nat.eq_of_beq_eq_true hd) t3
    ·exact hd
   |succ j=>
    simp only[List.getElem?_cons_succ]at ho hm
    exact h4 hx1 j o' m' ho hm (by rw[show k+1+j=k+(j+1) by omega];exact t1) t2 (by omega)
  split at h
  ·rename_i hc
   exact pass h fun x _ _=>.inl hc
  ·rename_i hc
   split at h
   ·rename_i hd
    exact pass h fun x _ _=>.inr (by unfold iH;rw[hd];simp)
   ·rename_i d hd
    split at h
    ·rename_i u hlt hu
     have hlt:d<1000000:=Nat.le_of_ble_eq_true hlt
     rw[Tr.dn]at h
     obtain⟨eu,h1,h2⟩:=lI (k+1) ol ms _ K r h (by omega)
     refine⟨eu,h1,fun x v hx=>?_⟩
     obtain⟨h3,h4⟩:=h2 x v hx
     rw[Tr.kC _ _ _ hlt]at h3
     split at h3
     ·cases h3
     ·rename_i hne
      refine⟨h3,fun hx1 j o' m' ho hm t1 t2 t3=>?_⟩
      cases j with
      |zero=>
       simp only[List.getElem?_cons_zero,Option.some.injEq]at ho
       subst ho
       unfold iH
       rw[hd]
       intro hh
       exact hne (Option.some.inj hh).symm
      |succ j=>
       simp only[List.getElem?_cons_succ]at ho hm
       exact h4 hx1 j o' m' ho hm (by rw[show k+1+j=k+(j+1) by omega];exact t1) t2 (by omega)
    ·rename_i hno
     refine pass h fun x hx1 hx=>?_
     right
     unfold iH
     rw[hd]
     intro hh
     cases hh
     cases hg:env.get d with
     |none=>exact hx hg
     |some u=>exact hno u (Nat.ble_eq_true_of_le hx1) hg
end
end Go.Sb
end
section
namespace Go.Sb
open Go
noncomputable section
def nR (_:Nat):Bool:=true
structure EV (P:Program) (N:Nat) (call:FuncId→List Value→St→fq) (ol:List Oper) (dh:List Nat) (lk:List (Nat×Nat)) (g0:Nat→Option Bl) (e0:Nat→Option Value) (pre:List Rec) (r:Rec):Prop where
 ho:ol[r.i]? =some r.o
 hmk:dh[r.i]? =some r.mask
 run:∃eu:eH,(∀x v,eu.get x=some v→jK nR pre e0 x=some v∧∀j o m,ol[j]? =some o→dh[j]? =some m→Nat.testBit r.mask j=false→Nat.testBit m r.i=false→j≠r.i→¬iH o x)∧
  ((r.blind=true∧∃s1,BV P call ol ⟨.lf,0,[],[]⟩ eu r.o=some (r.v,s1)∧s1.nx=0)∨
   (r.blind=false∧∃s1 TN,BV P call ol ⟨r.tb,r.lo,TN,[]⟩ eu r.o=some (r.v,s1)∧r.ta=s1.t∧r.hi=s1.nx∧r.old=yn r.lo r.hi s1.wr∧(∀n,mem TN n=true↔mem lk n=true∨∃k∈pre,Nat.testBit r.mask k.i=false∧k.blind=false∧k.N n)∧(∀n,mem lk n=false→r.tb.get n=sig nR pre g0 n)∧∀n,r.lo≤n→r.tb.get n=none))
 put:r.o.dst=none∨∃d,r.o.dst=some d∧d<N
 pair:∀k∈pre,r.blind=false→k.blind=false→k.hi≤r.lo∧(Nat.testBit r.mask k.i=false→r.old=[])
 le:r.blind=false→r.lo≤r.hi
theorem tE {P:Program}{N:Nat}{call:FuncId→List Value→St→fq}(hcall:∀f args s v s',call f args s=some (v,s')→nr s s')(hN:N≤1000000){ol:List Oper}{dh:List Nat}(hms:ol.length≤dh.length){lk:List (Nat×Nat)}{g0:Nat→Option Bl}{e0:Nat→Option Value}:
  ∀(is:List Nat) (pre:List Rec) (s:St) (env:eH) (ds:List Did) (env':eH) (s':St),(∀d,d∈ds↔∃k∈pre,d=k.did)→s.lk=lk→(∀n,mem lk n=false→s.t.get n=sig nR pre g0 n)→lv s→(∀x,env.get x=jK nR pre e0 x)→(∀x v,env.get x=some v→x<1000000)→
   (∀k∈pre,k.blind=false→k.hi≤s.nx)→lh P N call ol dh is ds s env=some (env',s')→
   ∃rs:List Rec,rs.map (·.i)=is∧(∀a r b,rs=a++r::b→EV P N call ol dh lk g0 e0 (pre++a) r)∧(∀n,mem lk n=false→s'.t.get n=sig nR (pre++rs) g0 n)∧(∀x,env'.get x=jK nR (pre++rs) e0 x)∧(∀r∈rs,r.blind=false→s.nx≤r.lo∧r.hi≤s'.nx)∧nr s s'
 |[],pre,s,env,ds,env',s',hds,rH,hg,hf,he,hx,hlo,h=>by
  simp only[lh,Option.some.injEq,Prod.mk.injEq]at h
  obtain⟨rfl,rfl⟩:=h
  exact⟨[],rfl,fun a r b hh=>by simp at hh,by simpa using hg,by simpa using he,by simp,.refl _⟩
 |i::is,pre,s,env,ds,env',s',hds,rH,hg,hf,he,hx,hlo,h=>by
  unfold lh at h
  split at h
  ·rename_i o mask ho hmk
   obtain⟨eu,h,f2D⟩:=lI 0 ol dh env _ _ h hms
   have heu:∀x v,eu.get x=some v→jK nR pre e0 x=some v∧∀j o m,ol[j]? =some o→dh[j]? =some m→Nat.testBit mask j=false→Nat.testBit m i=false→j≠i→¬iH o x:=by
    intro x v hxv
    obtain⟨h1,h2⟩:=f2D x v hxv
    refine⟨by rw[←he];exact h1,fun j o m a1 a2 a3 a4 a5=>h2 (hx x v h1) j o m a1 a2 (by rw[Nat.zero_add];exact a3) a4 (by rw[Nat.zero_add];exact a5)⟩
   have next:∀(r:Rec) (s2:St) (pY:eH),r.i=i→r.o=o→EV P N call ol dh lk g0 e0 pre r→nr s s2→(∀n,mem lk n=false→s2.t.get n=sig nR (pre++[r]) g0 n)→(r.blind=false→s.nx≤r.lo∧r.hi≤s2.nx)→
     ((o.dst=none∧pY=env)∨∃d',o.dst=some d'∧d'<N∧∀i,pY.get i=if i=d' then some r.v else env.get i)→lh P N call ol dh is (r.did::ds) s2 pY=some (env',s')→
     ∃rs:List Rec,rs.map (·.i)=i::is∧(∀a r b,rs=a++r::b→EV P N call ol dh lk g0 e0 (pre++a) r)∧(∀n,mem lk n=false→s'.t.get n=sig nR (pre++rs) g0 n)∧(∀x,env'.get x=jK nR (pre++rs) e0 x)∧(∀r∈rs,r.blind=false→s.nx≤r.lo∧r.hi≤s'.nx)∧nr s s':=by
    intro r s2 pY hri hro hrun hst hg2 KK a6T h
    have e2:∀x,pY.get x=jK nR (pre++[r]) e0 x:=by
     intro x
     rw[rn]
     simp only[jK,nR,true_and]
     rw[←he]
     rcases a6T with ⟨h1,rfl⟩|⟨d',h1,_,h2⟩
     ·rw[if_neg (by unfold iH;rw[hro,h1];simp)]
     ·rw[h2]
      by_cases hxd:x=d'
      ·rw[if_pos hxd,if_pos (by unfold iH;rw[hro,h1,hxd])]
      ·rw[if_neg hxd,if_neg (fun hh=>hxd (by unfold iH at hh;rw[hro,h1]at hh;exact (Option.some.inj hh).symm))]
    have hx2:∀x v,pY.get x=some v→x<1000000:=by
     intro x v hxv
     rcases a6T with ⟨h1,rfl⟩|⟨d',h1,h3,h2⟩
     ·exact hx x v hxv
     ·rw[h2]at hxv
      by_cases hxd:x=d'
      ·rw[hxd];exact Nat.lt_of_lt_of_le h3 hN
      ·rw[if_neg hxd]at hxv;exact hx x v hxv
    obtain⟨rs,a1,a2,a3,a4,a5,a6⟩:=tE hcall hN hms is (pre++[r]) s2 pY (r.did::ds) env' s' (by
      intro d
      simp only[List.mem_cons,List.mem_append,hds]
      constructor
      ·rintro (rfl|⟨k,h1,h2⟩)
       ·exact⟨r,by simp,rfl⟩
       ·exact⟨k,.inl h1,h2⟩
      ·rintro ⟨k,h1|h1,h2⟩
       ·exact .inr ⟨k,h1,h2⟩
       ·rcases h1 with h1|h1
        ·subst h1;exact .inl h2
        ·simp at h1) (hst.lk.trans rH) hg2 (hst.fr hf) e2 hx2 (by
      intro k hk hb
      rcases List.mem_append.1 hk with hk|hk
      ·exact Nat.le_trans (hlo k hk hb) hst.nx
      ·rw[List.mem_singleton.1 hk]at hb ⊢
       exact (KK hb).2) h
    have hn2:=a6.nx
    refine⟨r::rs,by simp[a1,hri],?_,?_,?_,?_,hst.trans a6⟩
    ·intro a r' b hab
     cases a with
     |nil=>
      simp only[List.nil_append,List.cons.injEq]at hab
      obtain⟨rfl,rfl⟩:=hab
      simpa using hrun
     |cons x a=>
      simp only[List.cons_append,List.cons.injEq]at hab
      obtain⟨rfl,hab⟩:=hab
      have:=a2 a r' b hab
      simpa using this
    ·intro n hn
     have:=a3 n hn
     simpa using this
    ·intro x
     have:=a4 x
     simpa using this
    ·intro r' hr' hb
     have hn1:=hst.nx
     rcases List.mem_cons.1 hr' with rfl|hr'
     ·have:=KK hb;omega
     ·have:=a5 r' hr' hb;omega
   split at h
   ·
    split at h
    ·rename_i v t1 l1 w1 hone
     rw[m6]at h
     obtain⟨pY,h2,h3⟩:=mf hN h
     let r:Rec:=⟨i,o,mask,true,v,0,0,[],.lf,.lf,env⟩
     refine next r s pY rfl rfl ⟨ho,hmk,⟨eu,heu,.inl ⟨rfl,_,hone,rfl⟩⟩,?_,fun k _ hb=>(by cases hb),fun hb=>(by cases hb)⟩ (.refl s) ?_ (fun hb=>by cases hb) h3 h2
     ·rcases h3 with ⟨h1,_⟩|⟨d',h1,h2,_⟩
      ·exact .inl h1
      ·exact .inr ⟨d',h1,h2⟩
     ·intro n hn
      rw[rm,hg n hn]
      simp[sig,r]
    ·cases h
   ·rw[mc]at h
    split at h
    ·rename_i v s1 hone
     rw[mc]at h
     have st1:=kH hcall hone
     have e4w:s.nx≤s1.nx:=st1.nx
     let old:=yn s.nx s1.nx s1.wr
     let s2:St:=⟨s1.t,s1.nx,s.lk,old++s.wr⟩
     let r:Rec:=⟨i,o,mask,false,v,s.nx,s1.nx,old,s.t,s1.t,env⟩
     have An:∀n,mem (jZ mask s.lk ds) n=true↔mem lk n=true∨∃k∈pre,Nat.testBit mask k.i=false∧k.blind=false∧k.N n:=by
      intro n
      rw[rq,rH]
      constructor
      ·rintro (h1|⟨d,h1,h2,h3,h4⟩)
       ·exact .inl h1
       ·obtain⟨k,hk,rfl⟩:=(hds d).1 h1
        exact .inr ⟨k,hk,h2,h3,h4⟩
      ·rintro (h1|⟨k,hk,h2,h3,h4⟩)
       ·exact .inl h1
       ·exact .inr ⟨k.did,(hds _).2 ⟨k,hk,rfl⟩,h2,h3,h4⟩
     obtain⟨l,w1,w2,w3,w4⟩:=st1.wr
     simp only[List.append_nil]at w1
     have unl:∀n,mem (jZ mask s.lk ds) n=false→mem s.lk n=false:=by
      intro n hn
      cases hm:mem s.lk n with
      |false=>rfl
      |true=>
       rw[←rH]at An
       rw[(An n).2 (.inl hm)]at hn;cases hn
     have hst:nr s s2:=by
      refine⟨e4w,rfl,⟨old,rfl,fun n hn hr=>?_,fun n hn=>?_,fun hf n hn=>?_⟩,fun n h1 h2=>unl n (st1.ul n h1 h2),fun hf=>st1.fr hf⟩
      ·refine w2 n (fun hl=>hn ?_) hr
       exact gq.2 ⟨by rw[w1];exact hl,hr⟩
      ·exact unl n (w3 n (by rw[←w1];exact (gq.1 hn).1))
      ·exact w4 hf n (by rw[←w1];exact (gq.1 hn).1)
     have hg2:∀n,mem lk n=false→s2.t.get n=sig nR (pre++[r]) g0 n:=by
      intro n hn
      rw[rm]
      simp only[sig,nR,true_and]
      by_cases TO:r.N n
      ·rw[if_pos ⟨rfl,TO⟩]
      ·rw[if_neg fun hh=>TO hh.2,←hg n hn]
       have hno:¬(s.nx≤n∧n<s1.nx):=fun hh=>TO (.inl hh)
       exact w2 n (fun hl=>TO (.inr (gq.2 ⟨by rw[w1];exact hl,hno⟩))) hno
     have fin:(old=[]∨ma mask ds=true)→(fV 3 v fun v=>sr N env o.dst (some v) fun env=>fL (old++s.wr) fun wr=>lh P N call ol dh is (⟨i,false,s.nx,s1.nx,old⟩::ds) ⟨s1.t,s1.nx,s.lk,wr⟩ env)=some (env',s')→∃rs:List Rec,rs.map (·.i)=i::is∧(∀a r b,rs=a++r::b→EV P N call ol dh lk g0 e0 (pre++a) r)∧(∀n,mem lk n=false→s'.t.get n=sig nR (pre++rs) g0 n)∧(∀x,env'.get x=jK nR (pre++rs) e0 x)∧(∀r∈rs,r.blind=false→s.nx≤r.lo∧r.hi≤s'.nx)∧nr s s':=by
      intro d2h h
      rw[m6]at h
      obtain⟨pY,h2,h3⟩:=mf hN h
      rw[mc]at h2
      refine next r s2 pY rfl rfl ⟨ho,hmk,⟨eu,heu,.inr ⟨rfl,s1,_,hone,rfl,rfl,rfl,An,hg,hf⟩⟩,?_,?_,fun _=>e4w⟩ hst hg2 (fun _=>⟨Nat.le_refl _,Nat.le_refl _⟩) h3 h2
      ·rcases h3 with ⟨h1,_⟩|⟨d',h1,h2,_⟩
       ·exact .inl h1
       ·exact .inr ⟨d',h1,h2⟩
      ·intro k hk _ EW
       refine⟨hlo k hk EW,fun ht=>?_⟩
       rcases d2h with hd|hd
       ·exact hd
       ·rcases oZ hd k.did ((hds _).2 ⟨k,hk,rfl⟩) with h1|h1
        ·have h1:Nat.testBit mask k.i=true:=h1
         have ht:Nat.testBit mask k.i=false:=ht
         rw[ht]at h1;cases h1
        ·have h1:k.blind=true:=h1
         rw[EW]at h1;cases h1
     split at h
     ·cases h
     ·rename_i hno
      refine fin ?_ h
      cases ho:old with
      |nil=>exact .inl rfl
      |cons x xs=>
       right
       cases hb:ma mask ds with
       |true=>rfl
       |false=>exact (hno x xs ho hb).elim
    ·cases h
  ·cases h
end
end Go.Sb
end
section
namespace Go.Sb
open Go
noncomputable section
def m9 (acc:List Nat):List Edge→Nat→Nat
 |[],m=>m
 |e::es,m=>m9 acc es (match Region.binds .any e with
  |true=>Nat.lor m (Nat.lor (Aj e.on) (match acc[e.on]? with
   |some x=>x
   |none=>0))
  |false=>m)
def Ao:List Oper→List Nat→List Nat
 |[],acc=>acc
 |o::os,acc=>Ao os (acc++[m9 acc o.after.toList 0])
theorem sy {α:Type}(acc:List Nat):∀(es:List Edge) (m:Nat) (k:Nat→α),sv acc es m k=k (m9 acc es m)
 |[],m,k=>by rw[sv,tB];rfl
 |e::es,m,k=>by
  unfold sv m9
  cases Region.binds .any e with
  |true=>simp only[tB];exact sy acc es _ k
  |false=>exact sy acc es m k
theorem mi {α:Type}:∀(os:List Oper) (acc:List Nat) (k:List Nat→α),wU os acc k=k (Ao os acc)
 |[],acc,k=>rfl
 |o::os,acc,k=>by rw[wU,sy,mc,mi os];rfl
theorem KL (a b j:Nat):Nat.testBit (Nat.lor a b) j=(Nat.testBit a j||Nat.testBit b j):=Nat.testBit_or a b j
theorem Ap (i j:Nat):Nat.testBit (Aj i) j=decide (i=j):=by
 show Nat.testBit (2 ^ i) j=_
 rw[Nat.testBit_two_pow]
theorem Aq (acc:List Nat)(j:Nat):∀(es:List Edge) (m:Nat),Nat.testBit (m9 acc es m) j=true↔Nat.testBit m j=true∨∃e∈es,Region.binds .any e=true∧(e.on=j∨∃x,acc[e.on]? =some x∧Nat.testBit x j=true)
 |[],m=>by simp[m9]
 |e::es,m=>by
  unfold m9
  rw[Aq acc j es]
  cases hb:Region.binds .any e with
  |false=>simp[hb]
  |true=>
   simp only[KL,Ap,Bool.or_eq_true,decide_eq_true_eq,List.mem_cons,exists_eq_or_imp,hb,true_and]
   cases ha:acc[e.on]? with
   |none=>
    simp only[Nat.zero_testBit,Bool.false_eq_true,or_false,reduceCtorEq,false_and,exists_false]
    constructor
    ·rintro ((h|h)|h)
     ·exact .inl h
     ·exact .inr (.inl h)
     ·exact .inr (.inr h)
    ·rintro (h|h|h)
     ·exact .inl (.inl h)
     ·exact .inl (.inr h)
     ·exact .inr h
   |some x=>
    simp only[Option.some.injEq]
    constructor
    ·rintro ((h|h|h)|h)
     ·exact .inl h
     ·exact .inr (.inl (.inl h))
     ·exact .inr (.inl (.inr ⟨x,rfl,h⟩))
     ·exact .inr (.inr h)
    ·rintro (h|(h|⟨y,rfl,h⟩)|h)
     ·exact .inl (.inl h)
     ·exact .inl (.inr (.inl h))
     ·exact .inl (.inr (.inr h))
     ·exact .inr h
theorem uE:∀(os:List Oper) (acc:List Nat),∃l,Ao os acc=acc++l∧l.length=os.length
 |[],acc=>⟨[],by simp[Ao],rfl⟩
 |o::os,acc=>by
  obtain⟨l,h1,h2⟩:=uE os (acc++[m9 acc o.after.toList 0])
  exact⟨m9 acc o.after.toList 0::l,by rw[Ao,h1];simp,by simp[h2]⟩
theorem Cd:∀(os:List Oper) (acc:List Nat) (i:Nat) (o:Oper),os[i]? =some o→∃m pre,(Ao os acc)[acc.length+i]? =some m∧m=m9 pre o.after.toList 0∧∀j x,pre[j]? =some x→j<acc.length+i∧(Ao os acc)[j]? =some x
 |[],acc,i,o,h=>by simp at h
 |o'::os,acc,0,o,h=>by
  simp only[List.getElem?_cons_zero,Option.some.injEq]at h
  subst h
  obtain⟨l,h1,h2⟩:=uE os (acc++[m9 acc o'.after.toList 0])
  refine⟨_,acc,?_,rfl,fun j x hj=>?_⟩
  ·rw[Ao,h1];simp
  ·have hlt:j<acc.length:=(List.getElem?_eq_some_iff.1 hj).1
   refine⟨by omega,?_⟩
   rw[Ao,h1,List.append_assoc,List.getElem?_append_left hlt,hj]
 |o'::os,acc,i+1,o,h=>by
  simp only[List.getElem?_cons_succ]at h
  obtain⟨m,pre,h1,h2,h3⟩:=Cd os (acc++[m9 acc o'.after.toList 0]) i o h
  refine⟨m,pre,?_,h2,fun j x hj=>?_⟩
  ·rw[Ao,←h1];congr 1;simp;omega
  ·obtain⟨h4,h5⟩:=h3 j x hj
   simp at h4
   exact⟨by omega,by rw[Ao];exact h5⟩
theorem xh {ol:List Oper}{D:Nat→Bool}(mC:∀i o,ol[i]? =some o→D i=true→∀e∈o.after.toList,Region.binds .any e=true→D e.on=true):
  ∀(i:Nat) (o:Oper) (m:Nat),ol[i]? =some o→(Ao ol [])[i]? =some m→(∀e∈o.after.toList,Region.binds .any e=true→D e.on=true)→∀j,Nat.testBit m j=true→D j=true:=by
 intro i
 induction i using Nat.strongRecOn with
 |ind i ih=>
  intro o m ho hm hp j hj
  obtain⟨m',pre,h1,h2,h3⟩:=Cd ol [] i o ho
  rw[List.length_nil,Nat.zero_add,hm]at h1
  cases h1
  rw[h2]at hj
  rcases (Aq pre j _ 0).1 hj with h|⟨e,he,hb,h|⟨x,hx,hxj⟩⟩
  ·simp at h
  ·rw[←h];exact hp e he hb
  ·obtain⟨h4,h5⟩:=h3 e.on x hx
   rw[List.length_nil,Nat.zero_add]at h4
   have hd:=hp e he hb
   have hlt:e.on<ol.length:=by
    have h6:=(List.getElem?_eq_some_iff.1 h5).1
    obtain⟨l,h7,h8⟩:=uE ol []
    rw[h7]at h6
    simpa[h8]using h6
   exact ih e.on h4 ol[e.on] x (List.getElem?_eq_getElem hlt) h5 (mC _ _ (List.getElem?_eq_getElem hlt) hd) j hxj
theorem pZ {i:Nat}:∀{es:List Edge},Ez i es=true→∀e∈es,Region.binds .any e=true→e.on<i
 |[],_=>by simp
 |e::es,h=>by
  intro x hx hb
  unfold Ez at h
  split at h
  ·rename_i hlt
   rcases List.mem_cons.1 hx with rfl|hx
   ·exact Nat.le_of_ble_eq_true hlt
   ·exact pZ h x hx hb
  ·rw[Bool.and_eq_true]at h
   rcases List.mem_cons.1 hx with rfl|hx
   ·rw[hb]at h;simp at h
   ·exact pZ h.2 x hx hb
theorem tF {d mask:Nat}:∀{os:List Oper} {k:Nat},pU d mask k os=true→∀j o,os[j]? =some o→o.dst=some d→Nat.testBit mask (k+j)=true
 |[],k,_=>by simp
 |o::os,k,h=>by
  intro j o' hj hd
  unfold pU at h
  cases j with
  |zero=>
   simp only[List.getElem?_cons_zero,Option.some.injEq]at hj
   subst hj
   rw[hd]at h
   simp only[Nat.beq_refl,Bool.and_eq_true]at h
   exact h.1
  |succ j=>
   simp only[List.getElem?_cons_succ]at hj
   have step:pU d mask (Nat.succ k) os=true:=by
    split at h
    ·exact h
    ·split at h
     ·exact h
     ·rw[Bool.and_eq_true]at h;exact h.2
   have:=tF step j o' hj hd
   rw[show k+(j+1)=Nat.succ k+j by omega];exact this
theorem tG:∀{os:List Oper} {ms:List Nat} {pre:List Oper} {i:Nat},BX pre i os ms=true→pre.length=i→∀j o m,os[j]? =some o→ms[j]? =some m→
  (∀e∈o.after.toList,Region.binds .any e=true→e.on<i+j)∧∀k o' d,k<i+j→(pre++os)[k]? =some o'→o.dst=some d→o'.dst=some d→Nat.testBit m k=true
 |[],ms,pre,i,_,_=>by simp
 |o::os,[],pre,i,h,_=>by simp
 |o::os,m::ms,pre,i,h,hl=>by
  unfold BX at h
  simp only[Bool.and_eq_true]at h
  obtain⟨⟨⟨_,h2⟩,h3⟩,h4⟩:=h
  intro j o1 m1 ho hm
  cases j with
  |zero=>
   simp only[List.getElem?_cons_zero,Option.some.injEq]at ho hm
   subst ho hm
   refine⟨pZ h2,fun k o' d hk AP hd Uf=>?_⟩
   rw[hd]at h3
   simp only at h3
   rw[Nat.add_zero]at hk
   rw[List.getElem?_append_left (by omega)]at AP
   have:=tF h3 k o' AP Uf
   rw[Nat.zero_add]at this;exact this
  |succ j=>
   simp only[List.getElem?_cons_succ]at ho hm
   have:=tG h4 (by simp[hl]) j o1 m1 ho hm
   rw[show i+(j+1)=Nat.succ i+j by omega]
   refine⟨this.1,fun k o' d hk AP=>this.2 k o' d hk ?_⟩
   rw[List.append_assoc];exact AP
theorem Ar {n:Nat}{dh:List Nat}:∀{ord:List Nat} {seen:Nat} {done:List Nat},a6F n dh seen ord=true→(∀j,Nat.testBit seen j=true↔j∈done)→
  (∀i,i<n→i∈done∨i∈ord)∧(∀a i b,ord=a++i::b→i<n∧i∉done∧i∉a∧∀m,dh[i]? =some m→∀j,Nat.testBit m j=true→j∈done∨j∈a)
 |[],seen,done,h,hs=>by
  simp only[a6F]at h
  have h:=Nat.eq_of_beq_eq_true h
  refine⟨fun i hi=>.inl ((hs i).1 ?_),fun a i b hh=>by simp at hh⟩
  rw[h]
  show Nat.testBit (2 ^ n-1) i=true
  rw[Nat.testBit_two_pow_sub_one];simpa using hi
 |i::is,seen,done,h,hs=>by
  simp only[a6F,Bool.and_eq_true,Bool.not_eq_true',tB]at h
  obtain⟨⟨⟨h1,h2⟩,h3⟩,h4⟩:=h
  have h1:i<n:=Nat.le_of_ble_eq_true h1
  have CW:∀j,Nat.testBit (Nat.lor seen (Aj i)) j=true↔j∈done++[i]:=by
   intro j
   rw[KL,Ap]
   simp only[Bool.or_eq_true,decide_eq_true_eq,hs,List.mem_append,List.mem_singleton]
   constructor
   ·rintro (h|h)
    ·exact .inl h
    ·exact .inr h.symm
   ·rintro (h|h)
    ·exact .inl h
    ·exact .inr h.symm
  obtain⟨k1,k2⟩:=Ar h4 CW
  refine⟨fun j hj=>?_,fun a j b hab=>?_⟩
  ·rcases k1 j hj with h|h
   ·rcases List.mem_append.1 h with h|h
    ·exact .inl h
    ·exact .inr (by rw[List.mem_singleton.1 h];exact List.mem_cons_self)
   ·exact .inr (List.mem_cons_of_mem _ h)
  ·cases a with
   |nil=>
    simp only[List.nil_append,List.cons.injEq]at hab
    obtain⟨rfl,rfl⟩:=hab
    refine⟨h1,fun hd=>?_,by simp,fun m hm j hj=>?_⟩
    ·rw[(hs i).2 hd]at h2;cases h2
    ·rw[hm]at h3
     simp only at h3
     have h3:=Nat.eq_of_beq_eq_true h3
     left
     rw[←hs]
     rw[←h3]at hj
     have:Nat.testBit (m&&& seen) j=true:=hj
     rw[Nat.testBit_and,Bool.and_eq_true]at this
     exact this.2
   |cons x a=>
    simp only[List.cons_append,List.cons.injEq]at hab
    obtain⟨rfl,hab⟩:=hab
    obtain⟨k3,k4,k5,k6⟩:=k2 a j b hab
    simp only[List.mem_append,List.mem_singleton,not_or]at k4
    refine⟨k3,k4.1,by simp only[List.mem_cons,not_or];exact⟨k4.2,k5⟩,fun m hm q hq=>?_⟩
    rcases k6 m hm q hq with h|h
    ·rcases List.mem_append.1 h with h|h
     ·exact .inl h
     ·exact .inr (by rw[List.mem_singleton.1 h];exact List.mem_cons_self)
    ·exact .inr (List.mem_cons_of_mem _ h)
end
end Go.Sb
end
section
namespace Go.Sb
open Go
noncomputable section
section draw
variable {P:Program}{N:Nat}{call:FuncId→List Value→St→fq}{ops:Array Oper}{s s':St}{env:eH}{rs:List Rec}{p:Nat→Prop}{ρ0:Rn}{a0:Act}{w0:World}
def pD (p:Nat→Prop)(rs:List Rec)(D:Nat→Bool)(n:Nat):Prop:=p n∨∃r∈rs,D r.i=true∧r.blind=false∧r.lo≤n∧n<r.hi
structure Trace (P:Program) (N:Nat) (call:FuncId→List Value→St→fq) (ops:Array Oper) (s s':St) (env:eH) (rs:List Rec):Prop where
 run:∀a r b,rs=a++r::b→EV P N call ops.toList (Ao ops.toList []) s.lk s.get (fun x=>env.get x) a r
 rng:∀r∈rs,r.blind=false→s.nx≤r.lo∧r.hi≤s'.nx
 ord:∀a r b,rs=a++r::b→r.i<ops.size∧(∀k∈a,k.i≠r.i)∧∀j,Nat.testBit r.mask j=true→∃k∈a,k.i=j
 all:∀i,i<ops.size→∃r∈rs,r.i=i
 apart:∀i j o o' m d,ops.toList[i]? =some o→ops.toList[j]? =some o'→j<i→(Ao ops.toList [])[i]? =some m→o.dst=some d→o'.dst=some d→Nat.testBit m j=true
def a6U (ops:Array Oper)(D:Nat→Bool):Prop:=∀i o,ops.toList[i]? =some o→D i=true→∀e∈o.after.toList,Region.binds .any e=true→D e.on=true
structure Inv (N:Nat) (s s':St) (env:eH) (rs:List Rec) (p:Nat→Prop) (ρ0:Rn) (a0:Act) (w0:World) (D:Nat→Bool) (ρ:Rn) (a:Act) (w:World):Prop where
 kept:Kept w0 w
 mat:lp ρ (pD p rs D) (sig D rs s.get) w.heap
 lat:m7 ρ0 p s.get w0.heap s.nx s'.nx ρ (sig D rs s.get) w.heap
 size:a.tmps.size=a0.tmps.size
 defers:a.defers=[]
 env:∀x v,jK D rs (fun x=>env.get x) x=some v→a.tmps[x]? =some (bk ρ v)
 sup:∀r∈rs,D r.i=true→dI (pD p rs D) r.v
theorem EX (D:Nat→Bool)(r:Rec)(rs:List Rec)(g:Nat→Option Bl):sig D (r::rs) g=sig D rs fun n=>if D r.i=true∧r.blind=false∧r.N n then r.ta.get n else g n:=rfl
theorem ru {D:Nat→Bool}{x:Nat}{v:Value}:∀{rs:List Rec} {e:Nat→Option Value},jK D rs e x=some v→e x=some v∨∃k∈rs,D k.i=true∧k.v=v
 |[],e,h=>.inl h
 |r::rs,e,h=>by
  unfold jK at h
  rcases ru h with h|⟨k,h1,h2⟩
  ·split at h
   ·rename_i hc;cases h;exact .inr ⟨r,by simp,hc.1,rfl⟩
   ·exact .inl h
  ·exact .inr ⟨k,by simp[h1],h2⟩
theorem mj {r:Rec}(h:r∈rs):∃a b,rs=a++r::b:=List.append_of_mem h
theorem Td (hcall:cT P call)(T:Trace P N call ops s s' env rs)(ri:∀n,s.nx≤n→n<s'.nx→¬p n)(he0:ia p env)(hN:N≤a0.tmps.size){D D':Nat→Bool}{ρ:Rn}{a:Act}{w:World}(hI:Inv N s s' env rs p ρ0 a0 w0 D ρ a w)(mC:a6U ops D)
  {r:Rec} (hr:r∈rs) (hDr:D r.i=false) (hpre:∀e∈r.o.after.toList,Region.binds .any e=true→D e.on=true) (hD':∀j,D' j=(D j||decide (j=r.i))) (next:Act→World→Prop) (Qx:Exit→Act→World→Prop)
  (hn:∀ρ' a' w',Inv N s s' env rs p ρ0 a0 w0 D' ρ' a' w'→next a' w'):wpOp P ops Qx r.i next a w:=by
 obtain⟨pre,post,hsp⟩:=mj hr
 have R:=T.run _ _ _ hsp
 have b6N:=T.ord _ _ _ hsp
 have hoi:ops[r.i]? =some r.o:=by rw[←Array.getElem?_toList];exact R.ho
 have b6O:∀j,Nat.testBit r.mask j=true→D j=true:=xh mC r.i r.o r.mask R.ho R.hmk hpre
 have d2i:∀k∈rs,D k.i=true→Nat.testBit k.mask r.i=false:=by
  intro k hk tH
  obtain⟨ka,kb,hks⟩:=mj hk
  have RK:=T.run _ _ _ hks
  cases ht:Nat.testBit k.mask r.i with
  |false=>rfl
  |true=>
   have:=xh mC k.i k.o k.mask RK.ho RK.hmk (mC k.i k.o RK.ho tH) r.i ht
   rw[hDr]at this;cases this
 have e4x:∀k∈pre,k∈rs:=fun k hk=>by rw[hsp];simp[hk]
 have xj:∀k∈post,k∈rs:=fun k hk=>by rw[hsp];simp[hk]
 have a6V:∀k∈pre,k.i≠r.i:=b6N.2.1
 have IA:∀k∈post,∃ka kb,rs=ka++k::kb∧r∈ka∧(∀q∈pre,q∈ka):=by
  intro k hk
  obtain⟨x,y,hxy⟩:=List.append_of_mem hk
  exact⟨pre++r::x,y,by rw[hsp,hxy];simp,by simp,fun q hq=>by simp[hq]⟩
 have xk:∀k∈post,k.i≠r.i:=by
  intro k hk
  obtain⟨ka,kb,h1,h2,_⟩:=IA k hk
  exact fun h=>(T.ord _ _ _ h1).2.1 r h2 h.symm
 have EY:∀k∈post,Nat.testBit r.mask k.i=false:=by
  intro k hk
  cases ht:Nat.testBit r.mask k.i with
  |false=>rfl
  |true=>
   obtain⟨q,hq,hqi⟩:=b6N.2.2 k.i ht
   obtain⟨ka,kb,h1,_,h3⟩:=IA k hk
   exact absurd hqi ((T.ord _ _ _ h1).2.1 q (h3 q hq))
 have b4K:∀k∈pre,Nat.testBit k.mask r.i=false:=by
  intro k hk
  cases ht:Nat.testBit k.mask r.i with
  |false=>rfl
  |true=>
   obtain⟨x,y,hxy⟩:=List.append_of_mem hk
   have hks:rs=x++k::(y++r::post):=by rw[hsp,hxy];simp
   obtain⟨q,hq,hqi⟩:=(T.ord _ _ _ hks).2.2 r.i ht
   exact absurd hqi (a6V q (by rw[hxy];simp[hq]))
 have Te:∀k∈rs,k.i≠r.i→Nat.testBit r.mask k.i=false→Nat.testBit k.mask r.i=false→∀d,r.o.dst=some d→k.o.dst=some d→False:=by
  intro k hk hne h1 h2 d hd K2
  obtain⟨ka,kb,hks⟩:=mj hk
  have RK:=T.run _ _ _ hks
  rcases Nat.lt_or_gt_of_ne hne with h|h
  ·have:=T.apart r.i k.i _ _ r.mask d R.ho RK.ho h R.hmk hd K2
   rw[h1]at this;cases this
  ·have:=T.apart k.i r.i _ _ k.mask d RK.ho R.ho h RK.hmk K2 hd
   rw[h2]at this;cases this
 have a6W:r.blind=false→∀k∈post,D k.i=true→k.blind=false→∀n,n<r.hi→¬k.N n:=by
  intro hb k hk tH EW n hn hNk
  obtain⟨ka,kb,h1,h2,_⟩:=IA k hk
  obtain⟨h3,h4⟩:=(T.run _ _ _ h1).pair r h2 EW hb
  have h5:=h4 (d2i k (xj k hk) tH)
  rcases hNk with h6|h6
  ·omega
  ·rw[h5]at h6;cases h6
 obtain⟨eu,heu,hrun⟩:=R.run
 have euD:∀x v,eu.get x=some v→jK D rs (fun x=>env.get x) x=some v:=by
  intro x v hx
  obtain⟨h1,h2⟩:=heu x v hx
  have hun:∀k∈rs,k.i≠r.i→Nat.testBit r.mask k.i=false→Nat.testBit k.mask r.i=false→¬iH k.o x:=by
   intro k hk hne h3 h4
   obtain⟨ka,kb,hks⟩:=mj hk
   have RK:=T.run _ _ _ hks
   exact h2 k.i k.o k.mask RK.ho RK.hmk h3 h4 hne
  rw[hsp,rn]
  unfold jK
  rw[oE,if_neg (by rw[hDr];simp),←h1]
  ·refine mR rfl fun k hk hd=>?_
   cases tH:D k.i with
   |true=>rfl
   |false=>
    refine (hun k (e4x k hk) (a6V k hk) ?_ (b4K k hk) hd).elim
    cases ht:Nat.testBit r.mask k.i with
    |false=>rfl
    |true=>rw[b6O _ ht]at tH;cases tH
  ·exact fun k hk tH=>hun k (xj k hk) (xk k hk) (EY k hk) (d2i k (xj k hk) tH)
 have e4y:kE ρ eu a:=⟨fun x v hx=>hI.env x v (euD x v hx),hI.defers⟩
 have b6P:ia (pD p rs D) eu:=by
  intro x v hx
  rcases ru (euD x v hx) with h|⟨k,h1,h2,h3⟩
  ·exact (he0 x v h).mono fun _=>.inl
  ·rw[←h3];exact hI.sup k h1 h2
 have hDD:∀j,D j=true→D' j=true:=fun j hj=>by rw[hD',hj];rfl
 have Tf:∀j,j≠r.i→D' j=D j:=fun j hj=>by rw[hD'];simp[hj]
 have IB:D' r.i=true:=by rw[hD'];simp
 have a6X:∀n,pD p rs D n→pD p rs D' n:=by
  rintro n (h|⟨k,h1,h2,h3⟩)
  ·exact .inl h
  ·exact .inr ⟨k,h1,hDD _ h2,h3⟩
 have uniq:∀k∈rs,k.i=r.i→k=r:=by
  intro k hk AS
  rw[hsp]at hk
  rcases List.mem_append.1 hk with hk|hk
  ·exact absurd AS (a6V k hk)
  ·rcases List.mem_cons.1 hk with hk|hk
   ·exact hk
   ·exact absurd AS (xk k hk)
 have fin:∀lo hi ρ' w',Kept w w'→m7 ρ (pD p rs D) (sig D rs s.get) w.heap lo hi ρ' (sig D' rs s.get) w'.heap→(∀n,lo≤n→n<hi→r.blind=false∧r.lo≤n∧n<r.hi)→(∀n,lo≤n→n<hi→¬pD p rs D n)→(∀n,lo≤n→n<hi→s.nx≤n∧n<s'.nx)→dI (pn (pD p rs D) lo hi) r.v→next (a.put r.o.dst (bk ρ' r.v)) w':=by
  intro lo hi ρ' w' hk L hbl b4L hin sw
  have hag:B0 (pD p rs D) ρ ρ':=L.e4u b4L
  have a6Y:∀n,pn (pD p rs D) lo hi n→pD p rs D' n:=by
   rintro n (h|h)
   ·exact a6X n h
   ·exact .inr ⟨r,hr,IB,hbl n h.1 h.2⟩
  refine hn ρ' _ w' ⟨hI.kept.trans hk,L.mat.mono a6Y,?_,by rw[nw,hI.size],by rw[put_defers,hI.defers],?_,?_⟩
  ·refine⟨L.mat.mono ?_,fun n hn=>?_,Nat.le_trans hI.lat.size L.size,fun c hc hno=>?_,fun n c hn=>?_⟩
   ·rintro n (h|h)
    ·rcases h with h|⟨k,h1,h2,h3,h4⟩
     ·exact .inl h
     ·have:=T.rng k h1 h3
      exact .inr ⟨by omega,by omega⟩
    ·exact .inr (hin n h.1 h.2)
   ·obtain⟨x1,x2⟩:=hI.lat.wZ n hn
    obtain⟨y1,y2⟩:=L.wZ n fun hh=>hn (hin n hh.1 hh.2)
    exact⟨y1.trans x1,y2.trans x2⟩
   ·rw[L.fr c (Nat.lt_of_lt_of_le hc hI.lat.size) ?_,hI.lat.fr c hc hno]
    intro n d hnd hed
    rcases hI.lat.own n d hnd with ⟨m,e,hm,hme⟩|hge
    ·exact hno m e hm (hme.trans hed)
    ·omega
   ·rcases L.own n c hn with ⟨m,d,hm,hme⟩|hge
    ·rcases hI.lat.own m d hm with ⟨m',d',TM,Ip⟩|a6I
     ·exact .inl ⟨m',d',TM,Ip.trans hme⟩
     ·exact .inr (by rw[←hme];exact a6I)
    ·exact .inr (Nat.le_trans hI.lat.size hge)
  ·intro x v hx
   rw[gB]
   by_cases hd:iH r.o x
   ·
    have hv:v=r.v:=by
     rw[hsp,rn]at hx
     unfold jK at hx
     rw[oE,if_pos ⟨IB,hd⟩]at hx
     ·exact (Option.some.inj hx).symm
     ·intro k hk tH hdk
      rw[Tf _ (xk k hk)]at tH
      exact Te k (xj k hk) (xk k hk) (EY k hk) (d2i k (xj k hk) tH) x hd hdk
    subst hv
    have hd:r.o.dst=some x:=hd
    rcases R.put with h|⟨d,h1,h2⟩
    ·rw[h]at hd;cases hd
    ·rw[h1]at hd
     cases hd
     rw[if_pos ⟨h1,by rw[hI.size];exact Nat.lt_of_lt_of_le h2 hN⟩]
   ·have hx2:jK D rs (fun x=>env.get x) x=some v:=by
     rw[←hx]
     refine (mR rfl fun k hk hdk=>?_)
     rw[Tf]
     intro AS
     obtain⟨ka,kb,hks⟩:=mj hk
     have RK:=T.run _ _ _ hks
     have h1:=RK.ho
     rw[AS,R.ho]at h1
     have h2:=Option.some.inj h1
     rw[←h2]at hdk
     exact hd hdk
    rw[if_neg fun hc=>hd hc.1,hI.env x v hx2]
    congr 1
    rcases ru hx2 with h|⟨k,h1,h2,h3⟩
    ·exact (((he0 x v h).mono fun _=>.inl) ρ ρ' hag).symm
    ·rw[←h3];exact (hI.sup k h1 h2 ρ ρ' hag).symm
  ·intro k hk tH
   by_cases AS:k.i=r.i
   ·rw[uniq k hk AS];exact sw.mono a6Y
   ·rw[Tf _ AS]at tH
    exact (hI.sup k hk tH).mono a6X
 rcases hrun with ⟨hb,s1,hone,hs1⟩|⟨hb,s1,TN,hone,hta,Tw,hold,rH,Ue,hfr⟩
 ·
  have hg0:(⟨.lf,0,[],[]⟩:St).get=fun _=>none:=by funext n;rfl
  have hm0:lp ρ (pD p rs D) (⟨.lf,0,[],[]⟩:St).get w.heap:=by
   rw[hg0]
   exact { ok:=fun n b h=>(by cases h),inj:=fun n m b c h _ _=>(by cases h),sup:=fun n b h=>(by cases h)}
  have st:=kH (fun f args s v s' hh=>(hcall f args s v s' hh).1) hone
  have f2E:s1.get=fun _=>none:=by
   funext n
   obtain⟨l,h1,h2,h3,h4⟩:=st.wr
   have hnl:n∉l:=fun hl=>by
    have:=h4 (fun _ _=>rfl) n hl
    rw[hs1]at this;omega
   have:s1.t.get n=none:=h2 n hnl (by simp only[hs1];omega)
   unfold St.get
   rw[this];split<;>rfl
  refine Cc hcall (fun n _=>rfl) hm0 b6P e4y hoi (fun n _ h=>by rw[hs1]at h;omega) hone next Qx ?_
  rintro u w' hk ⟨ρ',rfl,L,sw⟩
  have d2j:sig D' rs s.get=sig D rs s.get:=by
   funext n
   refine mh rfl fun k hk EW _=>?_
   rw[Tf]
   intro AS
   rw[uniq k hk AS,hb]at EW;cases EW
  rw[hg0,f2E,hs1]at L
  rw[hs1]at sw
  refine fin 0 0 ρ' w' hk ?_ (fun n _ h=>by omega) (fun n _ h=>by omega) (fun n _ h=>by omega) sw
  rw[d2j]
  exact L.frame hI.mat (fun n h=>h) (fun n _ h=>by omega) (fun n b h=>(by cases h)) (fun _=>False) (fun n h=>h.elim) (fun n _=>⟨rfl,rfl⟩)
 ·
  have st:=kH (fun f args s v s' hh=>(hcall f args s v s' hh).1) hone
  obtain⟨l,w1,w2,w3,w4⟩:=st.wr
  simp only[List.append_nil]at w1
  have f2F:∀n,mem TN n=false→mem s.lk n=false:=by
   intro n hn
   cases hm:mem s.lk n with
   |false=>rfl
   |true=>rw[(rH n).2 (.inl hm)]at hn;cases hn
  have e4z:∀n,r.N n→mem TN n=false:=by
   rintro n (h|h)
   ·exact st.ul n h.1 (by rw[←Tw];exact h.2)
   ·rw[hold]at h
    exact w3 n (by rw[←w1];exact (gq.1 h).1)
  have f2G:∀n,r.N n→n<r.hi:=by
   rintro n (h|h)
   ·exact h.2
   ·rw[hold]at h
    rw[Tw];exact w4 hfr n (by rw[←w1];exact (gq.1 h).1)
  have f3L:=T.rng r hr hb
  have lC:∀n b,(⟨r.tb,r.lo,TN,[]⟩:St).get n=some b→sig D rs s.get n=some b:=by
   intro n b h
   have hul:=m8 h
   rw[gP hul]at h
   have hul:mem TN n=false:=hul
   have h:r.tb.get n=some b:=h
   have hlt:n<r.lo:=by
    rcases Nat.lt_or_ge n r.lo with h'|h'
    ·exact h'
    ·rw[hfr n h']at h;cases h
   rw[←h,Ue n (f2F n hul)]
   rw[hsp,rm,EX,nQ,if_neg (by rw[hDr];simp)]
   ·refine mh rfl fun k hk EW hkn=>?_
    cases tH:D k.i with
    |true=>rfl
    |false=>
     have ht:Nat.testBit r.mask k.i=false:=by
      cases ht:Nat.testBit r.mask k.i with
      |false=>rfl
      |true=>rw[b6O _ ht]at tH;cases tH
     rw[(rH n).2 (.inr ⟨k,hk,ht,EW,hkn⟩)]at hul;cases hul
   ·intro k hk tH EW
    exact a6W hb k hk tH EW n (Nat.lt_of_lt_of_le hlt (R.le hb))
  have hm1:lp ρ (pD p rs D) (⟨r.tb,r.lo,TN,[]⟩:St).get w.heap:=
   { ok:=fun n b h=>hI.mat.ok n b (lC n b h),inj:=fun n m b c h1 h2=>hI.mat.inj n m b c (lC n b h1) (lC m c h2),sup:=fun n b h=>hI.mat.sup n b (lC n b h)}
  have hpN:∀n,r.lo≤n→n<r.hi→¬pD p rs D n:=by
   rintro n h1 h2 (h|⟨k,hk,tH,EW,h3,h4⟩)
   ·exact ri n (by omega) (by omega) h
   ·rw[hsp]at hk
    rcases List.mem_append.1 hk with hk|hk
    ·have:=(R.pair k hk hb EW).1;omega
    ·rcases List.mem_cons.1 hk with hk|hk
     ·rw[hk,hDr]at tH;cases tH
     ·exact a6W hb k hk tH EW n h2 (.inl ⟨h3,h4⟩)
  refine Cc hcall (s:=⟨r.tb,r.lo,TN,[]⟩) hfr hm1 b6P e4y hoi (fun n h1 h2=>hpN n h1 (by rw[Tw];exact h2)) hone next Qx ?_
  rintro u w' hk ⟨ρ',rfl,L,sw⟩
  rw[←Tw]at L sw
  refine fin r.lo r.hi ρ' w' hk ?_ (fun n h1 h2=>⟨hb,h1,h2⟩) hpN (fun n h1 h2=>by omega) sw
  have b6Q:s1.lk=TN:=st.lk
  refine L.frame hI.mat (fun n h=>h) hpN lC r.N (fun n TO=>?_) (fun n TO=>⟨?_,?_⟩)
  ·
   have e1:sig D' rs s.get n=r.ta.get n:=by
    rw[hsp,rm,EX,nQ,if_pos ⟨IB,hb,TO⟩]
    intro k hk tH EW
    rw[Tf _ (xk k hk)]at tH
    exact a6W hb k hk tH EW n (f2G n TO)
   rw[e1,hta]
   unfold St.get
   rw[b6Q,e4z n TO]
  ·refine mh rfl fun k hk EW hkn=>?_
   rw[Tf]
   intro AS
   rw[uniq k hk AS]at hkn
   exact TO hkn
  ·unfold St.get
   rw[b6Q]
   have hno:¬(r.lo≤n∧n<s1.nx):=fun hh=>TO (.inl (by rw[Tw];exact hh))
   have:s1.t.get n=r.tb.get n:=w2 n (fun hl=>TO (.inr (by rw[hold,Tw];exact gq.2 ⟨by rw[w1];exact hl,hno⟩))) hno
   rw[this]
end draw
end
end Go.Sb
end
section
namespace Go.Sb
open Go
noncomputable section
theorem filter_lt {α:Type}{P Q:α→Bool}(hPQ:∀x,Q x=true→P x=true){i:α}(hP:P i=true)(hQ:Q i=false):∀{l:List α},i∈l→(l.filter Q).length<(l.filter P).length
 |[],h=>by cases h
 |x::xs,h=>by
  have hle:∀l:List α,(l.filter Q).length≤(l.filter P).length:=by
   intro l
   induction l with
   |nil=>simp
   |cons y ys ih=>
    simp only[List.filter_cons]
    cases hq:Q y with
    |true=>rw[hPQ y hq];simpa using ih
    |false=>cases P y<;>simp<;>omega
  simp only[List.filter_cons]
  rcases List.mem_cons.1 h with rfl|h
  ·rw[hP,hQ]
   simp only[Bool.false_eq_true,if_false,if_true,List.length_cons]
   have:=hle xs;omega
  ·have ih:=filter_lt hPQ hP hQ h
   cases hq:Q x with
   |true=>rw[hPQ x hq];simpa using ih
   |false=>cases P x<;>simp<;>omega
section draw
variable {P:Program}{N:Nat}{call:FuncId→List Value→St→fq}{ops:Array Oper}{s s':St}{env env':eH}{rs:List Rec}{p:Nat→Prop}{ρ0:Rn}{a0:Act}{w0:World}
theorem IC (T:∀i o,ops.toList[i]? =some o→∀e∈o.after.toList,Region.binds .any e=true→e.on<i){listed:Array Bool}(hsz:listed.size=ops.size)(hr:Region.ready .any ops listed=[]):∀i,i<ops.size→listed.getD i false=true:=by
 intro i
 induction i using Nat.strongRecOn with
 |ind i ih=>
  intro hi
  cases hl:listed.getD i false with
  |true=>rfl
  |false=>
   have:i∈Region.ready .any ops listed:=by
    rw[mem_ready]
    refine⟨?_,ops[i],by simp[hi],fun e he hb=>?_⟩
    ·have hi':i<listed.size:=by omega
     simp[hi']at hl ⊢;exact hl
    ·have hlt:=T i ops[i] (by simp[hi]) e (by simpa using he) hb
     exact ih e.on hlt (by omega)
   rw[hr]at this;cases this
theorem EZ (hcall:cT P call)(T:Trace P N call ops s s' env rs)(tj:∀i o,ops.toList[i]? =some o→∀e∈o.after.toList,Region.binds .any e=true→e.on<i)(ri:∀n,s.nx≤n→n<s'.nx→¬p n)(he0:ia p env)(hN:N≤a0.tmps.size){Q:Exit→Act→World→Prop}
  (hQ:∀D ρ a w,(∀i,i<ops.size→D i=true)→Inv N s s' env rs p ρ0 a0 w0 D ρ a w→Q .normal a w):∀(fuel:Nat) (listed:Array Bool) (ρ:Rn) (a:Act) (w:World),listed.size=ops.size→Inv N s s' env rs p ρ0 a0 w0 (fun i=>listed.getD i false) ρ a w→a6U ops (fun i=>listed.getD i false)→
   ((List.range ops.size).filter fun i=> !listed.getD i false).length≤fuel→wpAny P .any ops Q fuel listed a w
 |0,listed,ρ,a,w,hsz,hI,mC,hc=>by
  have hall:∀i,i<ops.size→listed.getD i false=true:=by
   intro i hi
   have h0:((List.range ops.size).filter fun i=> !listed.getD i false)=[]:=List.length_eq_zero_iff.1 (by omega)
   have:=List.filter_eq_nil_iff.1 h0 i (List.mem_range.2 hi)
   simpa using this
  refine⟨?_,hQ _ ρ a w hall hI⟩
  cases hr:Region.ready .any ops listed with
  |nil=>rfl
  |cons i is=>
   have:i∈Region.ready .any ops listed:=by rw[hr];simp
   obtain⟨h1,o,ho,_⟩:=mem_ready.1 this
   have hi:i<ops.size:=(Array.getElem?_eq_some_iff.1 ho).1
   have h2:=hall i hi
   have hi':i<listed.size:=by omega
   simp[hi']at h1 h2
   rw[h1]at h2;cases h2
 |fuel+1,listed,ρ,a,w,hsz,hI,mC,hc=>by
  refine⟨fun hr=>hQ _ ρ a w (IC tj hsz hr) hI,fun i hi=>?_⟩
  obtain⟨h1,o,ho,hpre⟩:=mem_ready.1 hi
  have Uj:i<ops.size:=(Array.getElem?_eq_some_iff.1 ho).1
  have hi':i<listed.size:=by omega
  obtain⟨r,hr,hri⟩:=T.all i Uj
  subst hri
  obtain⟨pa,pb,hsp⟩:=List.append_of_mem hr
  have R:=T.run _ _ _ hsp
  have hro:r.o=o:=by
   have h2:=R.ho
   rw[Array.getElem?_toList,ho]at h2
   exact (Option.some.inj h2).symm
  have hDr:listed.getD r.i false=false:=by
   simp[hi']at h1 ⊢;exact h1
  have hD':∀j,(listed.setIfInBounds r.i true).getD j false=(listed.getD j false||decide (j=r.i)):=by
   intro j
   by_cases hj:j=r.i
   ·subst hj;simp[hi']
   ·rw[getD_set_ne false (Ne.symm hj)];simp[hj]
  refine Td hcall T ri he0 hN hI mC hr hDr (by rw[hro];intro e he hb;exact hpre e (by simpa using he) hb) hD' _ Q ?_
  intro ρ' a' w' hI'
  refine EZ hcall T tj ri he0 hN hQ fuel _ ρ' a' w' (by simp[hsz]) hI' ?_ ?_
  ·intro j oj FO hDj e he hb
   simp only[hD',Bool.or_eq_true]at hDj ⊢
   rcases hDj with hDj|hDj
   ·exact .inl (mC j oj FO hDj e he hb)
   ·have hj:j=r.i:=by simpa using hDj
    subst hj
    rw[Array.getElem?_toList,ho]at FO
    cases FO
    exact .inl (hpre e (by simpa using he) hb)
  ·have:=filter_lt (P:=fun i=> !listed.getD i false) (Q:=fun i=> !(listed.setIfInBounds r.i true).getD i false) (i:=r.i) (fun x hx=>by
     rw[hD']at hx
     simp at hx ⊢
     exact hx.1) (by rw[hDr];rfl) (by rw[hD'];simp) (List.mem_range.2 Uj)
   omega
theorem xl (hcall:cT P call)(hN:N≤1000000){ord:List Nat}(hok:wV ops.toList (Ao ops.toList []) ord=true){ρ:Rn}{a:Act}{w:World}(hf:lv s)(hm:lp ρ p s.get w.heap)(he:ia p env)(ha:kE ρ env a)(hNa:a.tmps.size=N)
  (h:lh P N call ops.toList (Ao ops.toList []) ord [] s env=some (env',s')) (hp:∀n,s.nx≤n→n<s'.nx→¬p n) {R:Act→World→Prop}
  (K:∀ρ' a' w',Kept w w'→m7 ρ p s.get w.heap s.nx s'.nx ρ' s'.get w'.heap→ia (pn p s.nx s'.nx) env'→kE ρ' env' a'→a'.tmps.size=a.tmps.size→R a' w'):wpAny P .any ops (fun e a w=>e= .normal∧R a w) ops.size (Array.replicate ops.size false) a { w with drawn:=w.drawn+1}:=by
 have e4A:∀f args s v s',call f args s=some (v,s')→nr s s':=fun f args s v s' hh=>(hcall f args s v s' hh).1
 have hlen:ops.toList.length≤(Ao ops.toList []).length:=by
  obtain⟨l,h1,h2⟩:=uE ops.toList []
  rw[h1];simp[h2]
 obtain⟨rs,t1,t2,t3,t4,t5,t6⟩:=tE (g0:=s.get) (e0:=fun x=>env.get x) e4A hN hlen ord [] s env [] env' s' (by simp) rfl (fun n hn=>(gP hn).symm) hf (fun _=>rfl) (fun x v hx=>by
  have:=ha.lt hx;omega) (by simp) h
 unfold wV at hok
 rw[Bool.and_eq_true]at hok
 have hap:=tG hok.1 rfl
 have hor:=Ar (done:=[]) hok.2 (by simp)
 have hmk:∀(i:Nat) (o:Oper),ops.toList[i]? =some o→∃m,(Ao ops.toList [])[i]? =some m:=fun i o ho=>by
  obtain⟨m,_,h1,_⟩:=Cd ops.toList [] i o ho
  rw[List.length_nil,Nat.zero_add]at h1
  exact⟨m,h1⟩
 have T:Trace P N call ops s s' env rs:=by
  refine⟨fun a r b hab=>by simpa using t2 a r b hab,t5,fun a r b hab=>?_,fun i hi=>?_,fun i j o o' m d ho AP hj hm hd Uf=>?_⟩
  ·have e1:ord=a.map (·.i)++r.i::b.map (·.i):=by rw[←t1,hab];simp
   obtain⟨h1,_,h3,h4⟩:=hor.2 _ _ _ e1
   refine⟨by simpa using h1,fun k hk AS=>h3 (by rw[←AS];exact List.mem_map_of_mem hk),fun j hj=>?_⟩
   have hmr:=(t2 a r b hab).hmk
   rcases h4 r.mask hmr j hj with h5|h5
   ·cases h5
   ·obtain⟨k,hk,AS⟩:=List.mem_map.1 h5
    exact⟨k,hk,AS⟩
  ·rcases hor.1 i (by simpa using hi) with h1|h1
   ·cases h1
   ·rw[←t1]at h1
    obtain⟨k,hk,AS⟩:=List.mem_map.1 h1
    exact⟨k,hk,AS⟩
  ·exact (hap i o m ho hm).2 j o' d (by omega) (by simpa using AP) hd Uf
 have tj:∀i o,ops.toList[i]? =some o→∀e∈o.after.toList,Region.binds .any e=true→e.on<i:=by
  intro i o ho e he hb
  obtain⟨m,hm⟩:=hmk i o ho
  have:=(hap i o m ho hm).1 e he hb
  omega
 have hD0:(fun i=>(Array.replicate ops.size false).getD i false)=fun _=>false:=by
  funext i
  by_cases hi:i<ops.size<;>simp[hi]
 have e4B:sig (fun _=>false) rs s.get=s.get:=by
  funext n;exact nQ fun r _ hD=>by cases hD
 refine EZ (s':=s') (a0:=a) (w0:=w) (ρ0:=ρ) (p:=p) hcall T tj hp he (by omega) ?_ ops.size _ ρ a _ (by simp) ?_ ?_ ?_
 ·
  intro D ρ' a' w' hall hI
  have b6R:∀r∈rs,D r.i=true:=by
   intro r hr
   obtain⟨x,y,hxy⟩:=List.append_of_mem hr
   exact hall r.i (T.ord _ _ _ hxy).1
  have d2j:sig D rs s.get=s'.get:=by
   funext n
   rw[mh (D':=nR) rfl fun r hr _ _=>b6R r hr]
   cases hl:mem s.lk n with
   |false=>
    have:=t3 n hl
    rw[List.nil_append]at this
    rw[←this,gP (by rw[t6.lk];exact hl)]
   |true=>
    have e1:s'.get n=none:=by unfold St.get;rw[t6.lk,hl]
    rw[e1,nQ]
    ·unfold St.get;rw[hl]
    ·intro r hr _ hb hN
     obtain⟨x,y,hxy⟩:=List.append_of_mem hr
     obtain⟨eu,_,hrun⟩:=(T.run _ _ _ hxy).run
     rcases hrun with ⟨hb',_⟩|⟨_,s1,TN,hone,_,Tw,hold,rH,_⟩
     ·rw[hb]at hb';cases hb'
     ·have st:=kH e4A hone
      obtain⟨l,w1,w2,w3,w4⟩:=st.wr
      simp only[List.append_nil]at w1
      have:mem TN n=false:=by
       rcases hN with h|h
       ·exact st.ul n h.1 (by rw[←Tw];exact h.2)
       ·rw[hold]at h
        exact w3 n (by rw[←w1];exact (gq.1 h).1)
      rw[(rH n).2 (.inl hl)]at this;cases this
  have a6T:∀x,env'.get x=jK D rs (fun x=>env.get x) x:=by
   intro x
   rw[t4 x,List.nil_append]
   exact mR rfl fun r hr _=>(b6R r hr).symm
  refine⟨rfl,K ρ' a' w' hI.kept (d2j ▸ hI.lat) ?_ ⟨fun x v hx=>hI.env x v (by rw[←a6T];exact hx),hI.defers⟩ hI.size⟩
  intro x v hx
  rw[a6T]at hx
  rcases ru hx with h1|⟨k,h1,h2,h3⟩
  ·exact (he x v h1).mono fun _=>.inl
  ·rw[←h3]
   refine (hI.sup k h1 h2).mono ?_
   rintro n (h4|⟨q,h4,h5,h6,h7,h8⟩)
   ·exact .inl h4
   ·have:=T.rng q h4 h6
    exact .inr ⟨by omega,by omega⟩
 ·rw[hD0]
  refine⟨⟨rfl,rfl,rfl⟩,?_,?_,rfl,ha.defers,fun x v hx=>ha.at_ x v ?_,fun r _ hD=>by cases hD⟩
  ·rw[e4B];exact hm.mono fun _=>.inl
  ·rw[e4B]
   have:=m7.refl hm s.nx
   exact⟨this.mat.mono fun n hn=>.inl (B2.1 hn),fun n _=>⟨rfl,rfl⟩,Nat.le_refl _,fun _ _ _=>rfl,this.own⟩
  ·rw[oE fun r _ hD=>by cases hD]at hx
   exact hx
 ·rw[hD0]
  intro i o _ hD
  cases hD
 ·have:=List.length_filter_le (fun i=> !(Array.replicate ops.size false).getD i false) (List.range ops.size)
  simpa using this
theorem E0 (hcall:cT P call)(hmix:P.follows .mixedOrders=true){rid:Nat}(hN:N≤1000000){ord:List Nat}(hok:wV ops.toList (Ao ops.toList []) ord=true){ρ:Rn}{a:Act}{w:World}(hf:lv s)(hm:lp ρ p s.get w.heap)(he:ia p env)(ha:kE ρ env a)(hNa:a.tmps.size=N)
 (h:lh P N call ops.toList (Ao ops.toList []) ord [] s env=some (env',s')) (hp:∀n,s.nx≤n→n<s'.nx→¬p n) {R:Act→World→Prop}
 (K:∀ρ' a' w',Kept w w'→m7 ρ p s.get w.heap s.nx s'.nx ρ' s'.get w'.heap→ia (pn p s.nx s'.nx) env'→kE ρ' env' a'→a'.tmps.size=a.tmps.size→R a' w'):(Code.region rid ops true).wp P (fun e a w=>e= .normal∧R a w) a w:=
 wp_region_any hmix (xl hcall hN hok hf hm he ha hNa h hp K)
end draw
end
end Go.Sb
end
section
namespace Go.Sb
open Go
noncomputable section
theorem Out.after {ρ ρ1:Rn}{p:Nat→Prop}{s s1 s':St}{h h1 h':Hp}{v u:Value}(hl:m7 ρ p s.get h s.nx s1.nx ρ1 s1.get h1)(a:s.nx≤s1.nx)(b:s1.nx≤s'.nx)(ho:Out ρ1 (pn p s.nx s1.nx) s1 h1 v s' u h'):Out ρ p s h v s' u h':=by
 obtain⟨ρ2,h2,h3,h4⟩:=ho
 refine⟨ρ2,h2,hl.trans h3 a b,h4.mono ?_⟩
 rintro n ((hn|hn)|hn)
 ·exact .inl hn
 ·exact .inr ⟨hn.1,by omega⟩
 ·exact .inr ⟨by omega,hn.2⟩
section code
variable {P:Program}{call:FuncId→List Value→St→fq}
theorem qa {ρ:Rn}{p:Nat→Prop}{s:St}{env:eH}{a:Act}{w:World}(hm:lp ρ p s.get w.heap)(he:ia p env)(ha:kE ρ env a){g:ResultVar→Sem Value}(hg:∀t,g (.tmp t)=pure (a.tmps.getD t undef))(hg':∀x t,g (.cell x t)=do loadVar t (←asAddr (a.tmps.getD x undef))):
  ∀(rs:List ResultVar) (acc vs:List Value),EA P s env rs acc=some vs→∃us,vs=acc++us∧(∀v∈us,dI p v)∧(rs.mapM g).run P w= .ok (us.map (bk ρ)) w
 |[],acc,vs,h=>by
  simp only[EA,Option.some.injEq]at h
  exact⟨[],by simp[h],by simp,by simp⟩
 | .tmp t::rs,acc,vs,h=>by
  simp only[EA]at h
  split at h
  ·rename_i v hv
   obtain⟨us,h1,h2,h3⟩:=qa hm he ha hg hg' rs _ vs h
   refine⟨v::us,by simp[h1],?_,?_⟩
   ·intro u hu
    rcases List.mem_cons.1 hu with rfl|hu
    ·exact he t _ hv
    ·exact h2 u hu
   ·rw[List.mapM_cons,hg]
    have:a.tmps.getD t undef=bk ρ v:=by simp[ha.at_ _ _ hv]
    simp only[this,Sem.run_bind,Sem.run_pure,Result.andThen_ok,h3,List.map_cons]
  ·cases h
 | .cell x t::rs,acc,vs,h=>by
  simp only[EA]at h
  split at h
  ·rename_i ad hv
   split at h
   ·rename_i v hrd
    obtain⟨hl,hs⟩:=EG (P:=P) hm hrd
    obtain⟨us,h1,h2,h3⟩:=qa hm he ha hg hg' rs _ vs h
    refine⟨v::us,by simp[h1],?_,?_⟩
    ·intro u hu
     rcases List.mem_cons.1 hu with rfl|hu
     ·exact hs
     ·exact h2 u hu
    ·rw[List.mapM_cons,hg']
     have:a.tmps.getD x undef= .pointer (some (ρ.a ad)):=by
      have:=ha.at_ _ _ hv
      rw[dS]at this
      simp[this]
     simp only[this,asAddr,Sem.run_bind,Sem.run_pure,Result.andThen_ok,hl,h3,List.map_cons]
   ·cases h
  ·cases h
theorem tI {ρ:Rn}{p:Nat→Prop}{s s':St}{env:eH}{a:Act}{w:World}{fn:Func}{v:Value}(hm:lp ρ p s.get w.heap)(he:ia p env)(ha:kE ρ env a)(h:mb P s env fn.results.toList=some (v,s')):s'=s∧dI p v∧(results fn a.tmps).run P w= .ok (bk ρ v) w:=by
 unfold mb at h
 have key:∀vs,EA P s env fn.results.toList []=some vs→(∀v∈vs,dI p v)∧(results fn a.tmps).run P w= .ok (if h:(vs.map (bk ρ)).toArray.size=1 then (vs.map (bk ρ)).toArray[0] else .tuple (vs.map (bk ρ)).toArray) w:=by
  intro vs hvs
  obtain⟨us,h1,h2,h3⟩:=qa (g:=fun
   | .tmp t=>pure (a.tmps.getD t undef)
   | .cell x t=>do loadVar t (←asAddr (a.tmps.getD x undef))) hm he ha (fun _=>rfl) (fun _ _=>rfl) _ _ _ hvs
  rw[List.nil_append]at h1
  subst h1
  refine⟨h2,?_⟩
  unfold results
  rw[Array.mapM_eq_mapM_toList]
  simp only[Sem.run_bind,Sem.run_map]
  erw [h3]
  rfl
 split at h
 ·rename_i u hc
  cases h
  obtain⟨h1,h2⟩:=key _ hc
  exact⟨rfl,h1 _ (by simp),h2⟩
 ·rename_i vs hno hc
  cases h
  obtain⟨h1,h2⟩:=key _ hc
  refine⟨rfl,dI.tuple h1,?_⟩
  rw[h2,dif_neg,eG]
  ·congr 2;apply Array.ext';simp
  ·intro hl
   have hl:vs.length=1:=by simpa using hl
   obtain⟨x,hx⟩:=List.length_eq_one_iff.1 hl
   exact hno x hx
 ·cases h
theorem j7 (hcall:cT P call){N:Nat}(hN:N≤1000000){ol:List Oper}{dh:List Nat}:∀(is:List Nat) (ds:List Did) {s s':St} {env env':eH},lh P N call ol dh is ds s env=some (env',s')→nr s s'
 |[],ds,s,s',env,env',h=>by
  simp only[lh,Option.some.injEq,Prod.mk.injEq]at h
  rw[h.2];exact .refl _
 |i::is,ds,s,s',env,env',h=>by
  unfold lh at h
  split at h
  ·rename_i o mask ho hmk
   have fg:∀(k:Nat) (ol:List Oper) (ms:List Nat) (env:eH) (K:eH→Option (eH×St)) (r:eH×St),eI i mask k ol ms env K=some r→∃eu,K eu=some r:=by
    intro k ol
    induction ol generalizing k with
    |nil=>intro ms env K r h;unfold eI at h;exact⟨env,h⟩
    |cons o ol ih=>
     intro ms env K r h
     cases ms with
     |nil=>unfold eI at h;exact⟨env,h⟩
     |cons m ms=>
      unfold eI at h
      split at h
      ·exact ih _ _ _ _ _ h
      ·split at h
       ·exact ih _ _ _ _ _ h
       ·split at h
        ·rw[Tr.dn]at h;exact ih _ _ _ _ _ h
        ·exact ih _ _ _ _ _ h
   obtain⟨eu,h⟩:=fg _ _ _ _ _ _ h
   split at h
   ·split at h
    ·rw[m6]at h
     obtain⟨pY,h2,_⟩:=mf hN h
     exact j7 hcall hN is _ h2
    ·cases h
   ·rw[mc]at h
    split at h
    ·rename_i v s1 hone
     rw[mc]at h
     have st1:=kH (fun f args s v s' hh=>(hcall f args s v s' hh).1) hone
     obtain⟨l,w1,w2,w3,w4⟩:=st1.wr
     simp only[List.append_nil]at w1
     have unl:∀n,mem (jZ mask s.lk ds) n=false→mem s.lk n=false:=by
      intro n hn
      cases hm:mem s.lk n with
      |false=>rfl
      |true=>rw[rq.2 (.inl hm)]at hn;cases hn
     have hst:nr s ⟨s1.t,s1.nx,s.lk,yn s.nx s1.nx s1.wr++s.wr⟩:=by
      refine⟨st1.nx,rfl,⟨yn s.nx s1.nx s1.wr,rfl,fun n hn hr=>?_,fun n hn=>?_,fun hf n hn=>?_⟩,fun n h1 h2=>unl n (st1.ul n h1 h2),fun hf=>st1.fr hf⟩
      ·exact w2 n (fun hl=>hn (gq.2 ⟨by rw[w1];exact hl,hr⟩)) hr
      ·exact unl n (w3 n (by rw[←w1];exact (gq.1 hn).1))
      ·exact w4 hf n (by rw[←w1];exact (gq.1 hn).1)
     split at h
     ·cases h
     ·rw[m6]at h
      obtain⟨pY,h2,_⟩:=mf hN h
      rw[mc]at h2
      exact hst.trans (j7 hcall hN is _ h2)
    ·cases h
  ·cases h
theorem nS (hcall:cT P call){N:Nat}(hN:N≤1000000){f:FuncId}{ords:ra}{res:List ResultVar}:∀(n:Nat) (todo:List Item) {s s':St} {env:eH} {v:Value},kB P N call f ords res n todo s env=some (v,s')→nr s s'
 |0,todo,s,s',env,v,h=>by simp[kB]at h
 |n+1,todo,s,s',env,v,h=>by
  have ret:mb P s env res=some (v,s')→nr s s':=by
   intro h
   unfold mb at h
   split at h
   ·cases h;exact .refl s
   ·cases h;exact .refl s
   ·cases h
  have ih:=fun todo (s:St) (env:eH) (h:kB P N call f ords res n todo s env=some (v,s'))=>nS hcall hN n todo h
  unfold kB at h
  split at h
  ·exact ret h
  ·split at h
   ·exact ret h
   ·exact ih _ _ _ h
   ·exact ih _ _ _ h
   ·exact ih _ _ _ h
   ·split at h
    ·exact ih _ _ _ h
    ·exact ih _ _ _ h
    ·cases h
   ·exact ih _ _ _ h
   ·exact ih _ _ _ h
   ·split at h
    ·exact ih _ _ _ h
    ·cases h
   ·split at h
    ·split at h
     ·rename_i h1
      exact (mg hcall _ h1 hN).trans (ih _ _ _ h)
     ·cases h
    ·rw[mi,mc]at h
     split at h
     ·cases h
     ·split at h
      ·rename_i h1
       exact (j7 hcall hN _ _ h1).trans (ih _ _ _ h)
      ·cases h
   ·cases h
  ·exact ih _ _ _ h
  ·exact ih _ _ _ h
  ·cases h
theorem qb (hcall:cT P call)(hmix:P.follows .mixedOrders=true){f:FuncId}{fn:Func}(hf:P.funcs[f]? =some fn)(hN:fn.ntmps≤1000000){ords:ra}:∀(n:Nat) (todo:List Item) {ρ:Rn} {p:Nat→Prop} {s s':St} {env:eH} {a:Act} {w:World} {v:Value},lv s→lp ρ p s.get w.heap→ia p env→kE ρ env a→a.tmps.size=fn.ntmps→
  kB P fn.ntmps call f ords fn.results.toList n todo s env=some (v,s')→(∀n,s.nx≤n→n<s'.nx→¬p n)→bM P f todo a w (Out ρ p s w.heap v s')
 |0,todo,ρ,p,s,s',env,a,w,v,_,_,_,_,_,h,_=>by simp[kB]at h
 |n+1,todo,ρ,p,s,s',env,a,w,v,hfr,hm,he,ha,hsz,h,hp=>by
  have ih:=fun (todo:List Item) (h:kB P fn.ntmps call f ords fn.results.toList n todo s env=some (v,s'))=>qb hcall hmix hf hN n todo hfr hm he ha hsz h hp
  have ret:mb P s env fn.results.toList=some (v,s')→(results fn a.tmps).run P w= .ok (bk ρ v) w∧Out ρ p s w.heap v s' (bk ρ v) w.heap:=by
   intro h
   obtain⟨h1,h2,h3⟩:=tI hm he ha h
   subst h1
   exact⟨h3,ρ,rfl,.refl hm _,h2.mono fun _=>.inl⟩
  unfold kB at h
  split at h
  ·obtain⟨h1,h2⟩:=ret h
   exact bM.fin hf ha.defers h1 h2
  ·rename_i c k
   split at h
   ·obtain⟨h1,h2⟩:=ret h
    exact bM.ret hf ha.defers h1 h2
   ·exact bM.skip (ih _ h)
   ·exact bM.label (ih _ h)
   ·exact bM.seq (ih _ h)
   ·rename_i c x y
    split at h
    ·rename_i hc
     have hc:=bQ ha hc
     rw[eZ]at hc
     exact bM.cond hc (ih _ h)
    ·rename_i hc
     have hc:=bQ ha hc
     rw[eZ]at hc
     exact bM.cond hc (ih _ h)
    ·cases h
   ·exact bM.block (ih _ h)
   ·exact bM.loop (ih _ h)
   ·rename_i i
    split at h
    ·rename_i k' hk
     exact bM.exit hk (ih _ h)
    ·cases h
   ·rename_i rid ops draw
    have behind:∀(env1:eH) (s1:St),nr s s1→kB P fn.ntmps call f ords fn.results.toList n k s1 env1=some (v,s')→∀ρ' a' w',Kept w w'→m7 ρ p s.get w.heap s.nx s1.nx ρ' s1.get w'.heap→ia (pn p s.nx s1.nx) env1→kE ρ' env1 a'→a'.tmps.size=a.tmps.size→Kept w w'∧bM P f k a' w' (Out ρ p s w.heap v s'):=by
     intro env1 s1 hst h ρ' a' w' hk hl he1 ha1 hs1
     have Tc:=nS hcall hN n k h
     refine⟨hk,(qb hcall hmix hf hN n k (hst.fr hfr) hl.mat he1 ha1 (hs1.trans hsz) h ?_).mono fun u h' ho=>Out.after hl hst.nx Tc.nx ho⟩
     rintro m h1 h2 (h3|h3)
     ·exact hp m (Nat.le_trans hst.nx h1) h2 h3
     ·omega
    split at h
    ·split at h
     ·rename_i env1 s1 h1
      refine bM.code (wp_region ?_)
      have st1:=mg hcall _ h1 hN
      have Tc:=nS hcall hN n k h
      have:=pX (ops:=ops) (Qx:=fun e a' w'=>e= .normal∧Kept w w'∧bM P f k a' w' (Out ρ p s w.heap v s')) (R:=[]) hcall hN ops.toList (List.range ops.size) (lN ops) hfr hm he ha (by omega) h1
       (fun m a b=>hp m a (Nat.lt_of_lt_of_le b Tc.nx)) (fun ρ' a' w' hk hl he1 ha1 hs1=>⟨rfl,behind env1 s1 st1 h ρ' a' w' hk hl he1 ha1 hs1⟩)
      rwa [List.append_nil]at this
     ·cases h
    ·rw[mi,mc]at h
     split at h
     ·cases h
     ·rename_i hok
      split at h
      ·rename_i env1 s1 h1
       have st1:=j7 hcall hN _ _ h1
       have Tc:=nS hcall hN n k h
       exact bM.code (wp_mono (E0 (R:=fun a' w'=>Kept w w'∧bM P f k a' w' (Out ρ p s w.heap v s')) hcall hmix hN hok hfr hm he ha hsz h1 (fun m a b=>hp m a (Nat.lt_of_lt_of_le b Tc.nx)) (behind env1 s1 st1 h)) fun _ _ _ h=>h)
      ·cases h
   ·cases h
  ·exact bM.inBlock (ih _ h)
  ·exact bM.inLoop (ih _ h)
  ·cases h
theorem qc {α:Type}:∀(n:Nat) (args:List Value) (env:eH) (k:eH→α),n+args.length≤1000000→∃env1,EB n args env k=k env1∧∀i,env1.get i=if n≤i∧i<n+args.length then args[i-n]? else env.get i
 |n,[],env,k,_=>⟨env,rfl,fun i=>by rw[if_neg (by simp)]⟩
 |n,v::vs,env,k,h=>by
  simp only[List.length_cons]at h
  unfold EB
  rw[m6,Tr.dn]
  obtain⟨env1,h1,h2⟩:=qc (Nat.succ n) vs (Tr.up 20 n env (some v)) k (by omega)
  refine⟨env1,h1,fun i=>?_⟩
  rw[h2,Tr.kC _ _ _ (by omega)]
  by_cases hi:i=n
  ·subst hi
   rw[if_neg (by omega),if_pos rfl,if_pos (by simp)];simp
  ·by_cases hi2:n.succ≤i∧i<n.succ+vs.length
   ·rw[if_pos hi2,if_pos (by simp only[List.length_cons];omega)]
    rw[show i-n=(i-n.succ)+1 by omega,List.getElem?_cons_succ]
   ·rw[if_neg hi2,if_neg hi,if_neg (by simp only[List.length_cons];omega)]
theorem xm (hmix:P.follows .mixedOrders=true)(hname:∀(f:Nat) (fn:Func),P.funcs[f]? =some fn→(fn.name == "runtime.NumGoroutine")=false){ords:ra}{ext:FuncId→Option (List Value→St→fq)}
  (rh:∀f x,ext f=some x→cT P fun g args s=>if g=f then x args s else none):∀d,cT P (wW P ords ext d)
 |0=>by intro f args s v s' h;simp[wW]at h
 |d+1=>by
  intro f args s v s' h
  unfold wW at h
  split at h
  ·rename_i x hx
   exact rh f x hx f args s v s' (by simp only[if_true];exact h)
  ·split at h
   ·cases h
   ·rename_i fn hfn
    rw[Array.getElem?_toList]at hfn
    split at h
    ·cases h
    ·rename_i c hb
     split at h
     ·rename_i hn hl
      have hn:fn.ntmps<1000000:=Nat.le_of_ble_eq_true hn
      have hl:=Nat.le_of_ble_eq_true hl
      obtain⟨env1,h1,h2⟩:=qc 0 args (.lf:eH) (fun env=>kB P fn.ntmps (wW P ords ext d) f ords fn.results.toList 20000 [.code c] s env) (by omega)
      rw[h1]at h
      have ihd:=xm hmix hname rh (ords:=ords) d
      refine⟨nS ihd (by omega) _ _ h,fun ρ p hp hfr hm hs hnp=>?_⟩
      have ng:∀i v,env1.get i=some v→args[i]? =some v:=by
       intro i v hi
       rw[h2]at hi
       split at hi
       ·simpa using hi
       ·simp[Tr.pV]at hi
      refine Nf.AH (c:=c) ?_ hfn hb fun w hw=>?_
      ·intro args w
       unfold callFunc
       simp only[program,Sem.run_bind]
       show (match P.funcs[f]? with
        |none=>_
        |some fn=>_:Sem Next).run P w=_
       rw[hfn]
       simp only[hname f fn hfn,hb,Option.isNone_some,Bool.false_eq_true,if_false]
       rfl
      ·subst hw
       refine qb ihd hmix hfn (by omega) _ _ hfr hm ?_ ?_ ?_ h hnp
       ·intro i v hi
        exact hs v (List.mem_of_getElem? (ng i v hi))
       ·refine⟨fun i v hi=>?_,rfl⟩
        have h3:=ng i v hi
        have h4:i<args.length:=(List.getElem?_eq_some_iff.1 h3).1
        simp only
        rw[Array.getElem?_append_left (by simpa using h4)]
        simp[h3]
       ·simp;omega
     ·cases h
end code
end
end Go.Sb
end
section
set_option maxRecDepth 100000
namespace Go.Proofs.YtnpinhahjgbigaaGreatDoor
open Go Go.Sb
noncomputable section
def byB (c:Nat)(x:UInt8):Bool:=Nat.beq x.toNat c
theorem a6Z {c:Nat}(hc:c<256):byB c=fun x=>x == c.toUInt8:=by
 funext x
 unfold byB
 have h2:(c.toUInt8).toNat=c:=by
  rw[UInt8.toNat_ofNat'];omega
 cases hx:Nat.beq x.toNat c with
 |true=>
  have:=Nat.eq_of_beq_eq_true hx
  have:x=c.toUInt8:=UInt8.toNat_inj.1 (this.trans h2.symm)
  simp[this]
 |false=>
  symm
  simp only[beq_eq_false_iff_ne,ne_eq]
  rintro rfl
  rw[h2,Nat.beq_refl]at hx
  cases hx
def ixF (c:Nat):List UInt8→Nat→Int
 |[],_=> -1
 |x::xs,i=>match byB c x with
  |true=>(i:Int)
  |false=>ixF c xs (Nat.succ i)
theorem a7a {c:Nat}(hc:c<256):∀(l:List UInt8) (k:Nat),ixF c l k=if Lib.indexByte l c.toUInt8= -1 then -1 else Lib.indexByte l c.toUInt8+k
 |[],k=>by simp[ixF,Lib.indexByte]
 |x::xs,k=>by
  have ih:=a7a hc xs (Nat.succ k)
  have hge:=Lib.indexByte_ge xs c.toUInt8
  unfold ixF Lib.indexByte
  rw[a6Z hc]at*
  by_cases hx:(x == c.toUInt8)=true
  ·simp[hx]
  ·have hx:(x == c.toUInt8)=false:=by simpa using hx
   simp only[hx,Bool.false_eq_true,if_false]
   rw[ih]
   by_cases h1:Lib.indexByte xs c.toUInt8= -1
   ·simp[h1]
   ·have h2:(Lib.indexByte xs c.toUInt8 == -1)=false:=by simpa using h1
    rw[if_neg h1,h2]
    simp only[Bool.false_eq_true,if_false]
    rw[if_neg (by omega)]
    omega
def xIdx:List Value→St→fq
 |[.string b,.int .u8 c],s=>match Nat.blt c.toNat 256 with
  |true=>some (.int .i64 (ixF c.toNat b.data.toList 0),s)
  |false=>none
 |_,_=>none
def d2k:List Value→St→fq
 |[.string b,.int .u8 c],s=>match Nat.blt c.toNat 256 with
  |true=>some (.int .i64 ((b.data.toList.countP (byB c.toNat):Nat)),s)
  |false=>none
 |_,_=>none
def d2l:List Value→St→fq
 |[.int .u64 a,.int .u64 b,.int .u64 c],s=>match decide (0≤a),decide (0≤b),decide (c=0) with
  |true,true,true=>some (.tuple #[.int .u64 ((a+b+c)%18446744073709551616),.int .u64 ((a+b+c) / 18446744073709551616)],s)
  |_,_,_=>none
 |_,_=>none
theorem xn {P:Program}{f:FuncId}{x:List Value→St→fq}(h:∀args s v s',x args s=some (v,s')→s'=s∧(∀ρ,bk ρ v=v)∧∀(ρ:Rn) (w:World),(callFunc f (args.map (bk ρ)).toArray).run P w= .ok (.value v) w):
  cT P fun g args s=>if g=f then x args s else none:=by
 intro g args s v s' hx
 by_cases hg:g=f
 ·subst hg
  simp only[if_true]at hx
  obtain⟨rfl,h2,h3⟩:=h _ _ _ _ hx
  refine⟨.refl _,fun ρ p hp _ hm _ _=>?_⟩
  exact Nf.ext v (fun w _=>h3 ρ w) ⟨ρ,(h2 ρ).symm,.refl hm _,fun ρ ρ' _=>by rw[h2,h2]⟩
 ·simp[hg]at hx
theorem e4C:∃fn,Tryz.prog.funcs[266]? =some fn∧(fn.name == "runtime.NumGoroutine")=false∧fn.body.isNone=true∧Extern.findNext fn=none∧Extern.find fn=some Extern.BytealgIndexByte.indexByte:=
 ⟨_,Tryz.func266,by kernel_rfl,by kernel_rfl,by kernel_rfl,by kernel_rfl⟩
theorem e4D:∃fn,Tryz.prog.funcs[261]? =some fn∧(fn.name == "runtime.NumGoroutine")=false∧fn.body.isNone=true∧Extern.findNext fn=none∧Extern.find fn=some Extern.BytealgCount.count:=
 ⟨_,Tryz.func261,by kernel_rfl,by kernel_rfl,by kernel_rfl,by kernel_rfl⟩
theorem e4E:∃fn,Tryz.prog.funcs[122]? =some fn∧(fn.name == "runtime.NumGoroutine")=false∧fn.body.isNone=true∧Extern.findNext fn=none∧Extern.find fn=some add64Entry:=
 ⟨_,Tryz.func122,by kernel_rfl,by kernel_rfl,by kernel_rfl,by kernel_rfl⟩
theorem b4M:cT Tryz.prog fun g args s=>if g=266 then xIdx args s else none:=by
 refine xn fun args s v s' h=>?_
 unfold xIdx at h
 split at h
 ·rename_i b c
  split at h
  ·rename_i hc
   cases h
   refine⟨rfl,fun ρ=>by simp,fun ρ w=>?_⟩
   obtain⟨fn,h1,h2,h3,h4,h5⟩:=e4C
   simp only[List.map_cons,List.map_nil,fX,bY]
   rw[run_callFunc_extern h1 h2 h3 h4 h5]
   show ((Extern.BytealgIndexByte.indexByte #[.string b,.int .u8 c]).run Tryz.prog w).andThen _=_
   rw[run_indexByte_string,Lib.firstIdx_eq,a7a (Nat.le_of_ble_eq_true hc)]
   have:(if Lib.indexByte b.data.toList c.toNat.toUInt8= -1 then (-1:Int) else Lib.indexByte b.data.toList c.toNat.toUInt8+(0:Nat))=Lib.indexByte b.data.toList c.toNat.toUInt8:=by
    split
    ·omega
    ·omega
   rw[this]
   rfl
  ·cases h
 ·cases h
theorem b4N:cT Tryz.prog fun g args s=>if g=261 then d2k args s else none:=by
 refine xn fun args s v s' h=>?_
 unfold d2k at h
 split at h
 ·rename_i b c
  split at h
  ·rename_i hc
   cases h
   refine⟨rfl,fun ρ=>by simp,fun ρ w=>?_⟩
   obtain⟨fn,h1,h2,h3,h4,h5⟩:=e4D
   simp only[List.map_cons,List.map_nil,fX,bY]
   rw[run_callFunc_extern h1 h2 h3 h4 h5]
   show ((Extern.BytealgCount.count #[.string b,.int .u8 c]).run Tryz.prog w).andThen _=_
   rw[Lib.run_countString,a6Z (Nat.le_of_ble_eq_true hc)]
   rfl
  ·cases h
 ·cases h
theorem b4O:cT Tryz.prog fun g args s=>if g=122 then d2l args s else none:=by
 refine xn fun args s v s' h=>?_
 unfold d2l at h
 split at h
 ·rename_i a b c
  split at h
  ·rename_i ha hb hc
   cases h
   have ha:0≤a:=by simpa using ha
   have hb:0≤b:=by simpa using hb
   have hc:c=0:=by simpa using hc
   subst hc
   refine⟨rfl,fun ρ=>by rw[eG];simp,fun ρ w=>?_⟩
   obtain⟨fn,h1,h2,h3,h4,h5⟩:=e4E
   simp only[List.map_cons,List.map_nil,bY]
   rw[run_callFunc_extern h1 h2 h3 h4 h5]
   show ((add64Entry #[.int .u64 a,.int .u64 b,.int .u64 0]).run Tryz.prog w).andThen _=_
   rw[run_add64 a b 0 ha hb (by omega) (by omega)]
   rfl
  ·cases h
 ·cases h
end
end Go.Proofs.YtnpinhahjgbigaaGreatDoor
end
section
namespace Go.Proofs.YtnpinhahjgbigaaGreatDoor
open Go Go.RowKit Go.Shelf Go.Proofs
attribute [local go_sem] Oper.semAt_some
set_option maxRecDepth 100000 in
set_option maxHeartbeats 2000000 in
theorem b4P (l Bs b off len cap:Nat)(zs:Nat→Int)(hreach:len*8≤140737488351232)(J:Nat→World→Prop)
  (hJ:∀k W,J (k+1) W→W.cell? ⟨Bs,0,none⟩=some (.slice (some ⟨b,off,none⟩) len cap)∧∀j,j<len→W.cell? ⟨b,off+j,none⟩=some (.int .i64 (zs j)))
  (hY:∀k W,J (k+1) W→k<len→YieldAt Fence.wide 0 Tryz.prog l #[.int .i64 k,.int .i64 (zs k)] W fun e W'=>e= .returned (.bool true)∧J k W')
  (W:World) (hBs:W.cell? ⟨Bs,0,none⟩=some (.slice (some ⟨b,off,none⟩) len cap)) (h0:J len W):
  CallsIn Fence.wide 1 Tryz.prog 300 #[.func (.yield l) #[] #[],.pointer (some ⟨Bs,0,none⟩)] W fun e W'=>(∃v,e= .returned v)∧J 0 W':=by
 refine callsIn_of_wp Tryz.func300 rfl trivial ?_ rfl
 simp only[Tryz.ntmps300,List.size_toArray,List.length_cons,List.length_nil,Nat.reduceAdd,Nat.reduceSub,Array.replicate_succ,Array.replicate_zero,List.push_toArray,List.append_toArray,List.nil_append,List.cons_append]
 gi_wp2
 gi_loopw [3] (fun i wr=>∃k:Nat,k≤len∧i= .int .i64 ((k:Int)-1)∧J k wr)
  (fun i _=>(intOf i+1).toNat)
 case atStart=>exact⟨len,Nat.le_refl _,rfl,h0⟩
 case round=>
  obtain⟨k,hk,rfl,hJs⟩:=hrel
  by_cases hlt:0<k
  ·obtain⟨m,rfl⟩:∃m,k=m+1:=⟨k-1,by omega⟩
   obtain⟨fn,tmps,assign,body,hy,hR⟩:=hY m wr hJs (by omega)
   obtain⟨hBs',hc'⟩:=hJ _ _ hJs
   have hcx':=hc' m (by omega)
   gi_wp2
   refine hR.mono ?_
   rintro e W3 ⟨rfl,hJ3⟩
   gi_wp2
   go_roundw
   case rel=>exact⟨m,by omega,by simp,hJ3⟩
   case measure=>simp[intOf]
  ·obtain rfl:k=0:=by omega
   gi_wp2
   go_end0
   exact⟨⟨_,rfl⟩,hJs⟩
end Go.Proofs.YtnpinhahjgbigaaGreatDoor
end
section
namespace Go.Sb
open Go
noncomputable section
def Fr (ro:Option Nat):Fence:={ Fence.wide with round:=ro}
def nh (ds:List Deferred)(a:Act):Act:={ a with defers:=a.defers++ds}
theorem b4Q (a:Act):nh [] a=a:=by simp[nh]
theorem uF (ds:List Deferred)(a:Act)(d:Option Tmp)(v:Value):(nh ds a).put d v=nh ds (a.put d v):=by cases d<;>rfl
section move
variable {P:Program}{ro:Option Nat}{ds:List Deferred}{ops:Array Oper}{Q Q':Exit→Act→World→Prop}
theorem Tg (ro:Option Nat)(m:Machine):m.fenced P (Fr ro):=fenced_wide P m
theorem ID {m m':Machine}:StepsIn (Machine.fenced P (Fr ro)) P m m'↔Steps P m m':=
 ⟨StepsIn.steps,fun h=>(StepsIn.of_steps h).mono fun m _=>Tg ro m⟩
theorem a7b {n:Nat}{f:FuncId}{args:Array Value}{w:World}{R:Ending→World→Prop}(h:Calls P f args w R):CallsIn (Fr ro) n P f args w R:=callsIn_wide.2 h
theorem b4R {n:Nat}{row:String}{args:Array Value}{w:World}{R:Value→World→Prop}(h:Rows P row args w R):RowsIn (Fr ro) n P row args w R:=
 fun c cs _=>let ⟨v,w',r,s⟩:=h c cs;⟨v,w',r,ID.2 s⟩
def lz (o:Oper):Bool:=match o.op with
 | .defer _=>false
 |_=>true
theorem IE {o:Oper}(h:lz o=true)(c:Call):o.op≠.defer c:=fun he=>by unfold lz at h;rw[he]at h;cases h
theorem Au {i:Nat}{K K':Act→World→Prop}{a:Act}{w:World}(hQ:∀e a w,Q e a w→e= .normal)(hd:∀o,ops[i]? =some o→lz o=true)(hK:∀a' w',K a' w'→K' (nh ds a') w')
  (h:wpOp P ops Q i K a w):wpOpIn (Fr ro) 0 P ops Q' i K' (nh ds a) w:=by
 unfold wpOp at h
 unfold wpOpIn
 cases ho:ops[i]? with
 |none=>rw[ho]at h;exact hK _ _ h
 |some o=>
  rw[ho]at h
  simp only at h ⊢
  have hy:yielded ops (nh ds a).tmps=yielded ops a.tmps:=rfl
  rw[hy]
  split
  ·rename_i hw
   rw[if_pos hw]at h
   rcases h with h|⟨_,a',w',h⟩
   ·refine⟨fun _ _=>trivial,?_⟩
    have he:o.semAt (Fr ro).round (nh ds a).eval=execOp a.eval o:=Oper.semAt_eq _ _ _ (IE (hd o ho))
    rw[he]
    unfold Oper.wp at h
    generalize (execOp a.eval o).run P w=r at h ⊢
    cases r with
    |ok x w'=>
     cases x<;>simp only[Oper.upon,Oper.uponIn]at h ⊢<;>first
      |(rw[uF];exact hK _ _ h)
      |exact h.elim
      |exact hK _ _ h
      |skip
     case enter g args=>
      refine⟨fun h=>(by cases h),a7b (h.mono fun e w'' he=>?_)⟩
      cases e with
      |returned v=>simp only at he ⊢;rw[uF];exact hK _ _ he
      |panicked c=>have:=hQ _ _ _ he;cases this
      |outgrown=>
       obtain⟨a',w',hl⟩:=he
       have:=hQ _ _ _ hl;cases this
     case row rw_ args=>
      exact⟨fun h=>(by cases h),b4R (h.mono fun v w'' he=>by rw[uF];exact hK _ _ he)⟩
     case defer d=>
      have:=hK _ _ h
      have e:({ nh ds a with defers:=d::(nh ds a).defers}:Act).put o.dst undef=nh ds (({ a with defers:=d::a.defers}:Act).put o.dst undef):=by cases o.dst<;>rfl
      rw[e];exact this
    |halt x w'=>
     cases x<;>simp only[Oper.upon,Oper.uponIn]at h ⊢<;>first
      |exact h.elim
      |(have:=hQ _ _ _ h;cases this)
   ·have:=hQ _ _ _ h;cases this
  ·rename_i hw
   rw[if_neg hw]at h
   exact⟨fun _ _=>trivial,by rw[uF];exact hK _ _ h⟩
theorem xo (hQ:∀e a w,Q e a w→e= .normal)(hd:∀(i:Nat) (o:Oper),ops[i]? =some o→lz o=true)(hK:∀a' w',Q .normal a' w'→Q' .normal (nh ds a') w'):
  ∀(l:List Nat) (a:Act) (w:World),wpOps P ops Q l a w→wpOpsIn (Fr ro) 0 P ops Q' l (nh ds a) w
 |[],a,w,h=>hK a w h
 |i::l,a,w,h=>by
  rw[wpOps_cons]at h
  rw[wpOpsIn_cons]
  exact Au hQ (hd i) (fun a' w' h'=>xo hQ hd hK l a' w' h') h
theorem xp {md:Region.Mode}(hQ:∀e a w,Q e a w→e= .normal)(hd:∀(i:Nat) (o:Oper),ops[i]? =some o→lz o=true)(hK:∀a' w',Q .normal a' w'→Q' .normal (nh ds a') w'):
  ∀(n:Nat) (listed:Array Bool) (a:Act) (w:World),wpAny P md ops Q n listed a w→wpAnyIn (Fr ro) 0 P md ops Q' n listed (nh ds a) w
 |0,listed,a,w,h=>⟨h.1,hK _ _ h.2⟩
 |n+1,listed,a,w,h=>⟨fun h0=>hK _ _ (h.1 h0),fun i hi=>Au hQ (hd i) (fun a' w' h'=>xp hQ hd hK n _ a' w' h') (h.2 i hi)⟩
end move
def ga (P:Program)(f:FuncId)(ro:Option Nat)(ds:List Deferred)(todo:List Item)(a:Act)(w:World)(E:List Item→Act→World→Prop):Prop:=
 ∀b:Frame,b.fn=f→b.kind= .normal→b.roundOf=ro→∀cs,∃td a' w',E td a' w'∧Steps P (lone (b.atR (nh ds a) todo) cs w) (lone (b.atR (nh ds a') td) cs w')
section runs
variable {P:Program}{f:FuncId}{ro:Option Nat}{ds:List Deferred}{a:Act}{w:World}{E:List Item→Act→World→Prop}{k:List Item}
theorem ga.here {todo:List Item}(h:E todo a w):ga P f ro ds todo a w E:=fun b _ _ _ cs=>⟨todo,a,w,h,Steps.refl _ _⟩
theorem ga.step {todo todo':List Item}(hs:∀(b:Frame) cs,step P (lone (b.atR (nh ds a) todo) cs w)= .next (lone (b.atR (nh ds a) todo') cs w))(h:ga P f ro ds todo' a w E):ga P f ro ds todo a w E:=by
 intro b hb hk hr cs
 obtain⟨td,a',w',hE,hst⟩:=h b hb hk hr cs
 exact⟨td,a',w',hE,.head (hs b cs) hst⟩
theorem ga.code {c:Code}(h:c.wpIn (Fr ro) 0 P (fun e a' w'=>e= .normal∧∃a1,a'=nh ds a1∧ga P f ro ds k a1 w' E) (nh ds a) w):ga P f ro ds (.code c::k) a w E:=by
 intro b hb hk hr cs
 obtain⟨e,a',w',⟨rfl,a1,rfl,hrn⟩,harr⟩:=h b k cs hr trivial (fun _ h=>by simp[Fr,Fence.wide]at h)
 obtain⟨td,a2,w2,hE,hst⟩:=hrn b hb hk hr cs
 exact⟨td,a2,w2,hE,Steps.trans (StepsIn.steps harr) hst⟩
theorem ga.mono {E':List Item→Act→World→Prop}{todo:List Item}(h:ga P f ro ds todo a w E)(hE:∀td a' w',E td a' w'→E' td a' w'):ga P f ro ds todo a w E':=
 fun b hb hk hr cs=>let ⟨td,a',w',h1,h2⟩:=h b hb hk hr cs;⟨td,a',w',hE _ _ _ h1,h2⟩
end runs
def dA (P:Program)(N:Nat)(call:FuncId→List Value→St→fq)(f:FuncId)(ords:ra):Nat→List Item→St→eH→Option (List Item×eH×St)
 |0,_,_,_=>none
 |n+1,todo,s,env=>match todo with
  |[]=>some ([],env,s)
  | .code c::k=>match c with
   | .ret=>some (.code .ret::k,env,s)
   | .rangeFunc g ps x y=>some (.code (.rangeFunc g ps x y)::k,env,s)
   | .skip=>dA P N call f ords n k s env
   | .label _=>dA P N call f ords n k s env
   | .seq x y=>dA P N call f ords n (.code x:: .code y::k) s env
   | .cond c x y=>match cY env c with
    |some (.bool true)=>dA P N call f ords n (.code x::k) s env
    |some (.bool false)=>dA P N call f ords n (.code y::k) s env
    |_=>none
   | .block i c=>dA P N call f ords n (.code c:: .inBlock i::k) s env
   | .loop c=>dA P N call f ords n (.code c:: .inLoop c::k) s env
   | .exit i=>match exitTo i k with
    |some k'=>dA P N call f ords n k' s env
    |none=>none
   | .region id ops draw=>match ops.toList.all lz with
    |false=>none
    |true=>match draw with
     |false=>match BW P N call ops.toList ops.toList s env with
      |some (env',s')=>dA P N call f ords n k s' env'
      |none=>none
     |true=>wU ops.toList [] fun dh=>fL (a6E f id ops.toList.length ords) fun ord=>match wV ops.toList dh ord with
      |false=>none
      |true=>match lh P N call ops.toList dh ord [] s env with
       |some (env',s')=>dA P N call f ords n k s' env'
       |none=>none
   |_=>none
  | .inBlock _::k=>dA P N call f ords n k s env
  | .inLoop c::k=>dA P N call f ords n (.code c:: .inLoop c::k) s env
  | .beginRound::k=>some (.beginRound::k,env,s)
  |_=>none
section sound
variable {P:Program}{call:FuncId→List Value→St→fq}
theorem dq (hcall:cT P call){N:Nat}(hN:N≤1000000){f:FuncId}{ords:ra}:∀(n:Nat) (todo:List Item) {s s':St} {env env':eH} {td:List Item},dA P N call f ords n todo s env=some (td,env',s')→nr s s'
 |0,todo,s,s',env,env',td,h=>by simp[dA]at h
 |n+1,todo,s,s',env,env',td,h=>by
  have ih:=fun todo (s:St) (env:eH) (h:dA P N call f ords n todo s env=some (td,env',s'))=>dq hcall hN n todo h
  unfold dA at h
  split at h
  ·cases h;exact .refl s
  ·split at h
   ·cases h;exact .refl s
   ·cases h;exact .refl s
   ·exact ih _ _ _ h
   ·exact ih _ _ _ h
   ·exact ih _ _ _ h
   ·split at h
    ·exact ih _ _ _ h
    ·exact ih _ _ _ h
    ·cases h
   ·exact ih _ _ _ h
   ·exact ih _ _ _ h
   ·split at h
    ·exact ih _ _ _ h
    ·cases h
   ·split at h
    ·cases h
    ·split at h
     ·split at h
      ·rename_i h1
       exact (mg hcall _ h1 hN).trans (ih _ _ _ h)
      ·cases h
     ·rw[mi,mc]at h
      split at h
      ·cases h
      ·split at h
       ·rename_i h1
        exact (j7 hcall hN _ _ h1).trans (ih _ _ _ h)
       ·cases h
   ·cases h
  ·exact ih _ _ _ h
  ·exact ih _ _ _ h
  ·cases h;exact .refl s
  ·cases h
theorem E1 {ops:Array Oper}(h:ops.toList.all lz=true)(i:Nat)(o:Oper)(ho:ops[i]? =some o):lz o=true:=by
 rw[List.all_eq_true]at h
 refine h o ?_
 rw[←Array.getElem?_toList]at ho
 exact List.mem_of_getElem? ho
theorem g7 (hcall:cT P call)(hmix:P.follows .mixedOrders=true){f fr:FuncId}{N:Nat}(hN:N≤1000000){ords:ra}{ro:Option Nat}{ds:List Deferred}:∀(n:Nat) (todo:List Item) {ρ:Rn} {p:Nat→Prop} {s s':St} {env env':eH} {td:List Item} {a:Act} {w:World},lv s→lp ρ p s.get w.heap→ia p env→kE ρ env a→a.tmps.size=N→
  dA P N call f ords n todo s env=some (td,env',s')→(∀n,s.nx≤n→n<s'.nx→¬p n)→ga P fr ro ds todo a w fun TP a' w'=>TP=td∧Kept w w'∧∃ρ',m7 ρ p s.get w.heap s.nx s'.nx ρ' s'.get w'.heap∧ia (pn p s.nx s'.nx) env'∧kE ρ' env' a'∧a'.tmps.size=a.tmps.size
 |0,todo,ρ,p,s,s',env,env',td,a,w,_,_,_,_,_,h,_=>by simp[dA]at h
 |n+1,todo,ρ,p,s,s',env,env',td,a,w,hfr,hm,he,ha,hsz,h,hp=>by
  have ih:=fun (todo:List Item) (h:dA P N call f ords n todo s env=some (td,env',s'))=>g7 (fr:=fr) (ro:=ro) (ds:=ds) hcall hmix hN n todo hfr hm he ha hsz h hp
  have stay:∀todo,some (todo,env,s)=some (td,env',s')→ga P fr ro ds todo a w fun TP a' w'=>TP=td∧Kept w w'∧∃ρ',m7 ρ p s.get w.heap s.nx s'.nx ρ' s'.get w'.heap∧ia (pn p s.nx s'.nx) env'∧kE ρ' env' a'∧a'.tmps.size=a.tmps.size:=by
   intro todo h
   cases h
   exact .here ⟨rfl,.refl w,ρ,.refl hm _,he.mono fun _=>.inl,ha,rfl⟩
  have evd:(nh ds a).eval=a.eval:=rfl
  unfold dA at h
  split at h
  ·exact stay _ h
  ·rename_i c k
   split at h
   ·exact stay _ h
   ·exact stay _ h
   ·exact .step (fun _ _=>stepR_skip) (ih _ h)
   ·exact .step (fun _ _=>stepR_label) (ih _ h)
   ·exact .step (fun _ _=>stepR_seq) (ih _ h)
   ·rename_i c x y
    split at h
    ·rename_i hc
     have hc:=bQ ha hc
     rw[eZ]at hc
     exact .step (fun _ _=>stepR_cond (t:=true) hc) (ih _ h)
    ·rename_i hc
     have hc:=bQ ha hc
     rw[eZ]at hc
     exact .step (fun _ _=>stepR_cond (t:=false) hc) (ih _ h)
    ·cases h
   ·exact .step (fun _ _=>stepR_block) (ih _ h)
   ·exact .step (fun _ _=>stepR_loop) (ih _ h)
   ·rename_i i
    split at h
    ·rename_i k' hk
     exact .step (fun _ _=>stepR_exit hk) (ih _ h)
    ·cases h
   ·rename_i rid ops draw
    split at h
    ·cases h
    rename_i hnd
    have hnd:=E1 hnd
    have behind:∀(env1:eH) (s1:St),nr s s1→dA P N call f ords n k s1 env1=some (td,env',s')→∀ρ' a' w',Kept w w'→m7 ρ p s.get w.heap s.nx s1.nx ρ' s1.get w'.heap→ia (pn p s.nx s1.nx) env1→kE ρ' env1 a'→a'.tmps.size=a.tmps.size→
      ga P fr ro ds k a' w' fun TP a' w'=>TP=td∧Kept w w'∧∃ρ',m7 ρ p s.get w.heap s.nx s'.nx ρ' s'.get w'.heap∧ia (pn p s.nx s'.nx) env'∧kE ρ' env' a'∧a'.tmps.size=a.tmps.size:=by
     intro env1 s1 hst h ρ' a' w' hk hl he1 ha1 hs1
     have Tc:=dq hcall hN n k h
     refine (g7 hcall hmix hN n k (hst.fr hfr) hl.mat he1 ha1 (hs1.trans hsz) h ?_).mono ?_
     ·rintro m h1 h2 (h3|h3)
      ·exact hp m (Nat.le_trans hst.nx h1) h2 h3
      ·omega
     ·rintro TP T9 w'' ⟨e1,k2,ρ2,l2,he2,ha2,sS⟩
      have h1:=hst.nx
      have h2:=Tc.nx
      refine⟨e1,hk.trans k2,ρ2,hl.trans l2 h1 h2,he2.mono ?_,ha2,sS.trans hs1⟩
      rintro m ((h3|h3)|h3)
      ·exact .inl h3
      ·exact .inr ⟨h3.1,by omega⟩
      ·exact .inr ⟨by omega,h3.2⟩
    split at h
    ·split at h
     ·rename_i env1 s1 h1
      have st1:=mg hcall _ h1 hN
      have Tc:=dq hcall hN n k h
      refine .code (wpIn_region (xo (Q:=fun e a' w'=>e= .normal∧ga P fr ro ds k a' w' fun TP a' w'=>TP=td∧Kept w w'∧∃ρ',m7 ρ p s.get w.heap s.nx s'.nx ρ' s'.get w'.heap∧ia (pn p s.nx s'.nx) env'∧kE ρ' env' a'∧a'.tmps.size=a.tmps.size) (fun _ _ _ h=>h.1) hnd (fun a' w' h=>⟨rfl,a',rfl,h.2⟩) _ _ _ ?_))
      have:=pX (ops:=ops) (Qx:=fun e a' w'=>e= .normal∧ga P fr ro ds k a' w' fun TP a' w'=>TP=td∧Kept w w'∧∃ρ',m7 ρ p s.get w.heap s.nx s'.nx ρ' s'.get w'.heap∧ia (pn p s.nx s'.nx) env'∧kE ρ' env' a'∧a'.tmps.size=a.tmps.size) (R:=[]) hcall hN ops.toList (List.range ops.size) (lN ops) hfr hm he ha (by omega) h1
       (fun m a b=>hp m a (Nat.lt_of_lt_of_le b Tc.nx)) (fun ρ' a' w' hk hl he1 ha1 hs1=>⟨rfl,behind env1 s1 st1 h ρ' a' w' hk hl he1 ha1 hs1⟩)
      rwa [List.append_nil]at this
     ·cases h
    ·rw[mi,mc]at h
     split at h
     ·cases h
     ·rename_i hok
      split at h
      ·rename_i env1 s1 h1
       have st1:=j7 hcall hN _ _ h1
       have Tc:=dq hcall hN n k h
       refine .code (wpIn_region_any hmix (xp (Q:=fun e a' w'=>e= .normal∧ga P fr ro ds k a' w' fun TP a' w'=>TP=td∧Kept w w'∧∃ρ',m7 ρ p s.get w.heap s.nx s'.nx ρ' s'.get w'.heap∧ia (pn p s.nx s'.nx) env'∧kE ρ' env' a'∧a'.tmps.size=a.tmps.size) (fun _ _ _ h=>h.1) hnd (fun a' w' h=>⟨rfl,a',rfl,h.2⟩) _ _ _ _ ?_))
       exact xl hcall hN hok hfr hm he ha hsz h1 (fun m a b=>hp m a (Nat.lt_of_lt_of_le b Tc.nx)) (behind env1 s1 st1 h)
      ·cases h
   ·cases h
  ·exact .step (fun _ _=>stepR_inBlock) (ih _ h)
  ·exact .step (fun _ _=>stepR_inLoop) (ih _ h)
  ·exact stay _ h
  ·cases h
end sound
end
end Go.Sb
end
section
namespace Go.Sb
open Go
noncomputable section
structure ni (B:Nat) (ρ:Rn) (p:Nat→Prop) (g:Nat→Option Bl) (h:Hp) (lo hi:Nat) (ρ':Rn) (g':Nat→Option Bl) (h':Hp):Prop where
 mat:lp ρ' (pn p lo hi) g' h'
 wZ:∀n,¬(lo≤n∧n<hi)→ρ'.b n=ρ.b n∧ρ'.m n=ρ.m n
 size:B≤h'.size
 fr:∀b,b<B→(∀n c,g n=some c→ρ.b n≠b)→h'[b]? =h[b]?
 own:∀n c,g' n=some c→(∃m d,g m=some d∧ρ.b m=ρ'.b n)∨B≤ρ'.b n
section latb
variable {B:Nat}{ρ ρ1 ρ2:Rn}{p:Nat→Prop}{g g1 g2:Nat→Option Bl}{h h1 h2:Hp}{lo mid hi:Nat}
theorem ni.refl (hm:lp ρ p g h)(lo:Nat):ni h.size ρ p g h lo lo ρ g h:=
 let l:=m7.refl hm lo;⟨l.mat,l.wZ,l.size,l.fr,l.own⟩
theorem ni.lat (a:ni h.size ρ p g h lo hi ρ1 g1 h1):m7 ρ p g h lo hi ρ1 g1 h1:=⟨a.mat,a.wZ,a.size,a.fr,a.own⟩
theorem ni.then (a:ni B ρ p g h lo mid ρ1 g1 h1)(b:m7 ρ1 (pn p lo mid) g1 h1 mid hi ρ2 g2 h2)(hlm:lo≤mid)(hmh:mid≤hi):ni B ρ p g h lo hi ρ2 g2 h2 where
 mat:=b.mat.mono fun n hn=>by
  rcases hn with (hn|hn)|hn
  ·exact .inl hn
  ·exact .inr ⟨hn.1,by omega⟩
  ·exact .inr ⟨by omega,hn.2⟩
 wZ n hn:=by
  obtain⟨x1,x2⟩:=a.wZ n (by omega)
  obtain⟨y1,y2⟩:=b.wZ n (by omega)
  exact⟨y1.trans x1,y2.trans x2⟩
 size:=Nat.le_trans a.size b.size
 fr c hc hno:=by
  rw[b.fr c (Nat.lt_of_lt_of_le hc a.size) ?_,a.fr c hc hno]
  intro n d hn he
  rcases a.own n d hn with ⟨m,e,hm,hme⟩|hge
  ·exact hno m e hm (hme.trans he)
  ·omega
 own n c hn:=by
  have:=a.size
  rcases b.own n c hn with ⟨m,d,hm,hme⟩|hge
  ·rcases a.own m d hm with ⟨m',d',TM,Ip⟩|a6I
   ·exact .inl ⟨m',d',TM,Ip.trans hme⟩
   ·exact .inr (by rw[←hme];exact a6I)
  ·exact .inr (by omega)
theorem ni.a7c (a:ni B ρ p g h lo hi ρ1 g1 h1)(hsz:B≤h2.size)(hnm:∀n c,g1 n=some c→h2[ρ1.b n]? =h1[ρ1.b n]?)(b4E:∀b,b<B→h2[b]? =h1[b]?):ni B ρ p g h lo hi ρ1 g1 h2 where
 mat:=⟨fun n b hb=>(a.mat.ok n b hb).keep (a.mat.sup n b hb).2 (B0.refl _ _) (a.mat.sup n b hb).1 (hnm n b hb),a.mat.inj,a.mat.sup⟩
 wZ:=a.wZ
 size:=hsz
 fr b hb hno:=(b4E b hb).trans (a.fr b hb hno)
 own:=a.own
theorem lp.named {b:Nat}(hm:lp ρ p g h)(ho:∀o,h[b]? =some o→(∀c T fz,o≠.cells c T fz)∧∀m c,o≠.map m c){n:Nat}{c:Bl}(hn:g n=some c):ρ.b n≠b:=by
 rintro rfl
 have:=hm.ok n c hn
 cases c with
 |cl cs z op=>
  obtain⟨_,⟨T,fz,hb,_⟩,_⟩:=this
  exact (ho _ hb).1 _ _ _ rfl
 |mp es=>
  obtain⟨m,c,h1,h2⟩:=this
  exact (ho _ h1).2 _ _ rfl
end latb
section rng
variable (P:Program)(call:FuncId→List Value→St→fq)(ords:ra)(f gf:FuncId)
def b6S (fn:Func)(k:List Item)(env1:eH)(s5:St):fq:=match dA P fn.ntmps call f ords 20000 k s5 env1 with
 |some (td,env6,s6)=>match td with
  |[]=>mb P s6 env6 fn.results.toList
  | .code .ret::_=>mb P s6 env6 fn.results.toList
  |_=>none
 |none=>none
def b6T (fn:Func)(x y:Code)(k:List Item)(t0 t1:Nat)(z:Int)(env1:eH)(s1:St):fq:=
 env1.mL 20 t0 (some (.int .i64 0)) fun pY=>pY.mL 20 t1 (some (.int .i64 z)) fun env3=>match dA P fn.ntmps call f ords 20000 [.code x,.beginRound,.code y] s1 env3 with
  |some (.beginRound::k2,env4,s4)=>match dA P fn.ntmps call f ords 20000 k2 s4 env4 with
   |some ([],env5,s5)=>b6S P call ords f fn k env1 s5
   |_=>none
  |_=>none
def b6U (fn:Func)(g:Operand)(ps:Array Tmp)(x y:Code)(k:List Item)(env1:eH)(s1:St):fq:=
 match cY env1 g,ps.toList with
 |some (.func (.func g') f0 c0),[t0,t1]=>match Nat.beq g' gf,f0.toList,c0.toList,Nat.blt t0 fn.ntmps,Nat.blt t1 fn.ntmps with
  |true,[],[.pointer (some ⟨X,0,none⟩)],true,true=>match s1.rd ⟨X,0,none⟩ 1 with
   |some [.slice (some ⟨b,o,none⟩) 1 _]=>match s1.rd ⟨b,o,none⟩ 1 with
    |some [.int .i64 z]=>b6T P call ords f fn x y k t0 t1 z env1 s1
    |_=>none
   |_=>none
  |_,_,_,_,_=>none
 |_,_=>none
def a7d (fn:Func)(r:Option (List Item×eH×St)):fq:=match r with
 |some (.code (.rangeFunc g ps x y)::k,env1,s1)=>b6U P call ords f gf fn g ps x y k env1 s1
 |_=>none
def d2m (args:List Value)(s:St):fq:=match P.funcs.toList[f]? with
 |none=>none
 |some fn=>match fn.body,Nat.blt fn.ntmps 1000000,Nat.ble args.length fn.ntmps with
  |some c,true,true=>EB 0 args .lf fun env=>a7d P call ords f gf fn (dA P fn.ntmps call f ords 20000 [.code c] s env)
  |_,_,_=>none
end rng
section round
variable {P:Program}{call:FuncId→List Value→St→fq}
theorem a7e (hcall:cT P call)(hmix:P.follows .mixedOrders=true){f fr:FuncId}{N:Nat}(hN:N≤1000000){ords:ra}{l B lo:Nat}{tm:Array Value}{x y:Code}{W:World}{r:Loop}{s1 s4 s5:St}{env3 env4 env5:eH}{k2:List Item}
  {ρ0 ρ:Rn} {p0:Nat→Prop} {g0:Nat→Option Bl} {h0:Hp} (hL:ni B ρ0 p0 g0 h0 lo s1.nx ρ s1.get W.heap) (hlo:lo≤s1.nx) (hBl:B≤l) (hfr:lv s1) (he:ia (pn p0 lo s1.nx) env3) (ha:kE ρ env3 { tmps:=tm,defers:=[]}) (hsz:tm.size=N)
  (hrec:W.heap[l]? =some (.loop r)) (hr:r.state= .ready) (h4:dA P N call f ords 20000 [.code x,.beginRound,.code y] s1 env3=some (.beginRound::k2,env4,s4)) (h5:dA P N call f ords 20000 k2 s4 env4=some ([],env5,s5))
  (hp:∀n,s1.nx≤n→n<s5.nx→¬pn p0 lo s1.nx n):
  RoundIn Fence.wide 0 P l fr tm x y W fun e W'=>e= .returned (.bool true)∧Kept W W'∧W'.heap[l]? =some (.loop { r with state:=.ready,pending:=none})∧
   (∃ρ5,ni B ρ0 p0 g0 h0 lo s5.nx ρ5 s5.get W'.heap∧B0 (pn p0 lo s1.nx) ρ ρ5)∧∀d,d<W.heap.size→d≠l→(∀n c,s1.get n=some c→ρ.b n≠d)→W'.heap[d]? =W.heap[d]? :=by
 refine⟨trivial,fun c cs _=>?_⟩
 let b:Frame:={ (default:Frame) with fn:=fr,kind:=.normal,roundOf:=some l}
 have hb0:Frame.round l fr tm x y .normal=b.atR (nh [] { tmps:=tm,defers:=[]}) [.code x,.beginRound,.code y]:=by
  simp[Frame.round,Frame.atR,b,nh]
 have st4:=dq hcall hN _ _ h4
 have st5:=dq hcall hN _ _ h5
 have n4:=st4.nx
 have n5:=st5.nx
 obtain⟨td,a4,w4,⟨rfl,hk4,ρ4,L4,he4,ha4,hs4⟩,f2H⟩:=g7 (ro:=some l) (ds:=[]) hcall hmix hN 20000 _ hfr hL.mat he ha hsz h4 (fun n h1 h2=>hp n h1 (by omega)) b rfl rfl rfl (c::cs)
 have hlt:l<W.heap.size:=(Array.getElem?_eq_some_iff.1 hrec).1
 have hnl:∀n c,s1.get n=some c→ρ.b n≠l:=fun n c hn=>hL.mat.named (fun o ho=>by rw[hrec]at ho;cases ho;exact⟨fun _ _ _ h=>(by cases h),fun _ _ h=>(by cases h)⟩) hn
 have a7f:w4.heap[l]? =some (.loop r):=(L4.fr l hlt hnl).trans hrec
 have e4F:=stepR_beginRound (P:=P) (b:=b) (a:=nh [] a4) (k:=k2) (cs:=c::cs) rfl (run_beginRound a7f hr)
 have e4G:l<w4.heap.size:=(Array.getElem?_eq_some_iff.1 a7f).1
 have B4:=hL.then L4 hlo n4
 have e4H:∀n c,s4.get n=some c→ρ4.b n≠l:=fun n c hn=>L4.mat.named (fun o ho=>by rw[a7f]at ho;cases ho;exact⟨fun _ _ _ h=>(by cases h),fun _ _ h=>(by cases h)⟩) hn
 have B4':ni B ρ0 p0 g0 h0 lo s4.nx ρ4 s4.get (w4.putObj l (.loop { r with state:=.busy})).heap:=
  B4.a7c (by simpa using B4.size) (fun n c hn=>World.putObj_heap_other (e4H n c hn)) (fun d hd=>World.putObj_heap_other (by omega))
 have hmono:∀n,pn (pn p0 lo s1.nx) s1.nx s4.nx n→pn p0 lo s4.nx n:=by
  rintro n ((h|h)|h)
  ·exact .inl h
  ·exact .inr ⟨h.1,by omega⟩
  ·exact .inr ⟨by omega,h.2⟩
 obtain⟨td,a5,w5,⟨rfl,hk5,ρ5,L5,he5,ha5,hs5⟩,d2n⟩:=g7 (ro:=some l) (ds:=[]) (w:=w4.putObj l (.loop { r with state:=.busy})) hcall hmix hN 20000 _ (st4.fr hfr) B4'.mat (he4.mono hmono) ha4 (hs4.trans hsz) h5 (fun n h1 h2=>by
  rintro (h|h)
  ·exact hp n (by omega) h2 (.inl h)
  ·omega) b rfl rfl rfl (c::cs)
 have d2o:(w4.putObj l (.loop { r with state:=.busy})).heap[l]? =some (.loop { r with state:=.busy}):=World.putObj_heap_same e4G
 have a7g:w5.heap[l]? =some (.loop { r with state:=.busy}):=(L5.fr l (by simpa using e4G) e4H).trans d2o
 have hend:=run_endRound (P:=P) none a7g
 have e4I:=stepR_round_end (P:=P) (b:=b) (a:=nh [] a5) (c:=c) (cs:=cs) rfl rfl hend
 have B5:=B4'.then L5 (by omega) n5
 have f2I:l<w5.heap.size:=(Array.getElem?_eq_some_iff.1 a7g).1
 have f2J:∀n c,s5.get n=some c→ρ5.b n≠l:=fun n c hn=>L5.mat.named (fun o ho=>by rw[a7g]at ho;cases ho;exact⟨fun _ _ _ h=>(by cases h),fun _ _ h=>(by cases h)⟩) hn
 refine⟨.returned (.bool true),w5.putObj l (.loop { r with state:=.ready,pending:=none}),⟨rfl,?_,World.putObj_heap_same f2I,⟨ρ5,B5.a7c (by simpa using B5.size) (fun n c hn=>World.putObj_heap_other (f2J n c hn)) (fun d hd=>World.putObj_heap_other (by omega)),?_⟩,?_⟩,stepsIn_wide.2 ?_⟩
 ·exact hk4.trans (hk5)
 ·intro n hn
  have h1:¬(s1.nx≤n∧n<s4.nx):=fun h=>hp n h.1 (by omega) hn
  have h2:¬(s4.nx≤n∧n<s5.nx):=fun h=>hp n (by omega) h.2 hn
  exact⟨(L5.wZ n h2).1.trans (L4.wZ n h1).1,(L5.wZ n h2).2.trans (L4.wZ n h1).2⟩
 ·intro d hd hdl hno
  rw[World.putObj_heap_other hdl,L5.fr d,World.putObj_heap_other hdl,L4.fr d hd hno]
  ·have:=L4.size
   simp only[World.putObj_size];omega
  ·intro n c hn he
   rcases L4.own n c hn with ⟨m,e,hm,hme⟩|hge
   ·exact hno m e hm (hme.trans he)
   ·omega
 ·rw[hb0]
  exact Steps.trans f2H (.head e4F (Steps.trans d2n (.one e4I)))
end round
end
end Go.Sb
end
section
set_option maxRecDepth 100000
namespace Go.Proofs.YtnpinhahjgbigaaGreatDoor
open Go Go.Sb
noncomputable section
theorem Av {α:Type}(a:Array α)(i j:Nat)(v:α):(a.setIfInBounds i v)[j]? =if i=j then (if j<a.size then some v else none) else a[j]? :=by
 rw[Array.getElem?_setIfInBounds]
 split
 ·rename_i h;subst h;rfl
 ·rfl
theorem d2p {call:FuncId→List Value→St→fq}{ords:ra}(hcall:cT Tryz.prog call){f:FuncId}{fn:Func}{c:Code}(hfn:Tryz.prog.funcs[f]? =some fn)(hb:fn.body=some c)(hN:fn.ntmps<1000000)
  (hname:(fn.name == "runtime.NumGoroutine")=false)
  {args:List Value} {env0 env1 env3 env4 env5 env6:eH} {s s1 s4 s5 s6 s':St} {g:Operand} {ps:Array Tmp} {x y:Code} {k k2 td:List Item} {X b o cp:Nat} {z:Int} {t0 t1:Nat} {v:Value} {f0 c0:Array Value}
  (hl:args.length≤fn.ntmps) (henv0:∀i v,env0.get i=some v→args[i]? =some v)
  (r1:dA Tryz.prog fn.ntmps call f ords 20000 [.code c] s env0=some (.code (.rangeFunc g ps x y)::k,env1,s1))
  (hg:cY env1 g=some (.func (.func 300) f0 c0)) (hf0:f0.toList=[]) (hc0:c0.toList=[.pointer (some ⟨X,0,none⟩)])
  (hps:ps.toList=[t0,t1]) (ht0:t0<fn.ntmps) (ht1:t1<fn.ntmps)
  (hX:s1.rd ⟨X,0,none⟩ 1=some [.slice (some ⟨b,o,none⟩) 1 cp]) (hz:s1.rd ⟨b,o,none⟩ 1=some [.int .i64 z])
  (henv3:∀i,env3.get i=if i=t1 then some (.int .i64 z) else if i=t0 then some (.int .i64 0) else env1.get i)
  (r4:dA Tryz.prog fn.ntmps call f ords 20000 [.code x,.beginRound,.code y] s1 env3=some (.beginRound::k2,env4,s4))
  (r5:dA Tryz.prog fn.ntmps call f ords 20000 k2 s4 env4=some ([],env5,s5))
  (r6:dA Tryz.prog fn.ntmps call f ords 20000 k s5 env1=some (td,env6,s6)) (htd:td=[]∨∃k',td= .code .ret::k')
  (rv:mb Tryz.prog s6 env6 fn.results.toList=some (v,s')) {ρ:Rn} {p:Nat→Prop} {h:Hp}
  (hfr:lv s) (hm:lp ρ p s.get h) (hs:∀x∈args,dI p x) (hnp:∀n,s.nx≤n→n<s'.nx→¬p n):Nf Tryz.prog f (args.map (bk ρ)).toArray h (Out ρ p s h v s'):=by
 have hmix:Tryz.prog.follows .mixedOrders=true:=by kernel_rfl
 have hN':fn.ntmps≤1000000:=by omega
 have st1:=dq hcall hN' _ _ r1
 have st4:=dq hcall hN' _ _ r4
 have st5:=dq hcall hN' _ _ r5
 have st6:=dq hcall hN' _ _ r6
 have n1:=st1.nx
 have n4:=st4.nx
 have n5:=st5.nx
 have n6:=st6.nx
 refine Nf.AH (c:=c) ?_ hfn hb fun w hw=>?_
 ·intro args w
  unfold callFunc
  simp only[program,Sem.run_bind]
  show (match Tryz.prog.funcs[f]? with
   |none=>_
   |some fn=>_:Sem Next).run Tryz.prog w=_
  rw[hfn]
  simp only[hname,hb,Option.isNone_some,Bool.false_eq_true,if_false]
  rfl
 subst hw
 have s6s:s'=s6:=by
  unfold mb at rv
  split at rv<;>first|(cases rv;rfl)|cases rv
 subst s6s
 have fr:∀n,s1.nx≤n→n<s'.nx→¬pn p s.nx s1.nx n:=by
  rintro n h1 h2 (h3|h3)
  ·exact hnp n (by omega) h2 h3
  ·omega
 intro bb hbb hkk cs
 obtain⟨b',hb'⟩:∃b':Frame,b'={ bb with roundOf:=none}:=⟨_,rfl⟩
 have e0:∀a todo,bb.at a todo=b'.atR (nh [] a) todo:=fun a todo=>by simp[Frame.at,Frame.atR,nh,hb']
 have hb1:b'.fn=f:=by rw[hb'];exact hbb
 have hb2:b'.kind= .normal:=by rw[hb'];exact hkk
 have hb3:b'.roundOf=none:=by rw[hb']
 rw[e0]
 have ha0:kE ρ env0 { tmps:=(args.map (bk ρ)).toArray++Array.replicate (fn.ntmps-(args.map (bk ρ)).toArray.size) undef,defers:=[]}:=by
  refine⟨fun i v hi=>?_,rfl⟩
  have h3:=henv0 i v hi
  have h4:i<args.length:=(List.getElem?_eq_some_iff.1 h3).1
  simp only
  rw[Array.getElem?_append_left (by simpa using h4)]
  simp[h3]
 obtain⟨td1,a1,w1,⟨rfl,hk1,ρ1,L1,he1,ha1,hs1⟩,run1⟩:=g7 (fr:=f) (ro:=none) (ds:=[]) hcall hmix hN' 20000 _ hfr hm (fun i v hi=>hs v (List.mem_of_getElem? (henv0 i v hi))) ha0 (by simp;omega) r1 (fun n h1 h2=>hnp n h1 (by omega)) b' hb1 hb2 hb3 cs
 have hsz1:a1.tmps.size=fn.ntmps:=hs1.trans (by simp;omega)
 have hrange:(Code.rangeFunc g ps x y).wpIn Fence.wide 2 Tryz.prog (fun e a' w'=>e= .normal∧a'=nh [{ target:=.collected w1.heap.size,args:= #[]}] a1∧Kept w1 w'∧w'.heap[w1.heap.size]? =some (.deferred (some []))∧
   ∃ρ5,ni w1.heap.size ρ1 (pn p s.nx s1.nx) s1.get w1.heap s1.nx s5.nx ρ5 s5.get w'.heap∧B0 (pn p s.nx s1.nx) ρ1 ρ5) a1 w1:=by
  refine wpIn_rangeFunc fun fn' _=>?_
  obtain⟨rec,hrec⟩:∃rec:LoopState→Loop,rec=fun st=>{ state:=st,pending:=none,fn:=fn',tmps:=a1.tmps,params:=ps,assign:=x,body:=y,defers:=w1.heap.size}:=⟨_,rfl⟩
  obtain⟨W,hW⟩:∃W,(w1.alloc (.deferred (some []))).alloc (.loop (rec .ready))=W:=⟨_,rfl⟩
  have hWl:W.heap[w1.heap.size+1]? =some (.loop (rec .ready)):=by
   rw[←hW];have:=World.alloc_heap_new (w1.alloc (.deferred (some []))) (.loop (rec .ready));rwa [World.size_alloc]at this
  have hWh:W.heap=(w1.heap.push (.deferred (some []))).push (.loop (rec .ready)):=by rw[←hW];rfl
  have hWD:W.heap[w1.heap.size]? =some (.deferred (some [])):=by
   rw[hWh,Array.getElem?_push,if_neg (by simp),Array.getElem?_push,if_pos rfl]
  have hWlow:∀d,d<w1.heap.size→W.heap[d]? =w1.heap[d]? :=fun d hd=>by
   rw[hWh,Array.getElem?_push,if_neg (by simp;omega),Array.getElem?_push,if_neg (by omega)]
  have hWs:W.heap.size=w1.heap.size+2:=by rw[hWh];simp
  have hkW:Kept w1 W:=by rw[←hW];exact⟨rfl,rfl,rfl⟩
  have B1:ni w1.heap.size ρ1 (pn p s.nx s1.nx) s1.get w1.heap s1.nx s1.nx ρ1 s1.get W.heap:=(ni.refl L1.mat s1.nx).a7c (by omega) (fun n d hn=>hWlow _ (L1.mat.ok n d hn).lt) hWlow
  have hg':a1.eval g= .func (.func 300) #[] #[.pointer (some (ρ1.a ⟨X,0,none⟩))]:=by
   have:=bQ ha1 hg
   rw[gL]at this
   rw[this]
   have e1:f0= #[]:=by apply Array.ext';rw[hf0]
   have e2:c0= #[.pointer (some ⟨X,0,none⟩)]:=by apply Array.ext';rw[hc0]
   subst e1;subst e2
   simp[dS]
  have hps':ps= #[t0,t1]:=by apply Array.ext';rw[hps]
  refine⟨w1.heap.size+1,[{ target:=.collected w1.heap.size,args:= #[]}],W,{ target:=.fn (.func 300) #[.pointer (some (ρ1.a ⟨X,0,none⟩))],args:= #[.func (.yield (w1.heap.size+1)) #[] #[]]},W,300,
   #[.func (.yield (w1.heap.size+1)) #[] #[]]++ #[.pointer (some (ρ1.a ⟨X,0,none⟩))],W,?_,?_,?_,?_,fun h=>(by cases h),?_⟩
  ·rw[←hW,hrec];exact run_enterLoop_outer _ _ _ _ _
  ·simp only[resolve,hg']
   simp[go_sem]
  ·intro f' _;trivial
  ·simp[invoke,go_sem,enters_of Tryz.func300 (by kernel_rfl) rfl]
  ·have c1:=oD B1.mat hX
   have c2:=oD B1.mat hz
   have cX:W.cell? ⟨ρ1.b X,0,none⟩=some (.slice (some ⟨ρ1.b b,o,none⟩) 1 (ρ1.c ⟨b,o,none⟩ cp)):=by
    have:=mP c1.1
    rw[eQ]at this
    exact this
   have cz:W.cell? ⟨ρ1.b b,o,none⟩=some (.int .i64 z):=by
    have:=mP c2.1
    rw[bY]at this
    exact this
   refine (b4P (w1.heap.size+1) (ρ1.b X) (ρ1.b b) o 1 (ρ1.c ⟨b,o,none⟩ cp) (fun _=>z) (by decide)
    (fun k W'=>(k=1∧W'=W)∨(k=0∧Kept W W'∧W'.heap[w1.heap.size+1]? =some (.loop (rec .ready))∧W'.heap[w1.heap.size]? =some (.deferred (some []))∧
     ∃ρ5,ni w1.heap.size ρ1 (pn p s.nx s1.nx) s1.get w1.heap s1.nx s5.nx ρ5 s5.get W'.heap∧B0 (pn p s.nx s1.nx) ρ1 ρ5)) ?_ ?_ W cX (.inl ⟨rfl,rfl⟩)).mono ?_
   ·rintro k W' (⟨h1,rfl⟩|⟨h1,_⟩)
    ·refine⟨cX,fun j hj=>?_⟩
     obtain rfl:j=0:=by omega
     exact cz
    ·omega
   ·rintro k W' (⟨h1,rfl⟩|⟨h1,_⟩) _
    ·obtain rfl:k=0:=by omega
     have hsz:((ps.zip #[Value.int .i64 ((0:Nat):Int),.int .i64 z]).foldl (fun tmps (t,a)=>tmps.setIfInBounds t a) a1.tmps)=(a1.tmps.setIfInBounds t0 (.int .i64 0)).setIfInBounds t1 (.int .i64 z):=by
      rw[hps']
      have:(#[t0,t1].zip #[Value.int .i64 ((0:Nat):Int),.int .i64 z])= #[(t0,.int .i64 0),(t1,.int .i64 z)]:=by
       apply Array.ext';simp
      rw[this,←Array.foldl_toList]
      rfl
     refine⟨fn',(a1.tmps.setIfInBounds t0 (.int .i64 0)).setIfInBounds t1 (.int .i64 z),x,y,?_,?_⟩
     ·have hy:=run_yield (P:=Tryz.prog) (args:= #[.int .i64 ((0:Nat):Int),.int .i64 z]) hWl (by rw[hrec,hps'];rfl)
      rw[hrec]at hy
      simp only[hsz]at hy
      exact hy
     ·refine (a7e (fr:=fn') hcall hmix hN' B1 (Nat.le_refl _) (Nat.le_succ _) (st1.fr hfr) ?_ ?_ (N:=fn.ntmps) (by simpa using hsz1) hWl (by rw[hrec]) r4 r5 (fun n h1 h2=>?_)).mono ?_
      ·intro i u hi
       rw[henv3]at hi
       split at hi
       ·cases hi;exact fun ρ ρ' _=>by rw[bY,bY]
       ·split at hi
        ·cases hi;exact fun ρ ρ' _=>by rw[bY,bY]
        ·exact (he1 i u hi).mono fun _=>.inl
      ·refine⟨fun i u hi=>?_,rfl⟩
       rw[henv3]at hi
       simp only
       rw[Av,Av]
       split at hi
       ·rename_i e;subst e;cases hi
        rw[if_pos rfl,if_pos (by simp;omega),bY]
       ·rename_i e1
        rw[if_neg (fun h=>e1 h.symm)]
        split at hi
        ·rename_i e;subst e;cases hi
         rw[if_pos rfl,if_pos (by omega),bY]
        ·rename_i e2
         rw[if_neg (fun h=>e2 h.symm)]
         exact ha1.at_ i u hi
      ·rintro (h3|h3)
       ·exact fr n h1 (by omega) h3
       ·omega
      ·rintro e W2 ⟨rfl,hk,hl2,⟨ρ5,B5,hag⟩,hoth⟩
       refine⟨rfl,.inr ⟨rfl,hk,?_,?_,ρ5,B5,fun n hn=>hag n (.inl hn)⟩⟩
       ·rw[hl2,hrec]
       ·rw[hoth _ (by omega) (by omega) (fun n d hn=>?_),hWD]
        have:=(L1.mat.ok n d hn).lt
        omega
    ·omega
   ·rintro e W3 ⟨⟨u,rfl⟩,(⟨h1,_⟩|⟨_,hk3,hl3,hD3,ρ5,B5,hag⟩)⟩
    ·cases h1
    ·refine⟨none,W3.putObj (w1.heap.size+1) (.loop (rec .exhausted)),?_,rfl,?_,?_,?_,ρ5,?_,hag⟩
     ·have:=run_endLoop (P:=Tryz.prog) hl3 (by rw[hrec];simp)
      rw[hrec]at this ⊢
      exact this
     ·simp[nh,ha1.defers]
     ·exact hkW.trans hk3
     ·rw[World.putObj_heap_other (by omega)];exact hD3
     ·refine B5.a7c (by simpa using B5.size) (fun n d hn=>World.putObj_heap_other ?_) (fun d hd=>World.putObj_heap_other (by omega))
      exact B5.mat.named (fun o ho=>by rw[hl3]at ho;cases ho;exact⟨fun _ _ _ h=>(by cases h),fun _ _ h=>(by cases h)⟩) hn
 obtain⟨e,a',w5,⟨rfl,rfl,hk5,hD5,ρ5,B5,hag5⟩,harr⟩:=hrange b' k cs hb3 trivial (room_wide _)
 have run2:Steps Tryz.prog (lone (b'.atR (nh [] a1) (.code (.rangeFunc g ps x y)::k)) cs w1) (lone (b'.atR (nh [{ target:=.collected w1.heap.size,args:= #[]}] a1) k) cs w5):=by
  rw[b4Q];exact StepsIn.steps harr
 obtain⟨td6,a6,w6,⟨rfl,hk6,ρ6,L6,he6,ha6,hs6⟩,run3⟩:=g7 (fr:=f) (ro:=none) (ds:=[{ target:=.collected w1.heap.size,args:= #[]}]) (w:=w5) hcall hmix hN' 20000 _ (st5.fr (st4.fr (st1.fr hfr))) B5.mat (he1.mono fun _=>.inl) (ha1.wZ he1 hag5) hsz1 r6 (fun n h1 h2=>by
  rintro (h3|h3)
  ·exact fr n (by omega) h2 h3
  ·omega) b' hb1 hb2 hb3 cs
 have hD6n:∀n d,s5.get n=some d→ρ5.b n≠w1.heap.size:=fun n d hn=>B5.mat.named (fun o ho=>by rw[hD5]at ho;cases ho;exact⟨fun _ _ _ h=>(by cases h),fun _ _ h=>(by cases h)⟩) hn
 have hD6:w6.heap[w1.heap.size]? =some (.deferred (some [])):=(L6.fr _ (Array.getElem?_eq_some_iff.1 hD5).1 hD6n).trans hD5
 have htake:=run_takeDeferred (P:=Tryz.prog) hD6
 have B6:=B5.then L6 (by omega) n6
 have hD6n':∀n d,s'.get n=some d→ρ6.b n≠w1.heap.size:=fun n d hn=>L6.mat.named (fun o ho=>by rw[hD6]at ho;cases ho;exact⟨fun _ _ _ h=>(by cases h),fun _ _ h=>(by cases h)⟩) hn
 have B7:ni w1.heap.size ρ1 (pn p s.nx s1.nx) s1.get w1.heap s1.nx s'.nx ρ6 s'.get (w6.putObj w1.heap.size (.deferred none)).heap:=
  B6.a7c (by simpa using B6.size) (fun n d hn=>World.putObj_heap_other (hD6n' n d hn)) (fun d hd=>World.putObj_heap_other (by omega))
 have hmono:∀n,pn (pn p s.nx s1.nx) s1.nx s'.nx n→pn p s.nx s'.nx n:=by
  rintro n ((h|h)|h)
  ·exact .inl h
  ·exact .inr ⟨h.1,by omega⟩
  ·exact .inr ⟨by omega,h.2⟩
 obtain⟨_,hvS,hres⟩:=tI (fn:=fn) (w:=w6.putObj w1.heap.size (.deferred none)) B7.mat (he6.mono (q:=pn (pn p s.nx s1.nx) s1.nx s'.nx) (by
  rintro n ((h|h)|h)
  ·exact .inl h
  ·exact .inr ⟨h.1,by omega⟩
  ·exact .inr ⟨by omega,h.2⟩)) ha6 rv
 have fin:∀fr1:Frame,fr1={ b'.atR (nh [{ target:=.collected w1.heap.size,args:= #[]}] a6) td6 with mode:=.returning}→step Tryz.prog (lone (b'.atR (nh [{ target:=.collected w1.heap.size,args:= #[]}] a6) td6) cs w6)= .next (lone fr1 cs w6)→
   ∃v' w' fr2,Out ρ p s w.heap v s' v' w'.heap∧Kept w w'∧Steps Tryz.prog (lone (b'.atR (nh [] { tmps:=(args.map (bk ρ)).toArray++Array.replicate (fn.ntmps-(args.map (bk ρ)).toArray.size) undef,defers:=[]}) [.code c]) cs w) (lone fr2 cs w')∧fr2.fn=f∧fr2.leaving Tryz.prog w' (.returned v'):=by
  rintro fr1 rfl hstep
  have hcol:=step_collected (P:=Tryz.prog) (fr:={ b'.atR (nh [{ target:=.collected w1.heap.size,args:= #[]}] a6) td6 with mode:=.returning}) (cs:=cs) (w:=w6) (d:={ target:=.collected w1.heap.size,args:= #[]}) (r:=w1.heap.size) (ds:=[]) (calls:=[]) (by simp) (by simp[Frame.atR,nh,ha6.defers]) rfl htake
  refine⟨bk ρ6 v,w6.putObj w1.heap.size (.deferred none),_,⟨ρ6,rfl,L1.trans B7.lat n1 (by omega),hvS.mono hmono⟩,?_,Steps.trans run1 (Steps.trans run2 (Steps.trans run3 (.head hstep (.one hcol)))),?_,?_⟩
  ·exact hk1.trans (hk5.trans hk6)
  ·simp[Frame.atR,hb1]
  ·refine⟨rfl,by simp,by simp[Frame.atR,hb2],fn,by simpa[Frame.atR,hb1]using hfn,hres⟩
 rcases htd with rfl|⟨k',rfl⟩
 ·exact fin _ rfl (stepR_end hb3)
 ·exact fin _ rfl (stepR_ret hb3)
theorem b4S {call:FuncId→List Value→St→fq}{ords:ra}(hcall:cT Tryz.prog call):cT Tryz.prog fun g args s=>if g=183 then d2m Tryz.prog call ords 183 300 args s else none:=by
 intro g args s v s' h
 by_cases hg:g=183
 case neg=>simp[hg]at h
 subst hg
 simp only[if_true]at h
 unfold d2m at h
 split at h
 ·cases h
 rename_i fn hfn
 rw[Array.getElem?_toList]at hfn
 have hname:(fn.name == "runtime.NumGoroutine")=false:=by
  rw[Tryz.func183]at hfn
  cases hfn
  kernel_rfl
 split at h
 ·rename_i c hb hn hl
  have hn:fn.ntmps<1000000:=Nat.le_of_ble_eq_true hn
  have hl:=Nat.le_of_ble_eq_true hl
  obtain⟨env0,h1,h2⟩:=qc 0 args (.lf:eH) (fun env=>a7d Tryz.prog call ords 183 300 fn (dA Tryz.prog fn.ntmps call 183 ords 20000 [.code c] s env)) (by omega)
  rw[h1]at h
  have henv0:∀i v,env0.get i=some v→args[i]? =some v:=by
   intro i v hi
   rw[h2]at hi
   split at hi
   ·simpa using hi
   ·simp[Tr.pV]at hi
  unfold a7d at h
  split at h
  ·rename_i g ps x y k env1 s1 r1
   unfold b6U at h
   split at h
   ·rename_i g' f0 c0 t0 t1 hg hps
    split at h
    ·rename_i X hgf hf0 hc0 ht0 ht1
     have hgf:=Nat.eq_of_beq_eq_true hgf
     subst hgf
     split at h
     ·rename_i b o cp hX
      split at h
      ·rename_i z hz
       unfold b6T at h
       rw[Tr.dn,Tr.dn]at h
       have ht0:t0<fn.ntmps:=Nat.le_of_ble_eq_true ht0
       have ht1:t1<fn.ntmps:=Nat.le_of_ble_eq_true ht1
       split at h
       ·rename_i k2 env4 s4 r4
        split at h
        ·rename_i env5 s5 r5
         unfold b6S at h
         split at h
         ·rename_i td env6 s6 r6
          have key:(td=[]∨∃k',td= .code .ret::k')∧mb Tryz.prog s6 env6 fn.results.toList=some (v,s'):=by
           split at h
           ·exact⟨.inl rfl,h⟩
           ·exact⟨.inr ⟨_,rfl⟩,h⟩
           ·cases h
          have hN':fn.ntmps≤1000000:=by omega
          have s6s:s'=s6:=by
           have rv:=key.2
           unfold mb at rv
           split at rv<;>first|(cases rv;rfl)|cases rv
          have st:=(dq hcall hN' _ _ r1).trans ((dq hcall hN' _ _ r4).trans ((dq hcall hN' _ _ r5).trans (dq hcall hN' _ _ r6)))
          refine⟨s6s ▸ st,fun ρ p hp hfr hm hs hnp=>?_⟩
          exact d2p hcall hfn hb hn hname hl henv0 r1 hg hf0 hc0 hps ht0 ht1 hX hz (fun i=>by
           rw[Tr.kC _ _ _ (Nat.lt_trans ht1 hn),Tr.kC _ _ _ (Nat.lt_trans ht0 hn)]) r4 r5 r6 key.1 key.2 hfr hm hs hnp
         ·cases h
        ·cases h
       ·cases h
      ·cases h
     ·cases h
    ·cases h
   ·cases h
  ·cases h
 ·cases h
end
end Go.Proofs.YtnpinhahjgbigaaGreatDoor
end
section
set_option maxRecDepth 1000000
namespace Go.Proofs.YtnpinhahjgbigaaGreatDoor
open Go Go.Sb
noncomputable section
def b4T (f:FuncId):Option (List Value→St→fq):=
 match Nat.beq f 266,Nat.beq f 261,Nat.beq f 122 with
 |true,_,_=>some xIdx
 |_,true,_=>some d2k
 |_,_,true=>some d2l
 |_,_,_=>none
def ords:ra:=[(297,25,[0,2,1,3]),(10,8,[2,3,4,0,1,5,6,7,8]),(156,2,[0,6,7,1,8,9,2,3,10,11,4,5,12,13])]
def d2q (f:FuncId):Option (List Value→St→fq):=
 match Nat.beq f 183 with
 |true=>some (d2m Tryz.prog (wW Tryz.prog ords b4T 30) ords 183 300)
 |false=>b4T f
def s0:St:=⟨.lf,8,[],[]⟩
def isT:fq→Bool
 |some (.bool true,_)=>true
 |_=>false
theorem e4J:isT (wW Tryz.prog ords d2q 60 7 [] s0)=true:=by kernel_rfl
theorem b4U:(Tryz.prog.funcs.toList.all fun fn=> !(fn.name == "runtime.NumGoroutine"))=true:=by kernel_rfl
theorem E2 (f:Nat)(fn:Func)(h:Tryz.prog.funcs[f]? =some fn):(fn.name == "runtime.NumGoroutine")=false:=by
 have:=b4U
 rw[List.all_eq_true]at this
 rw[←Array.getElem?_toList]at h
 have:=this fn (List.mem_of_getElem? h)
 simpa using this
theorem KN (f:FuncId)(x:List Value→St→fq)(h:b4T f=some x):cT Tryz.prog fun g args s=>if g=f then x args s else none:=by
 unfold b4T at h
 split at h
 ·rename_i h1;cases h;obtain rfl:=Nat.eq_of_beq_eq_true h1;exact b4M
 ·rename_i h1 _;cases h;obtain rfl:=Nat.eq_of_beq_eq_true h1;exact b4N
 ·rename_i h1 _ _;cases h;obtain rfl:=Nat.eq_of_beq_eq_true h1;exact b4O
 ·cases h
theorem b4V (f:FuncId)(x:List Value→St→fq)(h:d2q f=some x):cT Tryz.prog fun g args s=>if g=f then x args s else none:=by
 unfold d2q at h
 split at h
 ·rename_i h1
  cases h
  obtain rfl:=Nat.eq_of_beq_eq_true h1
  exact b4S (xm (by kernel_rfl) E2 KN 30)
 ·exact KN f x h
theorem a7h (h0:Hp):Nf Tryz.prog 7 #[] h0 fun v h'=>v= .bool true∧ck h0.size h0 h':=by
 have hc:=e4J
 unfold isT at hc
 split at hc
 ·rename_i s' hs
  obtain⟨_,h2⟩:=xm (by kernel_rfl) E2 b4V 60 7 [] s0 (.bool true) s' hs
  have hg:∀n,s0.get n=none:=fun n=>rfl
  have:=h2 ⟨fun _=>0,fun _=>0⟩ (fun _=>False) h0 (fun n _=>rfl) ⟨(fun n b hn=>(Option.some_ne_none b (hn.symm.trans (hg n))).elim),(fun n m b c hn=>(Option.some_ne_none b (hn.symm.trans (hg n))).elim),(fun n b hn=>(Option.some_ne_none b (hn.symm.trans (hg n))).elim)⟩ (fun _ h=>by cases h) (fun _ _ _ h=>h)
  refine this.mono ?_
  rintro v h' ⟨ρ',rfl,L,_⟩
  exact⟨by rw[eZ],L.size,fun b hb=>L.fr b hb fun n c hn=>(Option.some_ne_none c (hn.symm.trans (hg n))).elim⟩
 ·cases hc
end
end Go.Proofs.YtnpinhahjgbigaaGreatDoor
end
section
namespace Go.Proofs.YtnpinhahjgbigaaGreatDoor
open Go Go.Sb
structure PJ where
 t:Nat
 at_:Nat
 rest:Int
 regions:Int
 aU:Int
 left:Int
 dL:Bool
 fault:Bool
 over:Bool
structure dD where
 j:PJ
 rep:Nat
 kR:Bool
structure IF where
 at_:Int
 kind:Int
 task:Int
 TR:Int
 op:Int
 code:Int
 val:Int
structure nj where
 task:Int
 TR:Int
 rel:Int
 start:Int
 end_:Int
 fault:Bool
 nT:Int
 xq:Int
 bT:Int
 held:Int
 base:Int
structure KS where
 now:Int
 ev:List dy
 ord:Int
 cache:List (List Int)
 boxes:List (Nat×List Int)
 groups:List Int
 counts:List (Int×Int)
 aD:List LCei.Lk
 lines:List (Bool×Bool)
 ready:List PQ
 aR:List dD
 cr:Int
 reps:List nj
 pl:List (cA×Nat)
 tr:List IF
def bS (C:bw)(i:Nat):cx:=C.tasks.getD i ⟨0,0,0,0,0,0,[]⟩
def iI (C:bw)(i:Nat):PJ:=⟨i,0,0,0,0,if (0:Int)>(bS C i).fl then 0 else (bS C i).fl,false,false,(bS C i).ops.length == 0⟩
def Fv (C:bw)(j:PJ):Option dG:=if j.over||decide (j.rest>0) then none else (bS C j.t).ops[j.at_]?
def jDo (C:bw)(j:PJ)(o:dG):PJ:=
 if o.k == 3 then { j with regions:=j.regions+1} else
 if o.k == 4 then { j with regions:=if (0:Int)>j.regions-1 then 0 else j.regions-1} else
 if o.k == 7 then (if j.aU+o.a>(bS C j.t).fr then { j with fault:=true,rest:=1} else { j with aU:=j.aU+o.a}) else
 if o.k == 8 then { j with aU:=if (0:Int)>j.aU-o.a then 0 else j.aU-o.a} else j
def cU (C:bw)(j:PJ)(o:dG)(cost:Int):PJ:=jDo C { j with rest:=if (1:Int)>cost then 1 else cost} o
def eJ (C:bw)(j:PJ)(n:Int):PJ:=
 let j1:PJ:={ j with rest:=j.rest-n,left:=if j.dL then (if (0:Int)>j.left-n then 0 else j.left-n) else j.left}
 if j1.rest == 0 then { j1 with at_:=j1.at_+1,over:=j1.fault||(j1.at_+1 == (bS C j1.t).ops.length)} else j1
def cV (s:KS)(kind at_:Int)(rep:Nat)(op code val:Int):KS:=match s.reps[rep]? with
 |some x=>{ s with tr:=s.tr++[⟨at_,kind,x.task,x.TR,op,code,val⟩]}
 |none=>s
def bO (s:KS)(t:Nat):KS:=match s.ready[t]? with
 |none=>s
 |some y=>if y.q.length=4 then { s with ready:=s.ready.set t (jV y t s.now),tr:=s.tr++[⟨s.now,2,t,y.nx,0,7,0⟩]} else
  { s with ready:=s.ready.set t (jV y t s.now),pl:=s.pl++[(⟨t,y.nx,s.now⟩,s.reps.length)],reps:=s.reps++[⟨t,y.nx,s.now,-1,-1,false,0,0,0,0,-1⟩],tr:=s.tr++[⟨s.now,1,t,y.nx,0,0,0⟩]}
def dV (C:bw)(s:KS)(line:Int)(is:Bool):KS:=if is then bO s (C.lines.getD line.toNat 0).toNat else s
def a7i (s:KS)(e:iO):KS:={ s with ev:=oJ ⟨e,s.ord⟩ s.ev,ord:=s.ord+1}
def dr (C:bw)(s:KS)(e:iO):KS:=
 if e.k == 1 then bO s e.a.toNat else
 if e.k == 2 then dV C { s with lines:=LLin.kP s.lines e.a ((LLin.gK s.lines e.a).1,(LLin.gK s.lines e.a).1)} e.a (!(LLin.gK s.lines e.a).1) else
 if e.k == 3 then { s with lines:=LLin.kP s.lines e.a (true,(LLin.gK s.lines e.a).2)} else
 if e.k == 4 then dV C { s with lines:=LLin.kP s.lines e.a (false,false)} e.a (LLin.gK s.lines e.a).2 else
 if e.k == 5 then (if e.c>1 then a7i (bO s e.a.toNat) ⟨e.t+e.b,e.k,e.a,e.b,e.c-1⟩ else bO s e.a.toNat) else s
def eS (C:bw)(s:KS):KS:=((s.ev.takeWhile fun x=>decide (x.e.t≤s.now)).map (·.e)).foldl (dr C) { s with ev:=s.ev.dropWhile fun x=>decide (x.e.t≤s.now)}
def eT (C:bw)(s:KS)(a:dD):Int:=if a.j.regions>0 then 64 else LCei.nJ s.aD (bS C a.j.t).th (LCei.bL s.aD a.rep s.aD.length)
def sA (ys:List PQ)(i:Nat):Bool:=match ys[i]? with
 |some y=> !y.q.isEmpty&&ys.all fun z=>z.q.isEmpty||decide (z.pr≤y.pr)
 |none=>false
def o6 (ys:List PQ):Option Nat:=(List.range ys.length).find? (sA ys)
def jC (x:cA):List (cA×Nat)→Nat
 |[]=>0
 |p::l=>if p.1.t=x.t∧p.1.n=x.n∧p.1.a=x.a then p.2 else jC x l
def g8 (x:cA):List (cA×Nat)→List (cA×Nat)
 |[]=>[]
 |p::l=>if p.1.t=x.t∧p.1.n=x.n∧p.1.a=x.a then l else p::g8 x l
def iJ (C:bw)(l:List dD):List (Int×Int):=l.reverse.map fun a=>((a.rep:Int),(bS C a.j.t).fr)
def depth (C:bw)(l:List dD):Int:=LFrame.du (iJ C l)
def eU (C:bw)(s:KS):KS:=match o6 s.ready with
 |none=>s
 |some i=>match s.ready[i]? with
  |none=>s
  |some y=>match y.q with
   |[]=>s
   |x::q=>cV { s with ready:=s.ready.set i ⟨y.pr,y.nx,q⟩,pl:=g8 x s.pl,cr:=max s.cr (depth C s.aR+(bS C i).fr),reps:=s.reps.modify (jC x s.pl) (fun r=>{ r with start:=s.now,base:=depth C s.aR}),aR:=⟨iI C i,jC x s.pl,false⟩::s.aR} 3 s.now (jC x s.pl) 0 0 (depth C s.aR)
def fE (s:KS):KS:=match s.aR with
 |[]=>s
 |a::l=>if a.kR then cV { s with aR:={ a with kR:=false}::l} 5 s.now a.rep 0 0 0 else s
def qd (C:bw)(s:KS)(a:dD):Bool:=match o6 s.ready with
 |some i=>decide ((bS C i).pr>eT C s a)
 |none=>false
def bt (C:bw)(s:KS):KS×Bool:=match s.aR with
 |[]=>(eU C s,false)
 |a::l=>if qd C s a then
   (if a.j.over||a.j.left == 0 then (eU C (cV { s with aR:={ a with kR:=true}::l,reps:=s.reps.modify a.rep fun r=>{ r with nT:=IntKind.i64.wrap (r.nT+1)}} 4 s.now a.rep 0 0 0),false)
    else (fE { s with aR:={ a with j:={ a.j with dL:=true}}::l},true))
  else (fE s,false)
def bX (s:KS)(who:Nat)(o:dG):Int×Int×Bool×KS:=
 if o.k == 5 then ((LCei.ld s.aD o.a.toNat who).1,0,true,{ s with aD:=(LCei.ld s.aD o.a.toNat who).2}) else
 if o.k == 6 then ((LCei.cO s.aD o.a.toNat who).1,0,true,{ s with aD:=(LCei.cO s.aD o.a.toNat who).2}) else
 if o.k == 9 then (match s.boxes[o.a.toNat]? with
  |some y=>(if y.2.length=y.1 then 7 else 0,0,true,{ s with boxes:=s.boxes.set o.a.toNat (y.1,if y.2.length=y.1 then y.2 else y.2++[o.b])})
  |none=>(0,0,true,s)) else
 if o.k == 10 then (match s.boxes[o.a.toNat]? with
  |some y=>(match y.2 with
   |[]=>(8,0,true,s)
   |v::q=>(0,v,true,{ s with boxes:=s.boxes.set o.a.toNat (y.1,q)}))
  |none=>(0,0,true,s)) else
 if o.k == 11 then (0,s.groups.getD o.a.toNat 0,true,{ s with groups:=s.groups.set o.a.toNat (LFlg.Em (s.groups.getD o.a.toNat 0) o.b)}) else
 if o.k == 12 then (0,s.groups.getD o.a.toNat 0,true,{ s with groups:=s.groups.set o.a.toNat (LFlg.En (s.groups.getD o.a.toNat 0) o.b)}) else
 if o.k == 13 then (0,if LFlg.GF (s.groups.getD o.a.toNat 0) o.b then 1 else 0,true,s) else
 if o.k == 14 then (match s.counts[o.a.toNat]? with
  |some x=>(if LCnt.fJ x 1 then 7 else 0,if LCnt.fJ x 1 then x.1 else x.1+1,true,{ s with counts:=if LCnt.fJ x 1 then s.counts else s.counts.set o.a.toNat (x.1+1,x.2)})
  |none=>(0,0,true,s)) else
 if o.k == 15 then (match s.counts[o.a.toNat]? with
  |some x=>(if LCnt.fJ x (-1) then 8 else 0,if LCnt.fJ x (-1) then x.1 else x.1+ -1,true,{ s with counts:=if LCnt.fJ x (-1) then s.counts else s.counts.set o.a.toNat (x.1+ -1,x.2)})
  |none=>(0,0,true,s)) else (0,0,false,s)
def yp (C:bw)(s:KS)(o:dG):Bool:=o.k == 2&&decide (o.a∈LCache.rof s.cache o.a)
def oK (C:bw)(s:KS)(rep:Nat)(o:dG):KS:=if o.k == 2 then
 { s with cache:=LCache.cst C.ways.toNat s.cache o.a,reps:=s.reps.modify rep fun r=>if o.a∈LCache.rof s.cache o.a then { r with xq:=IntKind.i64.wrap (r.xq+1)} else { r with bT:=IntKind.i64.wrap (r.bT+1)}}
 else s
def cv (C:bw)(s:KS):KS:=match s.aR with
 |[]=>s
 |a::l=>match Fv C a.j with
  |none=>s
  |some o=>
   let r:=bX (oK C s a.rep o) a.rep o
   let s2:=if r.2.2.1 then cV r.2.2.2 8 s.now a.rep o.k r.1 r.2.1 else r.2.2.2
   { s2 with aR:={ a with j:=cU C a.j o (LFlg.fD o C.hit C.bT (yp C s o))}::l}
def iP (s:KS)(qe:Int)(held:Bool):Int:=
 let n:=qe-s.now
 let n:=match s.ev with
  |[]=>n
  |x::_=>if x.e.t-s.now<n then x.e.t-s.now else n
 match s.aR with
 |[]=>n
 |a::_=>
  let n:=if a.j.rest<n then a.j.rest else n
  if held then (if a.j.left<n then a.j.left else n) else n
def yq (s:KS):KS:=match s.aR with
 |[]=>s
 |a::l=>
  let s1:KS:={ s with reps:=s.reps.modify a.rep (fun r=>{ r with end_:=s.now,fault:=a.j.fault}),aD:=LCei.eF a.rep s.aD (LCei.bL s.aD a.rep s.aD.length),aR:=l}
  if a.j.fault then cV s1 7 s.now a.rep 0 11 0 else cV s1 6 s.now a.rep 0 0 0
def lA (C:bw)(s:KS)(n:Int)(held:Bool):KS:=match s.aR with
 |[]=>{ s with now:=s.now+n}
 |a::l=>
  let s1:KS:={ s with now:=s.now+n,reps:=if held then s.reps.modify a.rep (fun r=>{ r with held:=IntKind.i64.wrap (r.held+n)}) else s.reps,aR:={ a with j:=eJ C a.j n}::l}
  if (eJ C a.j n).over then yq s1 else s1
def iQ (C:bw)(qe:Int)(s:KS):KS:=
 let s1:=eS C s
 let s2:=(bt C s1).1
 let s3:=cv C s2
 lA C s3 (iP s3 qe (bt C s1).2) (bt C s1).2
def kQ (C:bw)(qe:Int):Nat→KS→KS
 |0,s=>s
 |d+1,s=>if s.now<qe then kQ C qe d (iQ C qe s) else s
def k0 (C:bw):KS:=⟨0,[],0,List.replicate C.sets.toNat [],C.gi.map fun n=>(LMbx.jI n,[]),List.replicate C.groups.toNat 0,C.counts.map fun z=>(0,z),C.bP.map fun z=>(z,0,false),List.replicate (LLin.Bg C.lines.length) (false,false),C.tasks.map q0,[],0,[],[],[]⟩
def Th (C:bw)(s:KS)(e:iO):Int:=
 if e.k<1∨e.k>5 then 1 else
 if e.t<s.now∨e.t>16777216∨(e.k=5∧¬(e.b≥1∧e.b≤1048576∧e.c≥1∧e.c≤256)) then 5 else
 if ¬(e.a≥0∧e.a<(if e.k=2∨e.k=3∨e.k=4 then (C.lines.length:Int) else C.tasks.length)) then 6 else
 if (s.ev.length:Int)≥256 then 7 else 0
def bK (C:bw)(s:KS)(e:iO):KS:=if Th C s e=0 then a7i s e else s
end Go.Proofs.YtnpinhahjgbigaaGreatDoor
end
section
namespace Go.Proofs.YtnpinhahjgbigaaGreatDoor
open Go Go.Sb
abbrev cw (r:IF):List Value:=[.int .i64 r.at_,.int .i64 r.kind,.int .i64 r.task,.int .i64 r.TR,.int .i64 r.op,.int .i64 r.code,.int .i64 r.val]
abbrev dx (r:nj):List Value:=[.int .i64 r.task,.int .i64 r.TR,.int .i64 r.rel,.int .i64 r.start,.int .i64 r.end_,.bool r.fault,.int .i64 r.nT,.int .i64 r.xq,.int .i64 r.bT,.int .i64 r.held,.int .i64 r.base]
def HPl (h:Hp)(r:Nat)(l:List (cA×Nat)):Prop:=∃(m:List MapEntry) (clock:Nat),h[r]? =some (.map m.toArray clock)∧m.map (fun e=>(e.key,e.val))=l.map fun p=>(gj p.1,Value.int .i64 (p.2:Int))
theorem HPl.frame {h h':Hp}{r:Nat}{l:List (cA×Nat)}(hm:HPl h r l)(he:h'[r]? =h[r]?):HPl h' r l:=by
 obtain⟨m,c,h1,h2⟩:=hm
 exact⟨m,c,by rw[he,h1],h2⟩
theorem HPl.lt {h:Hp}{r:Nat}{l:List (cA×Nat)}(hm:HPl h r l):r<h.size:=by
 obtain⟨m,c,h1,h2⟩:=hm
 exact (Array.getElem?_eq_some_iff.1 h1).1
def aPl (r:Nat)(l:List (cA×Nat)):As:=⟨fun F h=>F=[r]∧HPl h r l,fun F h h' ⟨hF,hb⟩ he=>⟨hF,hb.frame (he r (by simp[hF]))⟩,fun F h ⟨hF,hb⟩ b' hb'=>by
 subst hF
 simp only[List.mem_singleton]at hb'
 subst hb'
 exact hb.lt⟩
def o7 (x y:cA):Bool:=x.t == y.t&&(x.n == y.n&&(x.a == y.a&&true))
theorem j8 (x y:cA):o7 x y=true↔(y.t=x.t∧y.n=x.n∧y.a=x.a):=by
 unfold o7
 simp
 constructor
 ·rintro ⟨h1,h2,h3⟩;exact⟨h1.symm,h2.symm,h3.symm⟩
 ·rintro ⟨h1,h2,h3⟩;exact⟨h1.symm,h2.symm,h3.symm⟩
theorem eqJ (x y:cA):xK Tryz.prog 20 225 (gj x) (gj y)=some (o7 x y):=by
 obtain⟨a,b,c⟩:=x
 obtain⟨d,e,f⟩:=y
 exact (show xK Tryz.prog 20 225 (.agg #[.int .i64 a,.int .i64 b,.int .i64 c]) (.agg #[.int .i64 d,.int .i64 e,.int .i64 f])=some (a == d&&(b == e&&(c == f&&true))) by kernel_rfl)
theorem e4K (x:cA):q9 Tryz.prog 225 (gj x)=true:=by
 obtain⟨a,b,c⟩:=x
 exact (show q9 Tryz.prog 225 (.agg #[.int .i64 a,.int .i64 b,.int .i64 c])=true by kernel_rfl)
def kI (x:cA):List (cA×Nat)→Nat→Option (Nat×Nat)
 |[],_=>none
 |p::l,i=>if o7 x p.1 then some (i,p.2) else kI x l (i+1)
theorem b6V (x:cA):∀(l:List (cA×Nat)) (i:Nat),ER Tryz.prog 225 (gj x) (l.map fun p=>(gj p.1,Value.int .i64 (p.2:Int))) i=some ((kI x l i).map fun q=>(q.1,Value.int .i64 (q.2:Int)))
 |[],i=>rfl
 |p::l,i=>by
  rw[List.map_cons,ER,eqJ]
  unfold kI
  cases hs:o7 x p.1
  ·simp only[Bool.false_eq_true,if_false]
   exact b6V x l (i+1)
  ·rfl
theorem E3 {x:cA}:∀{l:List (cA×Nat)} {i:Nat} {q:Nat×Nat},kI x l i=some q→jC x l=q.2
 |[],i,q,h=>by simp[kI]at h
 |p::l,i,q,h=>by
  unfold kI at h
  unfold jC
  cases hs:o7 x p.1
  ·rw[hs]at h
   have:¬(p.1.t=x.t∧p.1.n=x.n∧p.1.a=x.a):=fun hc=>by rw[(j8 x p.1).2 hc]at hs;cases hs
   rw[if_neg this]
   exact E3 (by simpa using h)
  ·rw[hs]at h
   rw[if_pos ((j8 x p.1).1 hs)]
   simp at h
   rw[←h]
theorem E4 {x:cA}:∀{l:List (cA×Nat)} {i:Nat} {q:Nat×Nat},kI x l i=some q→i≤q.1∧q.1-i<l.length∧g8 x l=l.eraseIdx (q.1-i)
 |[],i,q,h=>by simp[kI]at h
 |p::l,i,q,h=>by
  unfold kI at h
  unfold g8
  cases hs:o7 x p.1
  ·rw[hs]at h
   have:¬(p.1.t=x.t∧p.1.n=x.n∧p.1.a=x.a):=fun hc=>by rw[(j8 x p.1).2 hc]at hs;cases hs
   rw[if_neg this]
   obtain⟨h1,h2,h3⟩:=E4 (i:=i+1) (q:=q) (l:=l) (by simpa using h)
   refine⟨by omega,by simp;omega,?_⟩
   rw[show q.1-i=(q.1-(i+1))+1 by omega,List.eraseIdx_cons_succ,h3]
  ·rw[hs]at h
   rw[if_pos ((j8 x p.1).1 hs)]
   simp at h
   subst h
   simp
theorem xu {x:cA}:∀{l:List (cA×Nat)} {i:Nat},(∀p∈l,¬(p.1.t=x.t∧p.1.n=x.n∧p.1.a=x.a))→kI x l i=none
 |[],i,_=>rfl
 |p::l,i,h=>by
  unfold kI
  have:o7 x p.1=false:=by
   cases hs:o7 x p.1
   ·rfl
   ·exact absurd ((j8 x p.1).1 hs) (h p (by simp))
  rw[this]
  exact xu fun p hp=>h p (by simp[hp])
theorem qf {x:cA}:∀{l:List (cA×Nat)} {i:Nat},(∃p∈l,p.1.t=x.t∧p.1.n=x.n∧p.1.a=x.a)→∃q,kI x l i=some q
 |[],i,h=>by obtain⟨p,hp,_⟩:=h;simp at hp
 |p::l,i,h=>by
  unfold kI
  cases hs:o7 x p.1
  ·obtain⟨p',hp,hc⟩:=h
   rcases List.mem_cons.1 hp with rfl|hp
   ·rw[(j8 x p'.1).2 hc]at hs;cases hs
   ·simpa using qf ⟨p',hp,hc⟩
  ·exact⟨_,rfl⟩
section pl
variable {α:Type}{Q:α→Hp→Prop}{h0 h:Hp}{L:List As}{r:Nat}{l:List (cA×Nat)}{w:World}
theorem xv (ρ:Rn)(x:cA):bk ρ (gj x)=gj x:=by
 obtain⟨a,b,c⟩:=x
 simp[gj,ej,bY]
theorem sB {m:List MapEntry}(hm:m.map (fun e=>(e.key,e.val))=l.map fun p=>(gj p.1,Value.int .i64 (p.2:Int)))(x:cA):
  (Instr.findKey 225 (gj x) m).run Tryz.prog w= .ok ((kI x l 0).map fun q=>(q.1,Value.int .i64 (q.2:Int))) w:=by
 have h1:=lu (P:=Tryz.prog) (w:=w) (ρ:=⟨id,id⟩) (e4K x) (es:=l.map fun p=>(gj p.1,Value.int .i64 (p.2:Int))) (m:=m) (by
  rw[hm,List.map_map]
  exact List.map_congr_left fun p _=>by simp[xv]) (b6V x l 0)
 rw[xv]at h1
 rw[h1]
 cases kI x l 0 with
 |none=>rfl
 |some q=>simp
theorem d2r:Tryz.prog.underlying 135=some (.map 225 3):=by kernel_rfl
theorem IG (x:cA)(em:Bool):(Instr.checkKey em 10000 225 (gj x)).run Tryz.prog w= .ok () w:=by
 have h1:=lr (P:=Tryz.prog) (w:=w) (e4K x) ⟨id,id⟩ em
 rwa [xv]at h1
theorem d2s (hs:Sep h0 h L)(k:Nat)(hk:L[k]? =some (aPl r l)):HPl h r l:=by
 obtain⟨F,⟨_,hm⟩,_⟩:=hs.holds k hk
 exact hm
theorem b6W (hs:Sep h0 h L)(k:Nat){l':List (cA×Nat)}{h':Hp}(hk:L[k]? =some (aPl r l))(hz:h'.size=h.size)(he:∀b,b≠r→h'[b]? =h[b]?)(hm:HPl h' r l'):Sep h0 h' (L.set k (aPl r l')):=by
 refine hs.sP k hk ?_
 rintro F ⟨rfl,_⟩
 exact⟨[r],⟨rfl,hm⟩,⟨by omega,fun i _ hi=>he i (by simpa using hi)⟩,id,fun b hb=>.inl hb⟩
theorem d2t (hs:Sep h0 h L)(k:Nat){x:cA}{K:Value→M α}(hk:L[k]? =some (aPl r l))(hx:∃p∈l,p.1.t=x.t∧p.1.n=x.n∧p.1.a=x.a)(hK:K (.int .i64 (jC x l:Int)) h Q):
  TT Tryz.prog (Instr.lookup 135 (.map (some r)) (gj x) false) K h Q:=by
 refine⟨_,fun w hw=>?_,hK⟩
 obtain⟨m,c,h1,h2⟩:=d2s hs k hk
 obtain⟨q,hq⟩:=qf (i:=0) hx
 have hb:w.heap[r]? =some (.map m.toArray c):=by rw[hw];exact h1
 unfold Instr.lookup
 simp only[Sem.run_bind,run_underlying d2r,Result.andThen_ok,dt hb,Sem.run_pure,IG]
 have:=sB (w:=w) h2 x
 rw[this,hq,E3 hq]
 rfl
theorem e4L (hs:Sep h0 h L)(k:Nat){x:cA}{n:Nat}{K:Unit→M α}(hk:L[k]? =some (aPl r l))(hx:∀p∈l,¬(p.1.t=x.t∧p.1.n=x.n∧p.1.a=x.a))(hK:∀h',Sep h0 h' (L.set k (aPl r (l++[(x,n)])))→K () h' Q):
  Cv Tryz.prog (Instr.mapUpdate 135 (.map (some r)) (gj x) (.int .i64 (n:Int))) K h Q:=by
 obtain⟨m,c,h1,h2⟩:=d2s hs k hk
 have hlt:r<h.size:=(Array.getElem?_eq_some_iff.1 h1).1
 refine⟨(),h.setIfInBounds r (.map (m.toArray.push { key:=gj x,val:=.int .i64 (n:Int),born:=c}) (c+1)),fun w hw=>?_,hK _ (b6W hs k hk (by simp) (fun b hne=>by rw[Array.getElem?_setIfInBounds_ne (Ne.symm hne)]) ⟨m++[{ key:=gj x,val:=.int .i64 (n:Int),born:=c}],c+1,by rw[Array.getElem?_setIfInBounds_self_of_lt hlt];simp,by simp[h2]⟩)⟩
 have hb:w.heap[r]? =some (.map m.toArray c):=by rw[hw];exact h1
 unfold Instr.mapUpdate
 simp only[Sem.run_bind,run_underlying d2r,Result.andThen_ok,dt hb,Sem.run_pure,IG]
 have:=sB (w:=w) h2 x
 rw[this,xu hx]
 simp only[Option.map_none,Result.andThen_ok]
 rw[eN hb,hw]
theorem e4M (hs:Sep h0 h L)(k:Nat){x:cA}{K:Value→M α}(hk:L[k]? =some (aPl r l))(hx:∃p∈l,p.1.t=x.t∧p.1.n=x.n∧p.1.a=x.a)(hK:∀h',Sep h0 h' (L.set k (aPl r (g8 x l)))→K undef h' Q):
  Cv Tryz.prog (Builtin.delete_ #[135,225] 0 #[.map (some r),gj x]) K h Q:=by
 obtain⟨m,c,h1,h2⟩:=d2s hs k hk
 have hlt:r<h.size:=(Array.getElem?_eq_some_iff.1 h1).1
 obtain⟨q,hq⟩:=qf (i:=0) hx
 obtain⟨d1,d2,d3⟩:=E4 hq
 have hml:m.length=l.length:=by have:=congrArg List.length h2;simpa using this
 refine⟨undef,h.setIfInBounds r (.map (m.eraseIdx q.1).toArray c),fun w hw=>?_,hK _ (b6W hs k hk (by simp) (fun b hne=>by rw[Array.getElem?_setIfInBounds_ne (Ne.symm hne)]) ⟨m.eraseIdx q.1,c,by rw[Array.getElem?_setIfInBounds_self_of_lt hlt],?_⟩)⟩
 ·have hb:w.heap[r]? =some (.map m.toArray c):=by rw[hw];exact h1
  unfold Builtin.delete_
  simp only[List.getElem?_toArray,List.getElem?_cons_zero,List.getElem?_cons_succ,Sem.run_bind,run_underlying d2r,Result.andThen_ok,dt hb,IG]
  have:=sB (w:=w) h2 x
  rw[this,hq]
  dsimp only[Result.andThen_ok,Option.map_some]
  rw[Sem.run_bind,eN hb]
  have e:m.toArray.eraseIdxIfInBounds q.1=(m.eraseIdx q.1).toArray:=by
   have hjl:q.1<m.toArray.size:=by simp;omega
   simp only[Array.eraseIdxIfInBounds,hjl,dif_pos]
   apply Array.ext'
   simp
  rw[e]
  simp only[Result.andThen_ok,Sem.run_pure,hw]
  rfl
 ·rw[d3,Nat.sub_zero,←fh,h2,fh]
end pl
attribute [irreducible] aPl
end Go.Proofs.YtnpinhahjgbigaaGreatDoor
end
section
namespace Go.Proofs.YtnpinhahjgbigaaGreatDoor
open Go Go.Sb
structure KC where
 C:bw
 sm:Sl
 sc:Sl
 se:Sl
 st:Sl
 sl:Sl
 ts:List (cx×Sl)
structure KM where
 ag:Nat
 ca:Nat
 bx:Nat
 gr:Nat
 ct:Nat
 lk:Nat
 ln:Nat
 rd:Nat
 fr:Nat
 pm:Nat
 fm:Nat
 ss:Sl
 rs:Sl
 tr:Sl
 bc:List (Nat×Nat)
 ff:Int→Option Value
 fn:Nat
abbrev sC (c:KC)(m:KM)(now:Int):List Value:=[.int .i64 c.C.sets,.int .i64 c.C.ways,.int .i64 c.C.hit,.int .i64 c.C.bT,.slice c.sm.p c.sm.n c.sm.c,.int .i64 c.C.groups,.slice c.sc.p c.sc.n c.sc.c,.slice c.se.p c.se.n c.se.c,.slice c.st.p c.st.n c.st.c,.slice c.sl.p c.sl.n c.sl.c,
 .int .i64 now,.pointer (some ⟨m.ag,0,none⟩),.pointer (some ⟨m.ca,0,none⟩),.pointer (some ⟨m.bx,0,none⟩),.pointer (some ⟨m.gr,0,none⟩),.pointer (some ⟨m.ct,0,none⟩),.pointer (some ⟨m.lk,0,none⟩),.pointer (some ⟨m.ln,0,none⟩),.pointer (some ⟨m.rd,0,none⟩),.pointer (some ⟨m.fr,0,none⟩),
 .slice m.ss.p m.ss.n m.ss.c,.slice m.rs.p m.rs.n m.rs.c,.map (some m.pm),.map (some m.fm),.slice m.tr.p m.tr.n m.tr.c]
abbrev yu (x:Nat×Nat):List Value:=[.pointer (some ⟨x.1,0,none⟩)]
def di (c:KC)(j:PJ):LJob.Jb:=⟨⟨(bS c.C j.t).pr,(bS c.C j.t).th,(bS c.C j.t).pe,(bS c.C j.t).de,(bS c.C j.t).fr,(bS c.C j.t).fl,(c.ts.getD j.t (⟨0,0,0,0,0,0,[]⟩,⟨none,0,0⟩)).2⟩,j.at_,j.rest,j.regions,j.aU,j.left,j.dL,j.fault,j.over⟩
abbrev qg (x:Nat×Nat)(a:dD):List Value:=[.pointer (some ⟨x.2,0,none⟩),.int .i64 (a.rep:Int),.bool a.kR]
def qh (c:KC)(x:Nat×Nat)(a:dD):As:=aStar (aBlk x.1 (qg x a)) (aBlk x.2 (di c a.j).enc)
abbrev kG (c:KC)(b:Nat)(m:KM)(s:KS)(F:List (Int×Int))(R:List As):List As:=
 aBlk b (sC c m s.now)::LAgd.lG m.ag s.ev s.ord::LCache.cq m.ca c.C.ways.toNat s.cache::LMbx.dW m.bx s.boxes::LFlg.aF m.gr s.groups::LCnt.aC m.ct s.counts::LCei.tZ m.lk s.aD::LLin.aL m.ln s.lines::
 cR m.rd s.ready::LFrame.jH m.fr F s.cr::aRow yu 1 m.ss m.bc.reverse::aRow dx 11 m.rs s.reps::aPl m.pm s.pl::aMap m.fm .i64 m.ff m.fn::aRow cw 7 m.tr s.tr::db (List.zipWith (qh c) m.bc s.aR)::R
abbrev kL (c:KC)(b:Nat)(m:KM)(s:KS)(R:List As):List As:=kG c b m s (iJ c.C s.aR) R
section
variable {α:Type}{Q:α→Hp→Prop}{h0 h:Hp}{R L:List As}{c:KC}{b:Nat}{m:KM}{s:KS}{F:List (Int×Int)}
theorem ml (A:List As)(x:As)(R:List As):(x::(A++R)).Perm (A++x::R):=List.perm_middle.symm
theorem kIn {x:As}(hs:Sep h0 h (x::kG c b m s F R)):Sep h0 h (kG c b m s F (x::R)):=hs.perm (ml (kG c b m s F []) x R)
theorem dj {x:As}(hs:Sep h0 h (kG c b m s F (x::R))):Sep h0 h (x::kG c b m s F R):=hs.perm (ml (kG c b m s F []) x R).symm
theorem gz (hs:Sep h0 h (kG c b m s F R)){cells:Array Value}{T:TypeId}{K:Addr→M α}(hK:∀n h',Sep h0 h' (kG c b m s F (aBlk n cells.toList::R))→K ⟨n,0,none⟩ h' Q):aJ cells T K h Q:=
 Sep.new hs fun n h' hs=>hK n h' (kIn hs)
theorem via (k:Nat){a a':As}{P:Program}{f:FuncId}{args:Array Value}{Φ:Value→Prop}(hs:Sep h0 h L)(hk:L[k]? =some a)(hc:Sep h0 h (a::L.eraseIdx k)→Nf P f args h (fun v h'=>Φ v∧Sep h0 h' (a'::L.eraseIdx k))):Nf P f args h (fun v h'=>Φ v∧Sep h0 h' (L.set k a')):=
 (hc (hs.at k hk)).mono fun _ _ ⟨h1,h2⟩=>⟨h1,h2.perm (set_perm k L (List.getElem?_eq_some_iff.1 hk).1)⟩
theorem f2K {n:Nat}{r:IF}(hs:Sep h0 h (kL c b m s (aBlk n (cw r)::R)))(hl:s.tr.length≤1000000):Ct (some ⟨b,0,none⟩) ⟨n,0,none⟩ h (fun _ h'=>∃nU:Sl,Sep h0 h' (kL c b { m with tr:=nU} { s with tr:=s.tr++[r]} R)):=by
 apply f1U
 unfold e2n
 simp only[au,ay,Nat.zero_add]
 have fin:∀(n2:Nat) (h:Hp),Sep h0 h (kL c b m s (aBlk n2 (cw r)::aBlk n (cw r)::R))→
   (bU 64 7 56 #[.int .i64 (0:Int),.int .i64 (0:Int),.int .i64 (0:Int),.int .i64 (0:Int),.int .i64 (0:Int),.int .i64 (0:Int),.int .i64 (0:Int)] m.tr ⟨(some ⟨n2,0,none⟩),1,1⟩ fun qJ=>
   an ⟨b,24,none⟩ (.slice qJ.p qJ.n qJ.c) <| af (Value.tuple #[])) h (fun _ h'=>∃nU:Sl,Sep h0 h' (kL c b { m with tr:=nU} { s with tr:=s.tr++[r]} R)):=by
  intro n2 h hs
  refine Sep.lE hs 14 16 r rfl rfl (fun _=>rfl) (by simp[Value.oneCell']) rfl (by omega) (by omega) fun nU h hn hs=>?_
  refine Sep.st hs 0 rfl rfl rfl fun h hs=>?_
  have hs:Sep h0 h (kL c b { m with tr:=nU} { s with tr:=s.tr++[r]} (aBlk n2 (cw r)::aBlk n (cw r)::R)):=hs
  exact⟨nU,(dj (dj hs).drop).drop⟩
 repeat' (first
  |with_reducible refine aK ?_ ?_
  |with_reducible refine Sep.bu hs 0 rfl rfl ?_
  |with_reducible refine Sep.aB hs 16 rfl rfl ?_
  |(with_reducible refine gz hs fun n2 h hs=>?_;simp only[sz2]at hs))
 all_goals exact fin _ _ hs
theorem bA (x:nj):(dx x).length=11:=rfl
theorem nt (hs:Sep h0 h (kG c b m s F R))(k:Nat){n o:Nat}{cs:List Value}{v:Value}{K:M α}(hk:R[k]? =some (aBlk n cs))(hc:cs[o]?.isSome=true)(hv:v.oneCell'=true)(hK:∀h',Sep h0 h' (kG c b m s F (R.set k (aBlk n (cs.set o v))))→K h' Q):an ⟨n,o,none⟩ v K h Q:=
 Sep.st hs (k+16) hk hc hv hK
theorem mm (hs:Sep h0 h (kL c b m s R))(hl:s.tr.length≤1000000)(kind at_:Int){rep:Nat}(hr:rep<s.reps.length)(r0 r1 r2 r3 op code val:Int):
  uu (some ⟨b,0,none⟩) kind at_ (rep:Int) r0 r1 r2 r3 op code val h (fun _ h'=>∃nU:Sl,Sep h0 h' (kL c b { m with tr:=nU} (cV s kind at_ rep op code val) R)):=by
 have hx:=List.getElem?_eq_getElem hr
 generalize s.reps[rep]=x at hx
 apply f1T
 unfold e2j
 refine gz hs fun n h hs=>?_
 simp only[sz2]at hs
 simp only[au,ay,Nat.zero_add]
 refine Sep.bu hs 0 rfl rfl ?_
 refine Sep.idx hs 11 rfl (by omega) (by omega) fun a ha=>?_
 rw[Int.toNat_natCast]at ha
 have fin:∀(n2:Nat) (cs:List Value) (h:Hp),Sep h0 h (kL c b m s (aBlk n2 cs::aBlk n (cw ⟨at_,kind,x.task,x.TR,op,code,val⟩)::R))→
   Ct (some ⟨b,0,none⟩) ⟨n,0,none⟩ h (fun _ h'=>∃nU:Sl,Sep h0 h' (kL c b { m with tr:=nU} (cV s kind at_ rep op code val) R)):=by
  intro n2 cs h hs
  have e:cV s kind at_ rep op code val={ s with tr:=s.tr++[⟨at_,kind,x.task,x.TR,op,code,val⟩]}:=by unfold cV;rw[hx]
  rw[e]
  exact f2K (dj hs).drop hl
 repeat' (first
  |with_reducible refine aK ?_ ?_
  |with_reducible refine Sep.fR hs 11 rfl bA ha hx rfl ?_
  |with_reducible refine Sep.iu hs 11 rfl bA ha hx rfl ?_
  |with_reducible refine Sep.AW hs 11 rfl bA ha hx rfl ?_
  |(with_reducible refine gz hs fun n2 h hs=>?_;simp only[sz2,ay,Nat.zero_add]at hs ⊢)
  |(with_reducible refine nt hs 0 rfl rfl rfl fun h hs=>?_;simp only[sz0,sz1]at hs)
  |(with_reducible refine nt hs 1 rfl rfl rfl fun h hs=>?_;simp only[sz0,sz1]at hs)
  |with_reducible refine Sep.aB hs 16 rfl rfl ?_)
 all_goals exact fin _ _ _ hs
end
end Go.Proofs.YtnpinhahjgbigaaGreatDoor
end
section
namespace Go.Proofs.YtnpinhahjgbigaaGreatDoor.LCei
open Go Go.Sb
structure RdK (h:Hp) (b:Nat) (l:List Lk):Prop where
 ok:∃s:Sl,kO h b [.slice s.p s.n s.c]∧fK h.size h oI 3 s l
theorem RdK.of {h0 h:Hp}{L:List As}{b:Nat}{l:List Lk}(hs:Sep h0 h L)(k:Nat)(hk:L[k]? =some (tZ b l)):RdK h b l:=by
 obtain⟨s,hs⟩:=eP.1 (hs.at k hk)
 exact⟨s,hs.mD 0 rfl,hs.Us 1 rfl (fun _=>rfl) (by omega)⟩
theorem RdK.under {h h':Hp}{b:Nat}{l:List Lk}(hr:RdK h b l)(hu:ck h.size h h'):RdK h' b l:=by
 obtain⟨s,h1,h2⟩:=hr
 exact⟨s,h1.frame (hu.at_ _ h1.lt),(h2.under hu).mono hu.size⟩
section
variable {h0 h:Hp}{R:List As}{b:Nat}{l:List Lk}
theorem e4N {α:Type}{Q:α→Hp→Prop}{s:Sl}{K:Sl→M α}(hb:kO h0 b [.slice s.p s.n s.c])(hs:Sep h0 h R)(hK:K s h Q):aw ⟨b,0,none⟩ K h Q:=
 om (p:=s.p) (n:=s.n) (c:=s.c) (by rw[hs.under.cell (show (⟨b,0,none⟩:Addr).block<h0.size from hb.lt),hb.cell];rfl) hK
theorem a7j {s:Sl}(hb:kO h0 b [.slice s.p s.n s.c])(hr:fK h0.size h0 oI 3 s l)(hs:Sep h0 h R):YW (some ⟨b,0,none⟩) h (fun v h'=>v= .int .i64 l.length∧h'=h):=by
 have hl:=hr.n
 apply Szq
 unfold Bzq
 simp only[Option.isNone_some,aj,au]
 refine e4N hb hs ?_
 simp[hl]
theorem b6X {s:Sl}(hb:kO h0 b [.slice s.p s.n s.c])(hr:fK h0.size h0 oI 3 s l)(hs:Sep h0 h R){i:Nat}(hi:i<l.length):Nzk (some ⟨b,0,none⟩) (i:Int) h (fun v h'=>h'=h∧∃a,v= .pointer (some a)∧Arg h oI (l[i]'hi) a):=by
 have hl:=hr.n
 apply Szo
 unfold Bzo
 rw[ae]
 refine aA (by simp) ?_
 rw[ae]
 refine (a7j hb hr hs).mono ?_
 rintro v h ⟨rfl,rfl⟩
 simp only[az,ak]
 refine aA (by simp;omega) ?_
 simp only[au]
 refine e4N hb hs ?_
 refine hr.ix hs hi fun a ha=>?_
 exact⟨rfl,a,rfl,ha⟩
theorem a7k {s:Sl}(hb:kO h0 b [.slice s.p s.n s.c])(hr:fK h0.size h0 oI 3 s l)(hl8:l.length≤1000)(who:Int):∀(d k:Nat) (o:Sl) (h:Hp),k+d=l.length→Sep h0 h (aRow nI 1 o (bL l who k)::R)→
  Kz8 (some ⟨b,0,none⟩) who o (l.length:Int) (k:Int) h (fun v h'=>∃o:Sl,v= .slice o.p o.n o.c∧Sep h0 h' (aRow nI 1 o (bL l who l.length)::R))
 |0,k,o,h,hk,hs=>by
  apply Sz1
  unfold Bz1
  refine aA (by simp;omega) ?_
  obtain rfl:k=l.length:=by omega
  exact⟨o,rfl,hs⟩
 |d+1,k,o,h,hk,hs=>by
  have ih:=a7k hb hr hl8 who d (k+1)
  apply Sz1
  unfold Bz1
  refine aM (by simp;omega) ?_
  rw[ae]
  have hi:k<l.length:=by omega
  refine (b6X hb hr hs hi).mono ?_
  rintro v h ⟨rfl,a,rfl,ha⟩
  simp only[aS,au]
  have hx:=List.getElem?_eq_getElem hi
  have hh:holds l who k=(l[k].2.2&&(l[k].2.1 == who)):=by unfold holds;rw[hx]
  generalize l[k]=x at hx hh ha
  refine ha.Tz rfl ?_
  have hlen:(bL l who k).length≤k:=by unfold bL;exact Nat.le_trans (List.length_filter_le _ _) (by simp)
  have e1:IntKind.i64.wrap ((k:Int)+1)=((k+1:Nat):Int):=dK _ (by omega)
  have fin:∀c:Bool,c=holds l who k→(aI c (aJ #[.int .i64 (k:Int)] 3 fun np=>bU 3 1 8 #[.int .i64 (0:Int)] o ⟨(some np),1,1⟩ fun nn=>Kz8 (some ⟨b,0,none⟩) who nn (l.length:Int) (IntKind.i64.wrap ((k:Int)+(1:Int)))) (Kz8 (some ⟨b,0,none⟩) who o (l.length:Int) (IntKind.i64.wrap ((k:Int)+(1:Int))))) h
    (fun v h'=>∃o:Sl,v= .slice o.p o.n o.c∧Sep h0 h' (aRow nI 1 o (bL l who l.length)::R)):=by
   intro c hc
   subst hc
   rw[e1]
   have hsu:=wu l who k
   cases hk2:holds l who k<;>rw[hk2]at hsu
   ·simp only[aj,Bool.false_eq_true,if_false]at hsu ⊢
    exact ih o h (by omega) (hsu ▸ hs)
   ·simp only[aq,if_true]at hsu ⊢
    have oS:=hs.bn 0 rfl
    refine Sep.new hs fun nb h hs=>?_
    simp only[sz2]at hs
    refine Sep.lE hs 1 0 k rfl rfl (fun _=>rfl) (by simp[nI,Value.oneCell']) rfl (by omega) (by omega) fun o' h hn hs=>?_
    simp only[sz0,sz1]at hs
    exact ih o' h (by omega) (hsu ▸ hs.drop)
  rw[ae]
  cases hb2:x.2.2<;>rw[hb2]at hh
  ·refine aA rfl ?_
   rw[ak]
   exact fin false (by rw[hh];rfl)
  ·refine aM rfl ?_
   refine ha.aB rfl ?_
   rw[ak]
   exact fin _ (by rw[hh];rfl)
theorem KO {s:Sl}(hb:kO h0 b [.slice s.p s.n s.c])(hr:fK h0.size h0 oI 3 s l){js:List Nat}(hj:∀j∈js,j<l.length)(hjl:js.length≤1000){o:Sl}:∀(d k:Nat) (base:Int) (h:Hp),k+d=js.length→Sep h0 h (aRow nI 1 o js::R)→
  b0c (some ⟨b,0,none⟩) base o (js.length:Int) (k:Int) h (fun v h'=>v= .int .i64 (nJ l base (js.drop k))∧Sep h0 h' (aRow nI 1 o js::R))
 |0,k,base,h,hk,hs=>by
  apply Szm
  unfold Bzm
  refine aA (by simp;omega) ?_
  rw[List.drop_of_length_le (by omega)]
  exact⟨rfl,hs⟩
 |d+1,k,base,h,hk,hs=>by
  have ih:=fun base=>KO hb hr hj hjl (o:=o) d (k+1) base
  apply Szm
  unfold Bzm
  refine aM (by simp;omega) ?_
  have hkj:k<js.length:=by omega
  have zP:=hs.bn 0 rfl
  have hxj:=List.getElem?_eq_getElem hkj
  have hjk:=hj js[k] (List.getElem_mem hkj)
  refine hs.idx 0 rfl (by omega) (by omega) fun a ha=>?_
  rw[Int.toNat_natCast]at ha
  refine hs.fR 0 rfl (fun _=>rfl) ha hxj rfl ?_
  rw[ae]
  refine (b6X hb hr hs hjk).mono ?_
  rintro v h ⟨rfl,a2,rfl,ha2⟩
  simp only[aS,au]
  have hx:=List.getElem?_eq_getElem hjk
  refine ha2.mG rfl ?_
  rw[dK _ (by omega)]
  have e:nJ l base (js.drop k)=nJ l (if l[js[k]].1>base then l[js[k]].1 else base) (js.drop (k+1)):=by
   rw[List.drop_eq_getElem_cons hkj]
   unfold nJ
   rw[List.foldl_cons,hx]
  rw[e]
  exact ih _ h (by omega) hs
theorem b4W (hk:RdK h b l)(hl8:l.length≤1000)(who base:Int):a9W (some ⟨b,0,none⟩) who base h (fun v h'=>v= .int .i64 (nJ l base (bL l who l.length))∧ck h.size h h'):=by
 obtain⟨s,hb,hr⟩:=hk
 have hs:=Sep.init h
 apply e9K
 unfold d9q
 rw[ae]
 apply Szp
 unfold Bzp
 rw[ae]
 refine (a7j hb hr hs).mono ?_
 rintro v h1 ⟨rfl,rfl⟩
 simp only[az]
 refine (a7k (R:=[]) hb hr hl8 who l.length 0 ⟨none,0,0⟩ h1 (by omega) (hs.fw nI 1)).mono ?_
 rintro v h ⟨o,rfl,hs⟩
 simp only[ez]
 have zP:=hs.bn 0 rfl
 rw[show (o.n:Int)=((bL l who l.length).length:Int) by rw[zP]]
 have hlen:(bL l who l.length).length≤l.length:=by unfold bL;exact Nat.le_trans (List.length_filter_le _ _) (by simp)
 refine (KO hb hr (fun j hj=>by unfold bL at hj;simpa using (List.mem_filter.1 hj).1) (by omega) (bL l who l.length).length 0 base h (by omega) hs).mono ?_
 rintro v h ⟨rfl,hs⟩
 exact⟨rfl,hs.under⟩
theorem b4X {α:Type}{Q:α→Hp→Prop}{K:Value→M α}(hk:RdK h b l)(hl8:l.length≤1000)(who base:Int)(hK:K (.int .i64 (nJ l base (bL l who l.length))) h Q):mU (jm Tryz.prog 221) (a9W (some ⟨b,0,none⟩) who base) K h Q:=by
 refine⟨Tryz.call221,_,fun h' hu=>?_,hK⟩
 refine (b4W (hk.under hu) hl8 who base).mono ?_
 rintro v h'' ⟨rfl,Ty⟩
 exact⟨rfl,hu.trans ⟨Ty.size,fun i hi=>Ty.at_ i (Nat.lt_of_lt_of_le hi hu.size)⟩⟩
end
end Go.Proofs.YtnpinhahjgbigaaGreatDoor.LCei
end
