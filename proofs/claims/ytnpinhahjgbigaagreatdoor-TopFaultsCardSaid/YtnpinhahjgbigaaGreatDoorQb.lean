/- What TopFaults stands on, part 2. Conditions: none. -/
import Derived.Test.YtnpinhahjgbigaaGreatDoorQa
import Derived.SizedLaws
import Derived.Test.YtnpinhahjgbigaaGreatDoorChecked
import Derived.KernelRfl
set_option linter.unusedSimpArgs false
set_option linter.unusedVariables false
set_option linter.unusedSectionVars false
section
namespace Go.Sb
open Go
structure As where
 holds:List Nat→Hp→Prop
 frame:∀F h h',holds F h→(∀b∈F,h'[b]? =h[b]?)→holds F h'
 lt:∀F h,holds F h→∀b∈F,b<h.size
theorem kO.frame {h h':Hp}{b:Nat}{cs:List Value}(hb:kO h b cs)(he:h'[b]? =h[b]?):kO h' b cs:=by
 obtain⟨T,hT⟩:=hb
 exact⟨T,by rw[he,hT]⟩
def aBlk (b:Nat)(cs:List Value):As:=⟨fun F h=>F=[b]∧kO h b cs,fun F h h' ⟨hF,hb⟩ he=>⟨hF,hb.frame (he b (by simp[hF]))⟩,fun F h ⟨hF,hb⟩ b' hb'=>by
 subst hF
 simp only[List.mem_singleton]at hb'
 subst hb'
 exact hb.lt⟩
def aEmp:As:=⟨fun F _=>F=[],fun _ _ _ h _=>h,fun F h hF b hb=>by subst hF;simp at hb⟩
def aPure (p:Prop):As:=⟨fun F _=>F=[]∧p,fun _ _ _ h _=>h,fun F h ⟨hF,_⟩ b hb=>by subst hF;simp at hb⟩
def aStar (x y:As):As:=⟨fun F h=>∃F1 F2,F=F1++F2∧x.holds F1 h∧y.holds F2 h,
 fun F h h' ⟨F1,F2,hF,h1,h2⟩ he=>⟨F1,F2,hF,x.frame _ _ _ h1 fun b hb=>he b (by simp[hF,hb]),y.frame _ _ _ h2 fun b hb=>he b (by simp[hF,hb])⟩,
 fun F h ⟨F1,F2,hF,h1,h2⟩ b hb=>by
  subst hF
  rcases List.mem_append.1 hb with hb|hb
  ·exact x.lt _ _ h1 b hb
  ·exact y.lt _ _ h2 b hb⟩
def aEx {X:Type}(P:X→As):As:=⟨fun F h=>∃x,(P x).holds F h,fun F h h' ⟨x,hx⟩ he=>⟨x,(P x).frame F h h' hx he⟩,fun F h ⟨x,hx⟩=>(P x).lt F h hx⟩
def aRow {X:Type}(enc:X→List Value)(sz:Nat)(s:Sl)(xs:List X):As:=
 ⟨fun F h=>s.n=xs.length∧((s.n=0∧s.c=0∧F=[])∨∃b o pre rest,s.p=some ⟨b,o,none⟩∧F=[b]∧kO h b (pre++xs.flatMap enc++rest)∧pre.length=o∧s.n≤s.c∧(s.c-s.n)*sz≤rest.length),
 fun F h h' ⟨h1,h2⟩ he=>⟨h1,by
  rcases h2 with h2|⟨b,o,pre,rest,e1,e2,e3,e4⟩
  ·exact .inl h2
  ·exact .inr ⟨b,o,pre,rest,e1,e2,e3.frame (he b (by simp[e2])),e4⟩⟩,
 fun F h ⟨h1,h2⟩ b hb=>by
  rcases h2 with ⟨_,_,rfl⟩|⟨b',o,pre,rest,e1,rfl,e3,e4⟩
  ·simp at hb
  ·simp only[List.mem_singleton]at hb;subst hb;exact e3.lt⟩
def db:List As→As
 |[]=>aEmp
 |a::L=>aStar a (db L)
structure Sep (h0 h:Hp) (L:List As):Prop where
 under:ck h0.size h0 h
 own:∃F,(db L).holds F h∧F.Nodup∧∀b∈F,h0.size≤b
theorem K6 {L L':List As}(hp:L.Perm L'){h:Hp}:∀F,(db L).holds F h→∃F',F'.Perm F∧(db L').holds F' h:=by
 induction hp with
 |nil=>exact fun F hF=>⟨F,.refl _,hF⟩
 |cons x _ ih=>
  rintro F ⟨F1,F2,rfl,h1,h2⟩
  obtain⟨F',hp,h'⟩:=ih F2 h2
  exact⟨F1++F',hp.append_left F1,F1,F',rfl,h1,h'⟩
 |swap x y l=>
  rintro F ⟨F1,F2,rfl,h1,F3,F4,rfl,h3,h4⟩
  refine⟨F3++(F1++F4),?_,F3,_,rfl,h3,F1,F4,rfl,h1,h4⟩
  rw[←List.append_assoc,←List.append_assoc]
  exact (List.perm_append_comm).append_right F4
 |trans _ _ ih1 ih2=>
  intro F hF
  obtain⟨F',p1,h1⟩:=ih1 F hF
  obtain⟨F'',p2,h2⟩:=ih2 F' h1
  exact⟨F'',p2.trans p1,h2⟩
section sep
variable {h0 h h':Hp}{L L' R:List As}{a x y:As}
theorem Sep.init (h:Hp):Sep h h []:=⟨.refl _ _,[],rfl,.nil,by simp⟩
theorem Sep.perm (hs:Sep h0 h L)(hp:L.Perm L'):Sep h0 h L':=by
 obtain⟨hu,F,h1,h2,h3⟩:=hs
 obtain⟨F',p,h'⟩:=K6 hp F h1
 exact⟨hu,F',h',p.nodup_iff.2 h2,fun b hb=>h3 b (p.mem_iff.1 hb)⟩
theorem Sep.drop (hs:Sep h0 h (a::R)):Sep h0 h R:=by
 obtain⟨hu,F,⟨F1,F2,rfl,h1,h2⟩,h3,h4⟩:=hs
 exact⟨hu,F2,h2,(List.nodup_append.1 h3).2.1,fun b hb=>h4 b (by simp[hb])⟩
theorem Sep.swap (hs:Sep h0 h (x::y::R)):Sep h0 h (y::x::R):=hs.perm (.swap _ _ _)
theorem Sep.star:Sep h0 h (aStar x y::R)↔Sep h0 h (x::y::R):=by
 constructor
 ·rintro ⟨hu,F,⟨_,F3,rfl,⟨F1,F2,rfl,h1,h2⟩,h3⟩,hn,hB⟩
  exact⟨hu,F1++F2++F3,⟨F1,F2++F3,by simp,h1,F2,F3,rfl,h2,h3⟩,hn,hB⟩
 ·rintro ⟨hu,F,⟨F1,_,rfl,h1,F2,F3,rfl,h2,h3⟩,hn,hB⟩
  exact⟨hu,F1++(F2++F3),⟨F1++F2,F3,by simp,⟨F1,F2,rfl,h1,h2⟩,h3⟩,hn,hB⟩
theorem Sep.all:Sep h0 h (db (x::L)::R)↔Sep h0 h (x::db L::R):=Sep.star
theorem Sep.all_nil:Sep h0 h (db []::R)↔Sep h0 h R:=by
 constructor
 ·exact Sep.drop
 ·rintro ⟨hu,F,h1,hn,hB⟩
  exact⟨hu,F,⟨[],F,rfl,rfl,h1⟩,hn,hB⟩
theorem Sep.pure {p:Prop}:Sep h0 h (aPure p::R)↔p∧Sep h0 h R:=by
 constructor
 ·rintro ⟨hu,F,⟨F1,F2,rfl,⟨rfl,hp⟩,h2⟩,hn,hB⟩
  exact⟨hp,hu,F2,h2,hn,hB⟩
 ·rintro ⟨hp,hu,F,h1,hn,hB⟩
  exact⟨hu,F,⟨[],F,rfl,⟨rfl,hp⟩,h1⟩,hn,hB⟩
theorem Sep.ex {X:Type}{P:X→As}:Sep h0 h (aEx P::R)↔∃x,Sep h0 h (P x::R):=by
 constructor
 ·rintro ⟨hu,F,⟨F1,F2,rfl,⟨x,hx⟩,h2⟩,hn,hB⟩
  exact⟨x,hu,_,⟨F1,F2,rfl,hx,h2⟩,hn,hB⟩
 ·rintro ⟨x,hu,_,⟨F1,F2,rfl,hx,h2⟩,hn,hB⟩
  exact⟨hu,_,⟨F1,F2,rfl,⟨x,hx⟩,h2⟩,hn,hB⟩
theorem oT:∀(k:Nat) (L:List As),L[k]? =some a→L.Perm (a::L.eraseIdx k)
 |_,[],h=>by simp at h
 |0,y::L,h=>by simp at h;subst h;simp
 |k+1,y::L,h=>by
  simp at h
  simp only[List.eraseIdx_cons_succ]
  exact ((oT k L h).cons y).trans (.swap _ _ _)
theorem set_perm:∀(k:Nat) (L:List As),k<L.length→(x::L.eraseIdx k).Perm (L.set k x)
 |_,[],h=>by simp at h
 |0,y::L,h=>by simp
 |k+1,y::L,h=>by
  simp at h
  simp only[List.eraseIdx_cons_succ,sz1]
  exact (List.Perm.swap _ _ _).trans ((set_perm k L h).cons y)
theorem Sep.at (k:Nat)(hs:Sep h0 h L)(hk:L[k]? =some a):Sep h0 h (a::L.eraseIdx k):=hs.perm (oT k L hk)
theorem Sep.pc (hs:Sep h0 h (x::R))(hstep:∀F,x.holds F h→∃F',y.holds F' h'∧eB (·∈F) h h'∧(F.Nodup→F'.Nodup)∧∀b∈F',b∈F∨h.size≤b):Sep h0 h' (y::R):=by
 obtain⟨hu,F,⟨F1,F2,rfl,h1,h2⟩,hn,hB⟩:=hs
 obtain⟨F',hy,hk,hnd,lC⟩:=hstep F1 h1
 have hlt:=(db R).lt _ _ h2
 obtain⟨n1,n2,n3⟩:=List.nodup_append.1 hn
 refine⟨hu.trans (ck.Ul hk hu.size fun b hb=>hB b (by simp[hb])),F'++F2,⟨F',F2,rfl,hy,?_⟩,?_,?_⟩
 ·refine (db R).frame _ _ _ h2 fun b hb=>hk.at_ b (hlt b hb) fun hb'=>?_
  exact n3 b hb' b hb rfl
 ·refine List.nodup_append.2 ⟨hnd n1,n2,fun u Ty v hv=>?_⟩
  rcases lC u Ty with hm|hm
  ·exact n3 u hm v hv
  ·have:=hlt v hv;omega
 ·intro b hb
  rcases List.mem_append.1 hb with hb|hb
  ·rcases lC b hb with hm|hm
   ·exact hB b (by simp[hm])
   ·exact Nat.le_trans hu.size hm
  ·exact hB b (by simp[hb])
theorem Sep.sP (k:Nat)(hs:Sep h0 h L)(hk:L[k]? =some x)(hstep:∀F,x.holds F h→∃F',y.holds F' h'∧eB (·∈F) h h'∧(F.Nodup→F'.Nodup)∧∀b∈F',b∈F∨h.size≤b):Sep h0 h' (L.set k y):=
 ((hs.at k hk).pc hstep).perm (set_perm k L (by have:=(List.getElem?_eq_some_iff.1 hk).1;exact this))
theorem Sep.push (hs:Sep h0 h L)(cs:Array Value)(T:TypeId):Sep h0 (h.push (.cells cs T)) (aBlk h.size cs.toList::L):=by
 have CW:Sep h0 h (aEmp::L):=by
  obtain⟨hu,F,h1,hn,hB⟩:=hs
  exact⟨hu,F,⟨[],F,rfl,rfl,h1⟩,hn,hB⟩
 refine CW.pc ?_
 rintro F rfl
 exact⟨[h.size],⟨rfl,kO.new' h cs T⟩,.push _ _ _,by simp,by simp⟩
theorem Sep.holds (k:Nat)(hs:Sep h0 h L)(hk:L[k]? =some x):∃F,x.holds F h∧F.Nodup∧∀b∈F,h0.size≤b:=by
 obtain⟨hu,F,⟨F1,F2,rfl,h1,h2⟩,hn,hB⟩:=hs.at k hk
 exact⟨F1,h1,(List.nodup_append.1 hn).1,fun b hb=>hB b (by simp[hb])⟩
theorem Sep.mD (k:Nat){b:Nat}{cs:List Value}(hs:Sep h0 h L)(hk:L[k]? =some (aBlk b cs)):kO h b cs:=by
 obtain⟨F,⟨_,hb⟩,_⟩:=hs.holds k hk
 exact hb
theorem Sep.keep (k:Nat)(hs:Sep h0 h L)(hk:L[k]? =some x)(himp:∀F,x.holds F h→y.holds F h):Sep h0 h (L.set k y):=
 hs.sP k hk fun F hF=>⟨F,himp F hF,.refl _ _,id,fun b hb=>.inl hb⟩
theorem Sep.emp (hs:Sep h0 h R):Sep h0 h (aEmp::R):=by
 obtain⟨hu,F,h1,hn,hB⟩:=hs
 exact⟨hu,F,⟨[],F,rfl,rfl,h1⟩,hn,hB⟩
theorem Sep.fresh (hs:Sep h0 h R)(hu:ck h.size h h'){F':List Nat}(hy:y.holds F' h')(hn:F'.Nodup)(hF:∀b∈F',h.size≤b):Sep h0 h' (y::R):=by
 refine hs.emp.pc ?_
 rintro F rfl
 exact⟨F',hy,⟨hu.size,fun i hi _=>hu.at_ i hi⟩,fun _=>hn,fun b hb=>.inr (hF b hb)⟩
theorem Sep.more (hs:Sep h0 h R)(hu:ck h.size h h'):Sep h0 h' R:=(hs.fresh (y:=aEmp) hu rfl .nil (by simp)).drop
theorem sQ:∀(L R:List As) (F G:List Nat) (h:Hp),(db L).holds F h→(db R).holds G h→(db (L++R)).holds (F++G) h
 |[],R,F,G,h,hF,hG=>by
  have:F=[]:=hF
  subst this
  exact hG
 |a::L,R,F,G,h,⟨F1,F2,hF,h1,h2⟩,hG=>by
  subst hF
  exact⟨F1,F2++G,by simp,h1,sQ L R F2 G h h2 hG⟩
theorem Sep.b7t {h1:Hp}(hs:Sep h0 h1 R)(CW:Sep h1 h L):Sep h0 h (L++R):=by
 obtain⟨hu,F,g1,g2,g3⟩:=hs
 obtain⟨Ty,G,k1,k2,k3⟩:=CW
 have hlt:=(db R).lt _ _ g1
 refine⟨hu.trans ⟨Ty.size,fun i hi=>Ty.at_ i (Nat.lt_of_lt_of_le hi hu.size)⟩,G++F,sQ L R G F h k1 ((db R).frame _ _ _ g1 fun b hb=>Ty.at_ b (hlt b hb)),?_,?_⟩
 ·refine List.nodup_append.2 ⟨k2,g2,fun u hu v hv=>?_⟩
  have:=k3 u hu
  have:=hlt v hv
  omega
 ·intro b hb
  rcases List.mem_append.1 hb with hb|hb
  ·exact Nat.le_trans hu.size (k3 b hb)
  ·exact g3 b hb
variable {α:Type}{Q:α→Hp→Prop}{b o:Nat}{cs:List Value}
theorem Sep.aB (hs:Sep h0 h L)(k:Nat){kd:IntKind}{n:Int}{K:Int→M α}(hk:L[k]? =some (aBlk b cs))(hc:cs[o]? =some (.int kd n))(hK:K n h Q):ab kd ⟨b,o,none⟩ K h Q:=
 qH (by rw[(hs.mD k hk).cell,hc]) hK
theorem Sep.Tz (hs:Sep h0 h L)(k:Nat){n:Bool}{K:Bool→M α}(hk:L[k]? =some (aBlk b cs))(hc:cs[o]? =some (.bool n))(hK:K n h Q):g9 ⟨b,o,none⟩ K h Q:=
 AV (by rw[(hs.mD k hk).cell,hc]) hK
theorem Sep.kN (hs:Sep h0 h L)(k:Nat){n:Option Addr}{K:Option Addr→M α}(hk:L[k]? =some (aBlk b cs))(hc:cs[o]? =some (.pointer n))(hK:K n h Q):bz ⟨b,o,none⟩ K h Q:=
 Jf (by rw[(hs.mD k hk).cell,hc]) hK
theorem Sep.bu (hs:Sep h0 h L)(k:Nat){s:Sl}{K:Sl→M α}(hk:L[k]? =some (aBlk b cs))(hc:cs[o]? =some (.slice s.p s.n s.c))(hK:K s h Q):aw ⟨b,o,none⟩ K h Q:=
 om (p:=s.p) (n:=s.n) (c:=s.c) (by rw[(hs.mD k hk).cell,hc]) hK
theorem Sep.e5Y (hs:Sep h0 h L)(k:Nat){p:Option Addr}{n c:Nat}{K:Sl→M α}(hk:L[k]? =some (aBlk b cs))(hc:cs[o]? =some (.slice p n c))(hK:K ⟨p,n,c⟩ h Q):aw ⟨b,o,none⟩ K h Q:=
 om (by rw[(hs.mD k hk).cell,hc]) hK
theorem Sep.st (hs:Sep h0 h L)(k:Nat){v:Value}{K:M α}(hk:L[k]? =some (aBlk b cs))(hc:cs[o]?.isSome=true)(hv:v.oneCell'=true)(hK:∀h',Sep h0 h' (L.set k (aBlk b (cs.set o v)))→K h' Q):an ⟨b,o,none⟩ v K h Q:=by
 have hb:=hs.mD k hk
 refine⟨hv,by rw[hb.cell];exact hc,hb.free _,hK _ (hs.sP k hk ?_)⟩
 rintro F ⟨rfl,_⟩
 exact⟨[b],⟨rfl,hb.set o v⟩,.set _ _ _ (by simp),id,fun b hb=>.inl hb⟩
theorem Sep.new (hs:Sep h0 h L){cells:Array Value}{T:TypeId}{K:Addr→M α}(hK:∀b h',Sep h0 h' (aBlk b cells.toList::L)→K ⟨b,0,none⟩ h' Q):aJ cells T K h Q:=
 hK _ _ (hs.push cells T)
variable {X:Type}{enc:X→List Value}{sz:Nat}{s:Sl}{xs:List X}
def At (s:Sl)(a:Addr)(i sz:Nat):Prop:=∃p,s.p=some p∧a=p.add (i*sz)
theorem Addr.add_zero' (a:Addr):a.add 0=a:=by unfold Addr.add;split<;>simp_all
theorem Sep.bn (hs:Sep h0 h L)(k:Nat)(hk:L[k]? =some (aRow enc sz s xs)):s.n=xs.length:=by
 obtain⟨F,hF,_⟩:=hs.holds k hk
 exact hF.1
theorem Sep.Um (hs:Sep h0 h L)(k:Nat)(hk:L[k]? =some (aRow enc sz s xs)):s.n≤s.c:=by
 obtain⟨F,⟨h1,h2⟩,_⟩:=hs.holds k hk
 rcases h2 with ⟨hn,hc,_⟩|⟨b,o,pre,rest,e1,rfl,e3,e4,e5,e6⟩
 ·omega
 ·exact e5
theorem Sep.idx (hs:Sep h0 h L)(k:Nat){i:Int}{K:Addr→M α}(hk:L[k]? =some (aRow enc sz s xs))(i0:0≤i)(i1:i<xs.length)(hK:∀a,At s a i.toNat sz→K a h Q):bd s i sz K h Q:=by
 obtain⟨F,⟨h1,h2⟩,_⟩:=hs.holds k hk
 rcases h2 with ⟨hn,hc,_⟩|⟨b,o,pre,rest,e1,rfl,e3,e4,e5,e6⟩
 ·omega
 ·exact⟨_,e1,i0,by omega,hK _ ⟨_,e1,rfl⟩⟩
theorem Sep.yH (hs:Sep h0 h L)(k:Nat){a:Addr}{i j:Nat}{x:X}{v:Value}(hk:L[k]? =some (aRow enc sz s xs))(hl:∀x,(enc x).length=sz)(ha:At s a i sz)(hx:xs[i]? =some x)(hv:(enc x)[j]? =some v):
  hcell h (a.add j)=some v∧gM h (a.add j)=false:=by
 obtain⟨F,⟨h1,h2⟩,_⟩:=hs.holds k hk
 have hlt:=(List.getElem?_eq_some_iff.1 hx).1
 rcases h2 with ⟨hn,hc,_⟩|⟨b,o,pre,rest,e1,rfl,e3,e4,e5,e6⟩
 ·omega
 ·obtain⟨p,hp,rfl⟩:=ha
  rw[e1]at hp
  obtain rfl:=Option.some.inj hp
  have hj:j<sz:=by have:=(List.getElem?_eq_some_iff.1 hv).1;rw[hl]at this;exact this
  have hle:i*sz+j<xs.length*sz:=by
   have:(i+1)*sz≤xs.length*sz:=Nat.mul_le_mul_right _ (by omega)
   rw[Nat.add_mul]at this;omega
  rw[ay,ay,e3.cell,e3.free]
  refine⟨?_,rfl⟩
  rw[List.append_assoc,List.getElem?_append_right (by omega),List.getElem?_append_left (by rw[bZ hl];omega)]
  rw[show o+i*sz+j-pre.length=i*sz+j by omega,vm hl xs i j x hx hj,hv]
theorem Sep.e5Z (hs:Sep h0 h L)(k:Nat){a:Addr}{i j:Nat}{x x':X}{v:Value}(hk:L[k]? =some (aRow enc sz s xs))(hl:∀x,(enc x).length=sz)(ha:At s a i sz)(hx:xs[i]? =some x)(hj:j<sz)(he:enc x'=(enc x).set j v):
  Sep h0 (gA h (a.add j) v) (L.set k (aRow enc sz s (xs.set i x'))):=by
 refine hs.sP k hk ?_
 rintro F ⟨h1,h2⟩
 have hlt:=(List.getElem?_eq_some_iff.1 hx).1
 rcases h2 with ⟨hn,hc,_⟩|⟨b,o,pre,rest,e1,rfl,e3,e4,e5,e6⟩
 ·omega
 ·obtain⟨p,hp,rfl⟩:=ha
  rw[e1]at hp
  obtain rfl:=Option.some.inj hp
  rw[ay,ay]
  have hle:i*sz+j<xs.length*sz:=by
   have:(i+1)*sz≤xs.length*sz:=Nat.mul_le_mul_right _ (by omega)
   rw[Nat.add_mul]at this;omega
  refine⟨[b],⟨by simpa using h1,.inr ⟨b,o,pre,rest,e1,rfl,?_,e4,e5,e6⟩⟩,.set _ _ _ (by simp),id,fun b hb=>.inl hb⟩
  have:=e3.set (o+i*sz+j) v
  rw[List.append_assoc,List.set_append_right _ _ (by omega),List.set_append_left _ _ (by rw[bZ hl];omega)]at this
  rw[show o+i*sz+j-pre.length=i*sz+j by omega,CU hl xs i j x x' v hx hj he]at this
  rw[List.append_assoc]
  exact this
theorem Sep.iu (hs:Sep h0 h L)(k:Nat){a:Addr}{i j:Nat}{x:X}{kd:IntKind}{n:Int}{K:Int→M α}(hk:L[k]? =some (aRow enc sz s xs))(hl:∀x,(enc x).length=sz)(ha:At s a i sz)(hx:xs[i]? =some x)(hv:(enc x)[j]? =some (.int kd n))(hK:K n h Q):ab kd (a.add j) K h Q:=
 qH (hs.yH k hk hl ha hx hv).1 hK
theorem Sep.AW (hs:Sep h0 h L)(k:Nat){a:Addr}{i j:Nat}{x:X}{n:Bool}{K:Bool→M α}(hk:L[k]? =some (aRow enc sz s xs))(hl:∀x,(enc x).length=sz)(ha:At s a i sz)(hx:xs[i]? =some x)(hv:(enc x)[j]? =some (.bool n))(hK:K n h Q):g9 (a.add j) K h Q:=
 AV (hs.yH k hk hl ha hx hv).1 hK
theorem Sep.e6a (hs:Sep h0 h L)(k:Nat){a:Addr}{i j:Nat}{x:X}{n:Sl}{K:Sl→M α}(hk:L[k]? =some (aRow enc sz s xs))(hl:∀x,(enc x).length=sz)(ha:At s a i sz)(hx:xs[i]? =some x)(hv:(enc x)[j]? =some (.slice n.p n.n n.c))(hK:K n h Q):aw (a.add j) K h Q:=
 om (p:=n.p) (n:=n.n) (c:=n.c) (hs.yH k hk hl ha hx hv).1 hK
theorem Sep.K7 (hs:Sep h0 h L)(k:Nat){a:Addr}{i j:Nat}{x:X}{n:Option Addr}{K:Option Addr→M α}(hk:L[k]? =some (aRow enc sz s xs))(hl:∀x,(enc x).length=sz)(ha:At s a i sz)(hx:xs[i]? =some x)(hv:(enc x)[j]? =some (.pointer n))(hK:K n h Q):bz (a.add j) K h Q:=
 Jf (hs.yH k hk hl ha hx hv).1 hK
theorem Sep.sR (hs:Sep h0 h L)(k:Nat){a:Addr}{i j:Nat}{x:X}(x':X){v:Value}{K:M α}(hk:L[k]? =some (aRow enc sz s xs))(hl:∀x,(enc x).length=sz)(ha:At s a i sz)(hx:xs[i]? =some x)(hj:j<sz)(he:enc x'=(enc x).set j v)(hv:v.oneCell'=true)
  (hK:∀h',Sep h0 h' (L.set k (aRow enc sz s (xs.set i x')))→K h' Q):an (a.add j) v K h Q:=by
 have hlen:=hl x
 obtain⟨u,hu⟩:∃u,(enc x)[j]? =some u:=⟨(enc x)[j],List.getElem?_eq_getElem (by omega)⟩
 obtain⟨c1,c2⟩:=hs.yH k hk hl ha hx hu
 exact⟨hv,by rw[c1];rfl,c2,hK _ (hs.e5Z k hk hl ha hx hj he)⟩
theorem Sep.ild (hs:Sep h0 h L)(k:Nat){a:Addr}{i:Nat}{kd:IntKind}{xs:List Int}{K:Int→M α}(hk:L[k]? =some (aRow (fun z=>[.int kd z]) 1 s xs))(ha:At s a i 1)(hi:i<xs.length)(hK:K (xs[i]'hi) h Q):ab kd a K h Q:=by
 have:=hs.iu k (a:=a) (i:=i) (j:=0) (K:=K) (Q:=Q) hk (fun _=>rfl) ha (List.getElem?_eq_getElem hi) rfl hK
 rwa [Addr.add_zero']at this
theorem Sep.ist (hs:Sep h0 h L)(k:Nat){a:Addr}{i:Nat}{kd:IntKind}{xs:List Int}{v:Int}{K:M α}(hk:L[k]? =some (aRow (fun z=>[.int kd z]) 1 s xs))(ha:At s a i 1)(hi:i<xs.length)
  (hK:∀h',Sep h0 h' (L.set k (aRow (fun z=>[.int kd z]) 1 s (xs.set i v)))→K h' Q):an a (.int kd v) K h Q:=by
 have:=hs.sR k (a:=a) (i:=i) (j:=0) (K:=K) (Q:=Q) v hk (fun _=>rfl) ha (List.getElem?_eq_getElem hi) (Nat.zero_lt_one) rfl rfl hK
 rwa [Addr.add_zero']at this
theorem kO.row (hs:Sep h0 h L)(k:Nat){b n:Nat}{cs:List Value}(hk:L[k]? =some (aBlk b cs))(hcs:cs=xs.flatMap enc)(hn:n=xs.length):Sep h0 h (L.set k (aRow enc sz ⟨some ⟨b,0,none⟩,n,n⟩ xs)):=by
 refine hs.keep k hk ?_
 rintro F ⟨rfl,hb⟩
 exact⟨hn,.inr ⟨b,0,[],[],rfl,rfl,by rw[hcs]at hb;simpa using hb,rfl,Nat.le_refl _,by simp⟩⟩
theorem K8 (zero:Array Value)(n:Nat):(eK zero n).toList=(List.replicate n zero.toList).flatten:=by
 induction n with
 |zero=>simp[eK]
 |succ n ih=>
  rw[List.replicate_succ',List.flatten_append,←ih]
  unfold eK
  rw[Nat.add_mul,Nat.one_mul]
  simp only[Array.toList_map,Array.toList_range,List.range_add,List.map_append,List.map_map,List.flatten_cons,List.flatten_nil,List.append_nil]
  congr 1
  apply List.ext_getElem
  ·simp
  ·intro i h1 h2
   simp at h1
   simp[Nat.mul_add_mod,Nat.mod_eq_of_lt h1,h1]
theorem Sep.make (hs:Sep h0 h L)(enc:X→List Value)(sz:Nat)(z:X){zero:Array Value}{T bytes:Nat}{l:Int}{K:Sl→M α}(he:enc z=zero.toList)(l0:0≤l)(l1:bytes*l≤2 ^ 48)(l2:l≤9223372036854775807)
  (hK:∀s h',s.n=l.toNat→Sep h0 h' (aRow enc sz s (List.replicate l.toNat z)::L)→K s h' Q):uK T bytes zero l l K h Q:=by
 refine⟨l0,Int.le_refl _,l1,by rw[show IntKind.i64.max=9223372036854775807 by decide];exact l2,hK _ _ rfl ?_⟩
 have h1:=hs.push (eK zero l.toNat) T
 exact kO.row (enc:=enc) (xs:=List.replicate l.toNat z) (sz:=sz) h1 0 rfl (by rw[K8,←he];induction l.toNat with
  |zero=>rfl
  |succ n ih=>simp[List.replicate_succ,ih]) (by simp)
theorem Sep.AX (hs:Sep h0 h L)(enc:X→List Value)(sz:Nat)(s:Sl)(hn:s.n=0)(hc:s.c=0):Sep h0 h (aRow enc sz s []::L):=by
 obtain⟨hu,F,h1,hnd,hB⟩:=hs
 exact⟨hu,F,⟨[],F,rfl,⟨hn,.inl ⟨hn,hc,rfl⟩⟩,h1⟩,hnd,hB⟩
theorem Sep.fw (hs:Sep h0 h L)(enc:X→List Value)(sz:Nat):Sep h0 h (aRow enc sz ⟨none,0,0⟩ []::L):=hs.AX enc sz ⟨none,0,0⟩ rfl rfl
end sep
section row0
variable {h0 h:Hp}{L:List As}{α:Type}{Q:α→Hp→Prop}{X:Type}{enc:X→List Value}{sz:Nat}{s:Sl}{xs:List X}
theorem Sep.fR (hs:Sep h0 h L)(k:Nat){a:Addr}{i:Nat}{x:X}{kd:IntKind}{n:Int}{K:Int→M α}(hk:L[k]? =some (aRow enc sz s xs))(hl:∀x,(enc x).length=sz)(ha:At s a i sz)(hx:xs[i]? =some x)(hv:(enc x)[0]? =some (.int kd n))(hK:K n h Q):ab kd a K h Q:=by
 rw[←Addr.add_zero' a];exact hs.iu k hk hl ha hx hv hK
theorem Sep.b5x (hs:Sep h0 h L)(k:Nat){a:Addr}{i:Nat}{x:X}{n:Bool}{K:Bool→M α}(hk:L[k]? =some (aRow enc sz s xs))(hl:∀x,(enc x).length=sz)(ha:At s a i sz)(hx:xs[i]? =some x)(hv:(enc x)[0]? =some (.bool n))(hK:K n h Q):g9 a K h Q:=by
 rw[←Addr.add_zero' a];exact hs.AW k hk hl ha hx hv hK
theorem Sep.Un (hs:Sep h0 h L)(k:Nat){a:Addr}{i:Nat}{x:X}{n:Sl}{K:Sl→M α}(hk:L[k]? =some (aRow enc sz s xs))(hl:∀x,(enc x).length=sz)(ha:At s a i sz)(hx:xs[i]? =some x)(hv:(enc x)[0]? =some (.slice n.p n.n n.c))(hK:K n h Q):aw a K h Q:=by
 rw[←Addr.add_zero' a];exact hs.e6a k hk hl ha hx hv hK
theorem Sep.b5y (hs:Sep h0 h L)(k:Nat){a:Addr}{i:Nat}{x:X}{n:Option Addr}{K:Option Addr→M α}(hk:L[k]? =some (aRow enc sz s xs))(hl:∀x,(enc x).length=sz)(ha:At s a i sz)(hx:xs[i]? =some x)(hv:(enc x)[0]? =some (.pointer n))(hK:K n h Q):bz a K h Q:=by
 rw[←Addr.add_zero' a];exact hs.K7 k hk hl ha hx hv hK
theorem Sep.vo (hs:Sep h0 h L)(k:Nat){a:Addr}{i:Nat}{x:X}(x':X){v:Value}{K:M α}(hk:L[k]? =some (aRow enc sz s xs))(hl:∀x,(enc x).length=sz)(ha:At s a i sz)(hx:xs[i]? =some x)(hj:0<sz)(he:enc x'=(enc x).set 0 v)(hv:v.oneCell'=true)
  (hK:∀h',Sep h0 h' (L.set k (aRow enc sz s (xs.set i x')))→K h' Q):an a v K h Q:=by
 rw[←Addr.add_zero' a];exact hs.sR k x' hk hl ha hx hj he hv hK
end row0
theorem FP {X:Type}{enc:X→List Value}{sz:Nat}{s:Sl}{xs:List X}{F:List Nat}{h:Hp}(hl:∀x,(enc x).length=sz)(hF:(aRow enc sz s xs).holds F h):cn h s s.n sz=some (xs.flatMap enc):=by
 obtain⟨h1,h2⟩:=hF
 rcases h2 with ⟨hn,hc,_⟩|⟨b,o,pre,rest,e1,rfl,e3,e4,e5,e6⟩
 ·unfold cn
  have:xs=[]:=List.length_eq_zero_iff.1 (by omega)
  subst this
  rw[hn]
  cases s.p with
  |none=>rfl
  |some a=>simp[hcells]
 ·unfold cn
  rw[e1]
  simp only[]
  have xX:=bZ hl xs
  rw[kp e3 _ o 0 (by simp only[List.length_append,xX];rw[h1];omega),h1,←xX]
  simp[←e4,List.append_assoc]
section app
variable {h0 h:Hp}{L:List As}{α:Type}{Q:α→Hp→Prop}{X:Type}{enc:X→List Value}{sz:Nat}{s:Sl}{xs:List X}
theorem Sep.b7u (hs:Sep h0 h L)(k:Nat){T bytes:Nat}{zero:Array Value}{x:Sl}{K:Sl→M α}(ys:List X)(hk:L[k]? =some (aRow enc sz s xs))(hl:∀x,(enc x).length=sz)(hx:cn h x x.n sz=some (ys.flatMap enc))(TA:x.n=ys.length)(hone:∀v∈ys.flatMap enc,v.oneCell'=true)
  (hz:zero.size=sz) (hb:0<bytes) (hroom:(2*(xs.length+ys.length)+192)*bytes≤2 ^ 48)
  (hK:∀s' h',s'.n=xs.length+ys.length→Sep h0 h' (L.set k (aRow enc sz s' (xs++ys)))→K s' h' Q):bU T sz bytes zero s x K h Q:=by
 obtain⟨F,hF,hn,hB⟩:=hs.holds k hk
 have hold:=FP hl hF
 obtain⟨h1,h2⟩:=hF
 have hyl:=bZ hl ys
 have hxl:=bZ hl xs
 refine⟨_,hx,hone,?_⟩
 by_cases hle:s.n+x.n≤s.c
 ·rw[if_pos hle]
  rcases h2 with ⟨hn,hc,_⟩|⟨b,o,pre,rest,e1,rfl,e3,e4,e5,e6⟩
  ·have hx0:ys=[]:=List.length_eq_zero_iff.1 (by omega)
   have Uo:xs=[]:=List.length_eq_zero_iff.1 (by omega)
   subst hx0 Uo
   have e6b:x.n=0:=TA
   have sS:Sep h0 h (L.set k (aRow enc sz ⟨s.p,s.n+x.n,s.c⟩ ([]++[]))):=by
    refine hs.keep k hk ?_
    rintro F ⟨g1,g2⟩
    refine⟨by simp;omega,?_⟩
    rw[e6b,Nat.add_zero]
    exact g2
   have hq:=hK ⟨s.p,s.n+x.n,s.c⟩ h (by simp;omega) sS
   cases hp:s.p with
   |none=>rw[hp]at hq;exact hq
   |some a=>
    rw[hp]at hq
    exact⟨fun j h1 h2=>by simp at h2,by simpa[dQ]using hq⟩
  ·simp only[e1,ay]
   have e6c:(s.n)*sz+(ys.flatMap enc).length≤xs.length*sz+rest.length:=by
    have:(s.c-s.n)*sz≥x.n*sz:=Nat.mul_le_mul_right _ (by omega)
    rw[hyl,←TA,h1];rw[h1]at this e6;omega
   have hbl:o+s.n*sz+(ys.flatMap enc).length≤(pre++xs.flatMap enc++rest).length:=by
    simp only[List.length_append,hxl];omega
   obtain⟨g1,g2⟩:=rM (ys.flatMap enc) h (o+s.n*sz) 0 _ e3 (by omega)
   refine⟨fun j FQ hj=>?_,hK _ _ (by simp only;omega) (hs.sP k hk ?_)⟩
   ·rw[ay,e3.cell,e3.free]
    exact⟨by rw[List.getElem?_eq_getElem (by omega)];rfl,rfl⟩
   ·rintro F ⟨_,⟨AY,hc0,hF0⟩|⟨b',o',e6d,rest',f1,rfl,_⟩⟩
    ·have hx0:ys=[]:=List.length_eq_zero_iff.1 (by omega)
     have Uo:xs=[]:=List.length_eq_zero_iff.1 (by omega)
     subst hx0 Uo hF0
     exact⟨[],⟨by simp;omega,.inl ⟨by simp;omega,hc0,rfl⟩⟩,by simpa[dQ]using eB.refl _ h,id,fun b hb=>.inl hb⟩
    ·rw[e1]at f1
     simp only[Option.some.injEq,Addr.mk.injEq,and_true]at f1
     obtain⟨rfl,rfl⟩:=f1
     refine⟨[b],⟨by simp only[List.length_append];omega,.inr ⟨b,o,pre,rest.drop (ys.flatMap enc).length,rfl,rfl,?_,e4,hle,?_⟩⟩,g2.mono fun i _ hi=>by simp[hi],id,fun b hb=>.inl hb⟩
     ·rw[Nat.add_zero]at g1
      have e:o+s.n*sz=(pre++xs.flatMap enc).length:=by rw[List.length_append,hxl,h1,e4]
      rw[e,List.take_left' rfl]at g1
      have e2:(pre++xs.flatMap enc++rest).drop ((pre++xs.flatMap enc).length+(ys.flatMap enc).length)=rest.drop (ys.flatMap enc).length:=by
       rw[←List.drop_drop,List.drop_left' rfl]
      rw[e2]at g1
      rw[List.flatMap_append,←List.append_assoc]
      rw[←e]at g1
      exact g1
     ·rw[List.length_drop,hyl,←TA]
      have:(s.c-s.n)*sz-x.n*sz=(s.c-(s.n+x.n))*sz:=by rw[←Nat.sub_mul];congr 1;omega
      simp only
      omega
 ·rw[if_neg hle]
  have hnc:=vn (s.n+x.n) s.c (by omega)
  refine⟨hb,Nat.le_trans (Nat.mul_le_mul_right _ hnc) (by rw[h1,TA];exact hroom),_,hold,fun c hc=>?_⟩
  refine hK _ _ (by simp only;omega) ?_
  refine hs.sP k hk fun F' hF'=>⟨[h.size],⟨by simp only[List.length_append];omega,.inr ⟨h.size,0,[],(eK zero (c-(s.n+x.n))).toList,rfl,rfl,?_,rfl,hc,?_⟩⟩,.push _ _ _,by simp,by simp⟩
  ·have:=kO.new' h ((xs.flatMap enc++ys.flatMap enc).toArray++eK zero (c-(s.n+x.n))) T
   simpa using this
  ·rw[Array.length_toList,sN,hz]
   exact Nat.le_refl _
theorem Sep.lE (hs:Sep h0 h L)(k k2:Nat){T bytes b:Nat}{zero:Array Value}{K:Sl→M α}(y:X)(hk:L[k]? =some (aRow enc sz s xs))(hk2:L[k2]? =some (aBlk b (enc y)))(hl:∀x,(enc x).length=sz)(hone:∀v∈enc y,v.oneCell'=true)
  (hz:zero.size=sz) (hb:0<bytes) (hroom:(2*(xs.length+1)+192)*bytes≤2 ^ 48)
  (hK:∀s' h',s'.n=xs.length+1→Sep h0 h' (L.set k (aRow enc sz s' (xs++[y])))→K s' h' Q):bU T sz bytes zero s ⟨some ⟨b,0,none⟩,1,1⟩ K h Q:=by
 refine hs.b7u k [y] hk hl ?_ rfl (by simpa using hone) hz hb (by simpa using hroom) (by simpa using hK)
 unfold cn
 simp only[]
 rw[kp (hs.mD k2 hk2) _ 0 0 (by rw[hl];omega)]
 have:=hl y
 simp[←this]
theorem Sep.slc (hs:Sep h0 h L)(k:Nat){lo hi mx:Int}{K:Sl→M α}(hk:L[k]? =some (aRow enc sz s xs))(hl:∀x,(enc x).length=sz)(h1:0≤lo)(h2:lo≤hi)(h3:hi≤xs.length)(hmx:mx=s.c)
  (hK:∀s':Sl,s'.n=hi.toNat-lo.toNat→Sep h0 h (L.set k (aRow enc sz s' ((xs.take hi.toNat).drop lo.toNat)))→K s' h Q):mw s sz lo hi mx K h Q:=by
 have hcap:=hs.Um k hk
 have mF:=hs.bn k hk
 refine⟨h1,h2,by omega,by omega,hK _ rfl (hs.keep k hk ?_)⟩
 rintro F ⟨g1,g2⟩
 refine⟨by simp;omega,?_⟩
 rcases g2 with ⟨hn,hc,hF⟩|⟨b,o,pre,rest,e1,e2,e3,e4,e5,e6⟩
 ·exact .inl ⟨by show hi.toNat-lo.toNat=0;omega,by show mx.toNat-lo.toNat=0;omega,hF⟩
 ·have Up:xs=xs.take lo.toNat++((xs.take hi.toNat).drop lo.toNat++xs.drop hi.toNat):=by
   have:xs.take lo.toNat=(xs.take hi.toNat).take lo.toNat:=by rw[List.take_take];congr 1;omega
   rw[this,←List.append_assoc,List.take_append_drop,List.take_append_drop]
  have hlr:((xs.drop hi.toNat).flatMap enc).length=(xs.length-hi.toNat)*sz:=by rw[bZ hl,List.length_drop]
  have hl0:((xs.take lo.toNat).flatMap enc).length=lo.toNat*sz:=by rw[bZ hl,List.length_take,Nat.min_eq_left (by omega)]
  have hroom:(mx.toNat-lo.toNat-(hi.toNat-lo.toNat))*sz≤(xs.length-hi.toNat)*sz+rest.length:=by
   have e:mx.toNat-lo.toNat-(hi.toNat-lo.toNat)=(xs.length-hi.toNat)+(s.c-s.n):=by omega
   rw[e,Nat.add_mul];omega
  have hb:kO h b ((pre++(xs.take lo.toNat).flatMap enc)++((xs.take hi.toNat).drop lo.toNat).flatMap enc++((xs.drop hi.toNat).flatMap enc++rest)):=by
   have:xs.flatMap enc=(xs.take lo.toNat).flatMap enc++(((xs.take hi.toNat).drop lo.toNat).flatMap enc++(xs.drop hi.toNat).flatMap enc):=by
    rw[←List.flatMap_append,←List.flatMap_append,←Up]
   rw[this]at e3
   simpa[List.append_assoc]using e3
  by_cases hz:mx.toNat=lo.toNat
  ·simp only[if_pos hz]
   have hlo:lo.toNat=hi.toNat:=by omega
   have he:(xs.take hi.toNat).drop lo.toNat=[]:=by apply List.length_eq_zero_iff.1;simp;omega
   refine .inr ⟨b,o,pre,(xs.flatMap enc++rest),e1,e2,?_,e4,by show hi.toNat-lo.toNat≤mx.toNat-lo.toNat;omega,by show (mx.toNat-lo.toNat-(hi.toNat-lo.toNat))*sz≤_;rw[show mx.toNat-lo.toNat-(hi.toNat-lo.toNat)=0 by omega];omega⟩
   rw[he]
   simpa[List.append_assoc]using e3
  ·simp only[if_neg hz]
   refine .inr ⟨b,o+lo.toNat*sz,pre++(xs.take lo.toNat).flatMap enc,(xs.drop hi.toNat).flatMap enc++rest,by simp[e1],e2,hb,by rw[List.length_append,hl0,e4],by show hi.toNat-lo.toNat≤mx.toNat-lo.toNat;omega,?_⟩
   rw[List.length_append,hlr]
   exact hroom
end app
section br
variable {α:Type}{h:Hp}{Q:α→Hp→Prop}
theorem jS {p:Prop}[Decidable p]{x y:M α}(hx:p→x h Q)(hy:¬p→y h Q):aI (decide p) x y h Q:=by
 by_cases hp:p
 ·rw[decide_eq_true hp];exact hx hp
 ·rw[decide_eq_false hp];exact hy hp
theorem aM {b:Bool}{x y:M α}(hb:b=true)(hx:x h Q):aI b x y h Q:=by rw[hb];exact hx
theorem aA {b:Bool}{x y:M α}(hb:b=false)(hx:y h Q):aI b x y h Q:=by rw[hb];exact hx
end br
theorem Sep.e6e {α:Type}{h0 h:Hp}{L:List As}{Q:α→Hp→Prop}{k:IntKind}{s:Sl}{zs:List Int}(hs:Sep h0 h L)(hr:mr h0.size h0 k s zs){i:Int}{K:Int→M α}(i0:0≤i)(i1:i<zs.length)
  (hk:K (zs[i.toNat]'(by omega)) h Q):bd s i 1 (fun a=>ab k a K) h Q:=by
 refine (hr.under hs.under).idx i0 i1 fun a ha=>qH ha ?_
 have:zs.getD i.toNat 0=zs[i.toNat]'(by omega):=by simp[show i.toNat<zs.length by omega]
 rw[this];exact hk
theorem Sep.e6f {X α:Type}{h0 h:Hp}{L:List As}{Q:α→Hp→Prop}{enc:X→List Value}{sz:Nat}{s:Sl}{xs:List X}(hs:Sep h0 h L)(hr:fK h0.size h0 enc sz s xs){i:Int}{K:Addr→M α}(i0:0≤i)(i1:i<xs.length)
  (hk:∀a,(∀j v,(enc (xs[i.toNat]'(by omega)))[j]? =some v→hcell h (a.add j)=some v)→K a h Q):bd s i sz K h Q:=by
 refine (hr.under hs.under).idx i0 i1 fun x a hx ha=>hk a ?_
 have:xs[i.toNat]'(by omega)=x:=(List.getElem?_eq_some_iff.1 hx).2
 rw[this];exact ha
theorem RdB.mD {B b:Nat}{h:Hp}{zs:List Bool}{c:Nat}(hb:kO h b (zs.map (.bool ·)))(hB:b<B):RdB B h ⟨some ⟨b,0,none⟩,zs.length,c⟩ zs:=
 ⟨rfl,fun i z hz=>⟨_,rfl,hB,by
  rw[ay,hb.cell,Nat.zero_add]
  simp[hz]⟩⟩
def fieldsOf (P:Program)(t:TypeId):Option (List (TypeId×Nat)):=match P.underlying t with
 |some (.struct fs)=>some (fs.toList.map fun f=>(f.type,f.offset))
 |_=>none
section fields
variable {P:Program}{h:Hp}
theorem eC.fields {t:TypeId}{d:Nat}{cs:List Value}{l:List (TypeId×Nat)}(hl:fieldsOf P t=some l)(hr:eC P h (d+1) t cs):
  cs.length=P.cellsOf t∧∀(i:Nat) (e:TypeId) (o:Nat),l[i]? =some (e,o)→eC P h d e ((cs.drop o).take (P.cellsOf e)):=by
 unfold fieldsOf at hl
 unfold eC at hr
 split at hl
 ·rename_i fs hu
  rw[hu]at hr
  simp only[Option.some.injEq]at hl
  subst hl
  refine⟨hr.1,fun i e o hi=>?_⟩
  rw[List.getElem?_map]at hi
  cases hf:fs.toList[i]? with
  |none=>simp[hf]at hi
  |some f=>
   simp only[hf,Option.map_some,Option.some.injEq,Prod.mk.injEq]at hi
   obtain⟨rfl,rfl⟩:=hi
   exact hr.2 i f (by simpa using hf)
 ·cases hl
theorem eC.int {t:TypeId}{d:Nat}{k:IntKind}{cs:List Value}(hu:P.underlying t=some (.int k))(hr:eC P h (d+1) t cs):∃n,cs=[.int k n]∧k.min≤n∧n≤k.max:=by
 unfold eC at hr;rw[hu]at hr;exact hr
theorem eC.bool {t:TypeId}{d:Nat}{cs:List Value}(hu:P.underlying t=some .bool)(hr:eC P h (d+1) t cs):∃n,cs=[.bool n]:=by
 unfold eC at hr;rw[hu]at hr;exact hr
theorem eC.string {t:TypeId}{d:Nat}{cs:List Value}(hu:P.underlying t=some .string)(hr:eC P h (d+1) t cs):∃n,cs=[.string n]:=by
 unfold eC at hr;rw[hu]at hr;exact hr
theorem pE {X:Type}{enc:X→List Value}{ok:X→Prop}{sz:Nat}{t e:TypeId}{a:Option Addr}{len cap d:Nat}(ht:P.underlying t=some (.slice e))(hsz:P.cellsOf e=sz)(hpos:∀x,(enc x)≠[])
  (b7s:∀cs,eC P h d e cs→∃x,cs=enc x∧ok x) (hr:eC P h (d+1) t [.slice a len cap]):∃xs,fK h.size h enc sz ⟨a,len,cap⟩ xs∧∀x∈xs,ok x:=by
 obtain⟨xs,hx⟩:=CV (X:={ x:X // ok x}) (enc:=fun x=>enc x.1) (sz:=sz) ht hsz (fun x=>hpos x.1) (fun cs hcs=>by
  obtain⟨x,e,o⟩:=b7s cs hcs
  exact⟨⟨x,o⟩,e⟩) hr
 refine⟨xs.map (·.1),⟨by rw[List.length_map];exact hx.n,fun i z hz=>?_⟩,?_⟩
 ·rw[List.getElem?_map]at hz
  cases Jh:xs[i]? with
  |none=>simp[Jh]at hz
  |some x=>
   simp only[Jh,Option.map_some,Option.some.injEq]at hz
   subst hz
   exact hx.at_ i x Jh
 ·intro z hz
  obtain⟨x,_,rfl⟩:=List.mem_map.1 hz
  exact x.2
end fields
theorem tS {X:Type}(L:List X):(List.range L.length).filterMap (L[·]?)=L:=by
 induction L with
 |nil=>rfl
 |cons x l ih=>
  rw[List.length_cons,List.range_succ_eq_map,List.filterMap_cons]
  simp only[List.getElem?_cons_zero,List.filterMap_map,Function.comp_def,List.getElem?_cons_succ]
  rw[ih]
theorem Sep.re {h0 h:Hp}{L:List As}(hs:Sep h0 h L)(is:List Nat)(hp:is.isPerm (List.range L.length)=true):Sep h0 h (is.filterMap (L[·]?)):=by
 refine hs.perm ?_
 have h1:(is.filterMap (L[·]?)).Perm ((List.range L.length).filterMap (L[·]?)):=(List.isPerm_iff.1 hp).filterMap _
 rw[tS]at h1
 exact h1.symm
theorem ke.frame {h h':Hp}{r:Nat}{kd:IntKind}{f:Int→Option Value}{n:Nat}(hm:ke h r kd f n)(he:h'[r]? =h[r]?):ke h' r kd f n:=by
 obtain⟨m,c,h1,h2⟩:=hm
 exact⟨m,c,by rw[he,h1],h2⟩
theorem ke.lt {h:Hp}{r:Nat}{kd:IntKind}{f:Int→Option Value}{n:Nat}(hm:ke h r kd f n):r<h.size:=by
 obtain⟨m,c,h1,h2⟩:=hm
 exact (Array.getElem?_eq_some_iff.1 h1).1
theorem ke.new' (h:Hp)(kd:IntKind):ke (h.push (.map #[] 0)) h.size kd (fun _=>none) 0:=⟨[],0,by simp,by simp,rfl,by simp⟩
def aMap (r:Nat)(kd:IntKind)(f:Int→Option Value)(n:Nat):As:=⟨fun F h=>F=[r]∧ke h r kd f n,fun F h h' ⟨hF,hb⟩ he=>⟨hF,hb.frame (he r (by simp[hF]))⟩,fun F h ⟨hF,hb⟩ b' hb'=>by
 subst hF
 simp only[List.mem_singleton]at hb'
 subst hb'
 exact hb.lt⟩
section map
variable {α:Type}{h0 h:Hp}{L:List As}{Q:α→Hp→Prop}{r n:Nat}{kd:IntKind}{f:Int→Option Value}{key:Int}{v z:Value}
theorem Sep.FR (hs:Sep h0 h L)(kd:IntKind){K:Nat→M α}(hK:∀r h',Sep h0 h' (aMap r kd (fun _=>none) 0::L)→K r h' Q):mv K h Q:=by
 refine hK _ _ (hs.emp.pc ?_)
 rintro F rfl
 exact⟨[h.size],⟨rfl,.new' h kd⟩,.push _ _ _,by simp,by simp⟩
theorem Sep.map (hs:Sep h0 h L)(k:Nat)(hk:L[k]? =some (aMap r kd f n)):ke h r kd f n:=by
 obtain⟨F,⟨_,hm⟩,_⟩:=hs.holds k hk
 exact hm
theorem Sep.Uq (hs:Sep h0 h L)(k:Nat){K:Value→Bool→M α}(hk:L[k]? =some (aMap r kd f n))(hK:K ((f key).getD z) (f key).isSome h Q):qs kd r key z K h Q:=⟨f,n,hs.map k hk,hK⟩
theorem Sep.b7v (hs:Sep h0 h L)(k:Nat){f':Int→Option Value}{n':Nat}{h':Hp}(hk:L[k]? =some (aMap r kd f n))(hz:h'.size=h.size)(he:∀b,b≠r→h'[b]? =h[b]?)(hm:ke h' r kd f' n'):Sep h0 h' (L.set k (aMap r kd f' n')):=by
 refine hs.sP k hk ?_
 rintro F ⟨rfl,_⟩
 exact⟨[r],⟨rfl,hm⟩,⟨by omega,fun i _ hi=>he i (by simpa using hi)⟩,id,fun b hb=>.inl hb⟩
theorem Sep.AZ (hs:Sep h0 h L)(k:Nat){K:M α}(hk:L[k]? =some (aMap r kd f n))(hK:∀h',Sep h0 h' (L.set k (aMap r kd (fun j=>if j=key then some v else f j) (if (f key).isSome then n else n+1)))→K h' Q):gb kd r key v K h Q:=
 ⟨f,n,hs.map k hk,fun h' h1 h2 h3=>hK h' (hs.b7v k hk h1 h2 h3)⟩
@[simp] theorem fS {α:Type}(a:Nat)(k:Nat→M α):gT (some a) k=k a:=id rfl
@[simp] theorem a7T {α:Type}(b:Option Nat)(k:Option Nat→M α):unM (.map b) k=k b:=id rfl
theorem Sep.ldM (hs:Sep h0 h L)(k:Nat){b o:Nat}{cs:List Value}{p:Option Nat}{K:Option Nat→M α}(hk:L[k]? =some (aBlk b cs))(hc:cs[o]? =some (.map p))(hK:K p h Q):uJ ⟨b,o,none⟩ K h Q:=
 ⟨p,by rw[(hs.mD k hk).cell,hc],hK⟩
end map
theorem Sep.vp {α:Type}{h0 h:Hp}{L:List As}{Q:α→Hp→Prop}{k:IntKind}{s:Sl}{zs:List Int}(hs:Sep h0 h L)(hr:mr h0.size h0 k s zs){j:Nat}{K:Int→M α}(hj:j<zs.length)(hk:K (zs[j]'hj) h Q):bd s (j:Int) 1 (fun a=>ab k a K) h Q:=
 hs.e6e hr (by omega) (by omega) hk
structure Arg {X:Type} (h:Hp) (enc:X→List Value) (x:X) (a:Addr):Prop where
 at_:∀j v,(enc x)[j]? =some v→hcell h (a.add j)=some v
section arg
variable {X:Type}{h:Hp}{enc:X→List Value}{x:X}{a:Addr}{α:Type}{Q:α→Hp→Prop}{j:Nat}
theorem Sep.Ur {L:List As}{h0:Hp}{sz:Nat}{s:Sl}{xs:List X}(hs:Sep h0 h L)(hr:fK h0.size h0 enc sz s xs){j:Nat}{K:Addr→M α}(hj:j<xs.length)(hk:∀a,Arg h enc (xs[j]'hj) a→K a h Q):bd s (j:Int) sz K h Q:=
 hs.e6f hr (by omega) (by omega) fun a ha=>hk a ⟨ha⟩
theorem Arg.aB (ha:Arg h enc x a){kd:IntKind}{n:Int}{K:Int→M α}(hc:(enc x)[j]? =some (.int kd n))(hK:K n h Q):ab kd (a.add j) K h Q:=qH (ha.at_ _ _ hc) hK
theorem Arg.Tz (ha:Arg h enc x a){n:Bool}{K:Bool→M α}(hc:(enc x)[j]? =some (.bool n))(hK:K n h Q):g9 (a.add j) K h Q:=AV (ha.at_ _ _ hc) hK
theorem Arg.bu (ha:Arg h enc x a){p:Option Addr}{n c:Nat}{K:Sl→M α}(hc:(enc x)[j]? =some (.slice p n c))(hK:K ⟨p,n,c⟩ h Q):aw (a.add j) K h Q:=om (ha.at_ _ _ hc) hK
theorem Arg.mG (ha:Arg h enc x a){kd:IntKind}{n:Int}{K:Int→M α}(hc:(enc x)[0]? =some (.int kd n))(hK:K n h Q):ab kd a K h Q:=by rw[←Addr.add_zero' a];exact ha.aB hc hK
end arg
attribute [irreducible] aBlk aRow aStar aEx aPure aEmp aMap
end Go.Sb
end
section
namespace Go.Sb
open Go
theorem eC.slice {P:Program}{h:Hp}{t e:TypeId}{d:Nat}{cs:List Value}(hu:P.underlying t=some (.slice e))(hr:eC P h (d+1) t cs):∃s:Sl,cs=[.slice s.p s.n s.c]:=by
 unfold eC at hr
 rw[hu]at hr
 simp only[]at hr
 rcases hr with h0|⟨ad,l,c,hcs,_⟩
 ·exact⟨⟨none,0,0⟩,h0⟩
 ·exact⟨⟨some ad,l,c⟩,hcs⟩
theorem fK.mono {X:Type}{B B':Nat}{h:Hp}{enc:X→List Value}{sz:Nat}{s:Sl}{xs:List X}(hr:fK B h enc sz s xs)(hB:B≤B'):fK B' h enc sz s xs:=
 ⟨hr.n,fun i x hx=>by
  obtain⟨a,h1,h2,h3⟩:=hr.at_ i x hx
  exact⟨a,h1,Nat.lt_of_lt_of_le h2 hB,h3⟩⟩
theorem mr.mono {B B':Nat}{h:Hp}{k:IntKind}{s:Sl}{zs:List Int}(hr:mr B h k s zs)(hB:B≤B'):mr B' h k s zs:=
 ⟨hr.n,fun i x hx=>by
  obtain⟨a,h1,h2,h3⟩:=hr.at_ i x hx
  exact⟨a,h1,Nat.lt_of_lt_of_le h2 hB,h3⟩,hr.wf⟩
theorem Addr.CX (a:Addr)(i j:Nat):(a.add i).add j=a.add (i+j):=by
 unfold Addr.add
 by_cases hi:i=0
 ·subst hi;simp
 ·by_cases hj:j=0
  ·subst hj;simp[hi]
  ·simp[hi,hj,Nat.add_assoc]
theorem fK.cells {X:Type}{B:Nat}{h:Hp}{enc:X→List Value}{sz:Nat}{s:Sl}{xs:List X}(hr:fK B h enc sz s xs)(hl:∀x,(enc x).length=sz):cn h s s.n sz=some (xs.flatMap enc):=by
 unfold cn
 cases hp:s.p with
 |none=>
  cases xs with
  |nil=>rfl
  |cons x xs=>
   obtain⟨a,h1,_⟩:=hr.at_ 0 x rfl
   rw[hp]at h1;cases h1
 |some a=>
  have fG:∀i x,xs[i]? =some x→∀j v,(enc x)[j]? =some v→hcell h (a.add (i*sz+j))=some v:=by
   intro i x hx j v hv
   obtain⟨a',h1,_,h3⟩:=hr.at_ i x hx
   rw[hp]at h1
   obtain rfl:=Option.some.inj h1
   rw[←Addr.CX]
   exact h3 j v hv
  have key:∀(vs:List Value) (o:Nat),(∀j v,vs[j]? =some v→hcell h (a.add (o+j))=some v)→hcells h a o vs.length=some vs:=by
   intro vs
   induction vs with
   |nil=>intro o _;rfl
   |cons v vs ih=>
    intro o ho
    rw[List.length_cons,hcells]
    have h1:=ho 0 v rfl
    rw[Nat.add_zero]at h1
    rw[h1,ih (o+1) fun j w hw=>by have:=ho (j+1) w (by simpa using hw);rwa [show o+(j+1)=o+1+j by omega]at this]
  have xX:=bZ hl xs
  simp only[]
  rw[hr.n,←xX]
  refine key _ 0 fun j v hv=>?_
  rw[Nat.zero_add]
  have hj:=(List.getElem?_eq_some_iff.1 hv).1
  rw[xX]at hj
  have hsz:0<sz:=by
   rcases Nat.eq_zero_or_pos sz with h0|h0
   ·rw[h0,Nat.mul_zero]at hj;omega
   ·exact h0
  have hd:j / sz<xs.length:=Nat.div_lt_of_lt_mul (by rw[Nat.mul_comm];exact hj)
  have hm:=Nat.mod_lt j hsz
  have hjj:j=(j / sz)*sz+j%sz:=by rw[Nat.mul_comm];exact (Nat.div_add_mod j sz).symm
  have hx:xs[j / sz]? =some xs[j / sz]:=List.getElem?_eq_getElem hd
  have hg:=vm hl xs (j / sz) (j%sz) _ hx hm
  rw[←hjj,hv]at hg
  have:=fG _ _ hx (j%sz) v hg.symm
  rwa [←hjj]at this
theorem fK.now {X:Type}{h0 h:Hp}{L:List As}{enc:X→List Value}{sz:Nat}{s:Sl}{xs:List X}(hr:fK h0.size h0 enc sz s xs)(hs:Sep h0 h L):fK h.size h enc sz s xs:=
 (hr.under hs.under).mono hs.under.size
theorem mr.now {h0 h:Hp}{L:List As}{k:IntKind}{s:Sl}{zs:List Int}(hr:mr h0.size h0 k s zs)(hs:Sep h0 h L):mr h.size h k s zs:=
 (hr.under hs.under).mono hs.under.size
theorem Sep.Us {X:Type}{h0 h:Hp}{L:List As}{enc:X→List Value}{sz:Nat}{s:Sl}{xs:List X}(hs:Sep h0 h L)(k:Nat)(hk:L[k]? =some (aRow enc sz s xs))(hl:∀x,(enc x).length=sz)(hsz:0<sz):fK h.size h enc sz s xs:=by
 refine⟨hs.bn k hk,fun i x hx=>?_⟩
 obtain⟨F,hF,_⟩:=hs.holds k hk
 have hc:∀a,At s a i sz→∀j v,(enc x)[j]? =some v→hcell h (a.add j)=some v:=fun a ha j v hv=>(hs.yH k hk hl ha hx hv).1
 unfold aRow at hF
 obtain⟨h1,h2⟩:=hF
 have hlt:=(List.getElem?_eq_some_iff.1 hx).1
 rcases h2 with ⟨hn,hc,_⟩|⟨b,o,pre,rest,e1,rfl,e3,e4,e5,e6⟩
 ·omega
 ·exact⟨_,e1,e3.lt,fun j v hv=>hc _ ⟨_,e1,rfl⟩ j v hv⟩
theorem eC.len {P:Program}{h:Hp}{t e:TypeId}{d:Nat}{a:Option Addr}{len cap:Nat}(hu:P.underlying t=some (.slice e))(hr:eC P h (d+1) t [.slice a len cap]):(len:Int)≤9223372036854775807:=by
 unfold eC at hr
 rw[hu]at hr
 simp only[]at hr
 rcases hr with h0|⟨ad,l,c,hcs,h1,h2,_⟩
 ·simp only[List.cons.injEq,Value.slice.injEq,and_true]at h0
  omega
 ·simp only[List.cons.injEq,Value.slice.injEq,and_true]at hcs
  have:maxLen≤9223372036854775807:=by decide
  omega
theorem Sep.only {h0 h:Hp}{a:As}{X:List As}(hs:Sep h0 h (a::X)):Sep h0 h [a]:=by
 induction X with
 |nil=>exact hs
 |cons x X ih=>exact ih hs.swap.drop
theorem Sep.jN {h0 h:Hp}{L:List As}(n:Nat)(hs:Sep h0 h L)(is:List Nat)(hp:is.isPerm (List.range n)=true)(hn:n≤L.length):Sep h0 h (is.filterMap (L[·]?)++L.drop n):=by
 refine hs.perm ?_
 have h1:(is.filterMap (L[·]?)).Perm ((List.range n).filterMap (L[·]?)):=(List.isPerm_iff.1 hp).filterMap _
 have h2:∀(L:List As) (n:Nat),n≤L.length→(List.range n).filterMap (L[·]?)=L.take n:=by
  intro L
  induction L with
  |nil=>intro n hn;simp at hn;subst hn;rfl
  |cons x l ih=>
   intro n hn
   cases n with
   |zero=>rfl
   |succ n=>
    rw[List.range_succ_eq_map,List.filterMap_cons]
    simp only[List.getElem?_cons_zero,List.filterMap_map,Function.comp_def,List.getElem?_cons_succ]
    rw[ih n (by simpa using hn)]
    rfl
 rw[h2 L n hn]at h1
 have:=(h1.symm.append_right (L.drop n))
 rwa [List.take_append_drop]at this
def Vw (s x:Sl)(sz lo:Nat):Prop:=x.p=s.p.map (·.add (lo*sz))∨x.n=0
section view
variable {α:Type}{h0 h:Hp}{L:List As}{Q:α→Hp→Prop}{X:Type}{enc:X→List Value}{sz:Nat}{s x d:Sl}{xs:List X}
theorem b7w {lo hi mx:Int}{K:Sl→M α}(h1:0≤lo)(h2:lo≤hi)(h3:hi≤mx)(h4:mx≤s.c)(hK:∀x:Sl,Vw s x sz lo.toNat→x.n=hi.toNat-lo.toNat→x.c=mx.toNat-lo.toNat→K x h Q):mw s sz lo hi mx K h Q:=by
 refine⟨h1,h2,h3,h4,hK _ ?_ rfl rfl⟩
 by_cases hz:mx.toNat=lo.toNat
 ·right
  show hi.toNat-lo.toNat=0
  omega
 ·left
  simp only[if_neg hz]
theorem Vw.refl (s:Sl)(sz:Nat):Vw s s sz 0:=by
 left
 cases s.p with
 |none=>rfl
 |some a=>simp[Addr.add_zero']
theorem Sep.Ut (hs:Sep h0 h L)(k:Nat){lo m:Nat}(hk:L[k]? =some (aRow enc sz s xs))(hl:∀x,(enc x).length=sz)(hv:Vw s x sz lo)(hm:m≤x.n)(hlo:lo+m≤xs.length):cn h x m sz=some (((xs.drop lo).take m).flatMap enc):=by
 have h0':∀p,cn h ⟨p,x.n,x.c⟩ 0 sz=some []:=by
  intro p
  unfold cn
  cases p with
  |none=>rfl
  |some a=>simp[hcells]
 by_cases hm0:m=0
 ·subst hm0
  simpa using h0' x.p
 replace hv:x.p=s.p.map (·.add (lo*sz)):=by
  rcases hv with hv|hv
  ·exact hv
  ·omega
 obtain⟨F,hF,_⟩:=hs.holds k hk
 unfold aRow at hF
 obtain⟨h1,h2⟩:=hF
 rcases h2 with ⟨hn,hc,_⟩|⟨b,o,pre,rest,e1,rfl,e3,e4,e5,e6⟩
 ·omega
 ·have xX:=bZ hl xs
  have hle:(lo+m)*sz≤xs.length*sz:=Nat.mul_le_mul_right _ hlo
  rw[Nat.add_mul]at hle
  unfold cn
  rw[hv,e1]
  simp only[Option.map_some,ay]
  rw[kp e3 _ _ 0 (by simp only[List.length_append,xX];omega)]
  congr 1
  rw[List.append_assoc,Nat.add_zero,←e4,List.drop_append,List.drop_of_length_le (by omega),List.nil_append,show pre.length+lo*sz-pre.length=lo*sz by omega]
  have Up:xs=xs.take lo++((xs.drop lo).take m++(xs.drop lo).drop m):=by rw[List.take_append_drop,List.take_append_drop]
  have hA:((xs.take lo).flatMap enc).length=lo*sz:=by rw[bZ hl,List.length_take,Nat.min_eq_left (by omega)]
  have hB:(((xs.drop lo).take m).flatMap enc).length=m*sz:=by rw[bZ hl,List.length_take,List.length_drop,Nat.min_eq_left (by omega)]
  conv=>lhs;rw[Up]
  rw[List.flatMap_append,List.flatMap_append,List.append_assoc,List.append_assoc,←hA,List.drop_left' rfl,←hB,List.take_left' rfl]
theorem Sep.d3l (hs:Sep h0 h L)(k:Nat){lo:Nat}{K:Int→M α}(ys:List X)(hk:L[k]? =some (aRow enc sz s xs))(hl:∀x,(enc x).length=sz)(hv:Vw s d sz lo)(hx:cn h x (min x.n d.n) sz=some (ys.flatMap enc))(hyn:ys.length=min x.n d.n)
  (hone:∀v∈ys.flatMap enc,v.oneCell'=true) (hlo:lo+ys.length≤xs.length)
  (hK:∀h',Sep h0 h' (L.set k (aRow enc sz s (xs.take lo++(ys++xs.drop (lo+ys.length)))))→K (ys.length:Nat) h' Q):TS sz d x K h Q:=by
 refine⟨_,hx,hone,?_⟩
 rw[←hyn]
 have xX:=bZ hl xs
 have hyl:=bZ hl ys
 have hle:(lo+ys.length)*sz≤xs.length*sz:=Nat.mul_le_mul_right _ hlo
 rw[Nat.add_mul]at hle
 by_cases hy0:ys=[]
 ·subst hy0
  have hx0:xs.take lo++([]++xs.drop (lo+0))=xs:=by simp
  have CW:Sep h0 h (L.set k (aRow enc sz s (xs.take lo++([]++xs.drop (lo+0))))):=by
   rw[hx0]
   exact hs.keep k hk fun F hF=>hF
  have hq:=hK h CW
  cases hd:d.p with
  |none=>simpa using hq
  |some a=>
   refine⟨fun j h1 h2=>by simp at h2,?_⟩
   simpa[dQ]using hq
 have hy1:0<ys.length:=by cases ys with
  |nil=>exact absurd rfl hy0
  |cons y ys=>simp
 obtain⟨F,hF,_⟩:=hs.holds k hk
 unfold aRow at hF
 obtain⟨h1,h2⟩:=hF
 rcases h2 with ⟨hn,hc,_⟩|⟨b,o,pre,rest,e1,rfl,e3,e4,e5,e6⟩
 ·omega
 replace hv:d.p=s.p.map (·.add (lo*sz)):=by
  rcases hv with hv|hv
  ·exact hv
  ·omega
 rw[hv,e1]
 simp only[Option.map_some,ay]
 have hbl:o+lo*sz+0+(ys.flatMap enc).length≤(pre++xs.flatMap enc++rest).length:=by
  simp only[List.length_append,xX,hyl];omega
 obtain⟨g1,g2⟩:=rM (ys.flatMap enc) h (o+lo*sz) 0 _ e3 hbl
 refine⟨fun j FQ hj=>?_,hK _ (hs.sP k hk ?_)⟩
 ·rw[ay,e3.cell,e3.free]
  exact⟨by rw[List.getElem?_eq_getElem (by omega)];rfl,rfl⟩
 ·unfold aRow
  rintro F ⟨_,⟨AY,_⟩|⟨b',o',e6d,rest',f1,rfl,_⟩⟩
  ·omega
  ·rw[e1]at f1
   simp only[Option.some.injEq,Addr.mk.injEq,and_true]at f1
   obtain⟨rfl,rfl⟩:=f1
   refine⟨[b],⟨by simp only[List.length_append,List.length_take,List.length_drop];omega,.inr ⟨b,o,pre,rest,e1,rfl,?_,e4,e5,e6⟩⟩,g2.mono fun i _ hi=>by simp[hi],id,fun b hb=>.inl hb⟩
   have hA:((xs.take lo).flatMap enc).length=lo*sz:=by rw[bZ hl,List.length_take,Nat.min_eq_left (by omega)]
   have Up:xs=xs.take lo++((xs.drop lo).take ys.length++xs.drop (lo+ys.length)):=by rw[←List.drop_drop,List.take_append_drop,List.take_append_drop]
   have hB:(((xs.drop lo).take ys.length).flatMap enc).length=(ys.flatMap enc).length:=by rw[bZ hl,hyl,List.length_take,List.length_drop,Nat.min_eq_left (by omega)]
   have hC:xs.flatMap enc=(xs.take lo).flatMap enc++(((xs.drop lo).take ys.length).flatMap enc++(xs.drop (lo+ys.length)).flatMap enc):=by rw[←List.flatMap_append,←List.flatMap_append,←Up]
   rw[Nat.add_zero,hC]at g1
   have e7:o+lo*sz=(pre++(xs.take lo).flatMap enc).length:=by rw[List.length_append,hA,e4]
   have e8:pre++((xs.take lo).flatMap enc++(((xs.drop lo).take ys.length).flatMap enc++(xs.drop (lo+ys.length)).flatMap enc))++rest
     =(pre++(xs.take lo).flatMap enc)++((((xs.drop lo).take ys.length).flatMap enc)++((xs.drop (lo+ys.length)).flatMap enc++rest)):=by simp only[List.append_assoc]
   rw[e8,e7,List.take_left' rfl,←List.drop_drop,List.drop_left' rfl,←hB,List.drop_left' rfl]at g1
   rw[List.flatMap_append,List.flatMap_append,e7]
   simpa only[List.append_assoc]using g1
end view
abbrev tT:Sl→List Value:=fun s=>[.slice s.p s.n s.c]
section grid
variable {h0 h:Hp}{R:List As}{X:Type}{enc:X→List Value}{sz:Nat}{s:Sl}{qn:List (List X)}
theorem Sep.Uu:∀(R L:List As),Sep h0 h (db L::R)↔Sep h0 h (L++R)
 |_,[]=>Sep.all_nil
 |R,x::L=>by
  rw[Sep.all]
  constructor
  ·intro hs
   have h1:=(Sep.Uu (x::R) L).1 hs.swap
   refine h1.perm ?_
   exact List.perm_middle
  ·intro hs
   refine ((Sep.Uu (x::R) L).2 (hs.perm ?_)).swap
   exact List.perm_middle.symm
theorem Sep.tU {L:List As}:Sep h0 h (db L::R)↔Sep h0 h (L++R):=Sep.Uu R L
def aGrid (enc:X→List Value)(sz:Nat)(s:Sl)(qn:List (List X)):As:=aEx fun ss:List Sl=>aStar (aPure (ss.length=qn.length)) (aStar (aRow tT 1 s ss) (db (List.zipWith (aRow enc sz) ss qn)))
theorem oo:Sep h0 h (aGrid enc sz s qn::R)↔∃ss:List Sl,ss.length=qn.length∧Sep h0 h (aRow tT 1 s ss::db (List.zipWith (aRow enc sz) ss qn)::R):=by
 unfold aGrid;rw[Sep.ex];simp only[Sep.star,Sep.pure]
theorem Sep.Ji (hs:Sep h0 h (aGrid enc sz s qn::R))(i:Nat)(hi:i<qn.length):∃ss:List Sl,∃hl:ss.length=qn.length,Sep h0 h (aRow enc sz (ss[i]'(by omega)) (qn[i]'hi)::aRow tT 1 s ss::db ((List.zipWith (aRow enc sz) ss qn).eraseIdx i)::R):=by
 obtain⟨ss,hl,hs⟩:=oo.1 hs
 refine⟨ss,hl,?_⟩
 have h1:=Sep.tU.1 hs.swap
 have hk:(List.zipWith (aRow enc sz) ss qn++aRow tT 1 s ss::R)[i]? =some (aRow enc sz (ss[i]'(by omega)) (qn[i]'hi)):=by
  rw[List.getElem?_append_left (by simp;omega)]
  simp[List.getElem?_zipWith,hi,show i<ss.length by omega]
 have h2:=h1.at i hk
 rw[List.eraseIdx_append_of_lt_length (by simp;omega)]at h2
 have h3:Sep h0 h ((List.zipWith (aRow enc sz) ss qn).eraseIdx i++(aRow enc sz (ss[i]'(by omega)) (qn[i]'hi)::aRow tT 1 s ss::R)):=h2.perm List.perm_middle.symm
 exact (Sep.tU.2 h3).perm (.trans (.swap _ _ _) (.cons _ (.swap _ _ _)))
theorem Sep.FT {ss:List Sl}{i:Nat}{x:Sl}{xs:List X}(hs:Sep h0 h (aRow enc sz x xs::aRow tT 1 s (ss.set i x)::db ((List.zipWith (aRow enc sz) ss qn).eraseIdx i)::R))(hl:ss.length=qn.length)(hi:i<qn.length):Sep h0 h (aGrid enc sz s (qn.set i xs)::R):=by
 refine oo.2 ⟨ss.set i x,by simpa using hl,?_⟩
 have h1:Sep h0 h (db ((List.zipWith (aRow enc sz) ss qn).eraseIdx i)::aRow enc sz x xs::aRow tT 1 s (ss.set i x)::R):=hs.perm (.trans (.cons _ (.swap _ _ _)) (.swap _ _ _))
 have h2:=(Sep.tU.1 h1).perm List.perm_middle
 have h3:Sep h0 h (List.zipWith (aRow enc sz) (ss.set i x) (qn.set i xs)++aRow tT 1 s (ss.set i x)::R):=by
  refine Sep.perm h2 ?_
  have e:List.zipWith (aRow enc sz) (ss.set i x) (qn.set i xs)=(List.zipWith (aRow enc sz) ss qn).set i (aRow enc sz x xs):=by
   apply List.ext_getElem?
   intro j
   rw[List.getElem?_zipWith,List.getElem?_set,List.getElem?_set,List.getElem?_set]
   by_cases hij:i=j
   ·subst hij
    simp[hi,hl]
   ·simp[hij,List.getElem?_zipWith]
  rw[e]
  have:=set_perm (x:=aRow enc sz x xs) i (List.zipWith (aRow enc sz) ss qn) (by simp;omega)
  exact (this.append_right _)
 exact (Sep.tU.2 h3).swap
theorem Sep.b5z {ss:List Sl}{i:Nat}{xs:List X}(hl:ss.length=qn.length)(hi:i<qn.length)(hs:Sep h0 h (aRow enc sz (ss[i]'(by omega)) xs::aRow tT 1 s ss::db ((List.zipWith (aRow enc sz) ss qn).eraseIdx i)::R)):Sep h0 h (aGrid enc sz s (qn.set i xs)::R):=
 Sep.FT (x:=ss[i]'(by omega)) (by rw[List.set_getElem_self];exact hs) hl hi
theorem Sep.Jj (enc:X→List Value)(sz:Nat)(hs:Sep h0 h R):∀n:Nat,Sep h0 h (List.zipWith (aRow enc sz) (List.replicate n ⟨none,0,0⟩) (List.replicate n [])++R)
 |0=>hs
 |n+1=>by
  rw[List.replicate_succ,List.replicate_succ,List.zipWith_cons_cons,List.cons_append]
  exact (Sep.Jj enc sz hs n).fw enc sz
theorem Sep.e6g (enc:X→List Value)(sz:Nat){n:Nat}(hs:Sep h0 h (aRow tT 1 s (List.replicate n ⟨none,0,0⟩)::R)):Sep h0 h (aGrid enc sz s (List.replicate n [])::R):=
 oo.2 ⟨List.replicate n ⟨none,0,0⟩,by simp,(Sep.tU.2 (Sep.Jj enc sz hs n)).swap⟩
theorem Sep.Uv (hs:Sep h0 h (aGrid enc sz s qn::R)):s.n=qn.length:=by
 obtain⟨ss,hl,hs⟩:=oo.1 hs
 have:=hs.bn 0 rfl
 omega
section hr
variable {H Y:Type}{enc:H→List Value}{sz:Nat}{f:H→Y→As}{s:Sl}{ys:List Y}
def aHR (enc:H→List Value)(sz:Nat)(f:H→Y→As)(s:Sl)(ys:List Y):As:=aEx fun hs:List H=>aStar (aPure (hs.length=ys.length)) (aStar (aRow enc sz s hs) (db (List.zipWith f hs ys)))
theorem mH:Sep h0 h (aHR enc sz f s ys::R)↔∃hs:List H,hs.length=ys.length∧Sep h0 h (aRow enc sz s hs::db (List.zipWith f hs ys)::R):=by
 unfold aHR;rw[Sep.ex];simp only[Sep.star,Sep.pure]
theorem Sep.b5A (hs:Sep h0 h (aHR enc sz f s ys::R))(i:Nat)(hi:i<ys.length):∃ss:List H,∃hl:ss.length=ys.length,Sep h0 h (f (ss[i]'(by omega)) (ys[i]'hi)::aRow enc sz s ss::db ((List.zipWith f ss ys).eraseIdx i)::R):=by
 obtain⟨ss,hl,hs⟩:=mH.1 hs
 refine⟨ss,hl,?_⟩
 have h1:=Sep.tU.1 hs.swap
 have hk:(List.zipWith f ss ys++aRow enc sz s ss::R)[i]? =some (f (ss[i]'(by omega)) (ys[i]'hi)):=by
  rw[List.getElem?_append_left (by simp;omega)]
  simp[List.getElem?_zipWith,hi,show i<ss.length by omega]
 have h2:=h1.at i hk
 rw[List.eraseIdx_append_of_lt_length (by simp;omega)]at h2
 have h3:Sep h0 h ((List.zipWith f ss ys).eraseIdx i++(f (ss[i]'(by omega)) (ys[i]'hi)::aRow enc sz s ss::R)):=h2.perm List.perm_middle.symm
 exact (Sep.tU.2 h3).perm (.trans (.swap _ _ _) (.cons _ (.swap _ _ _)))
theorem Sep.Uw {ss:List H}{i:Nat}{x:H}{y:Y}(hs:Sep h0 h (f x y::aRow enc sz s (ss.set i x)::db ((List.zipWith f ss ys).eraseIdx i)::R))(hl:ss.length=ys.length)(hi:i<ys.length):Sep h0 h (aHR enc sz f s (ys.set i y)::R):=by
 refine mH.2 ⟨ss.set i x,by simpa using hl,?_⟩
 have h1:Sep h0 h (db ((List.zipWith f ss ys).eraseIdx i)::f x y::aRow enc sz s (ss.set i x)::R):=hs.perm (.trans (.cons _ (.swap _ _ _)) (.swap _ _ _))
 have h2:=(Sep.tU.1 h1).perm List.perm_middle
 have h3:Sep h0 h (List.zipWith f (ss.set i x) (ys.set i y)++aRow enc sz s (ss.set i x)::R):=by
  refine Sep.perm h2 ?_
  have e:List.zipWith f (ss.set i x) (ys.set i y)=(List.zipWith f ss ys).set i (f x y):=by
   apply List.ext_getElem?
   intro j
   rw[List.getElem?_zipWith,List.getElem?_set,List.getElem?_set,List.getElem?_set]
   by_cases hij:i=j
   ·subst hij
    simp[hi,hl]
   ·simp[hij,List.getElem?_zipWith]
  rw[e]
  have:=set_perm (x:=f x y) i (List.zipWith f ss ys) (by simp;omega)
  exact (this.append_right _)
 exact (Sep.tU.2 h3).swap
theorem Sep.d3m {ss:List H}{i:Nat}{y:Y}(hl:ss.length=ys.length)(hi:i<ys.length)(hs:Sep h0 h (f (ss[i]'(by omega)) y::aRow enc sz s ss::db ((List.zipWith f ss ys).eraseIdx i)::R)):Sep h0 h (aHR enc sz f s (ys.set i y)::R):=
 Sep.Uw (x:=ss[i]'(by omega)) (by rw[List.set_getElem_self];exact hs) hl hi
theorem Sep.b5B {ss:List H}{x:H}{y:Y}{s':Sl}(hl:ss.length=ys.length)(hs:Sep h0 h (f x y::aRow enc sz s' (ss++[x])::db (List.zipWith f ss ys)::R)):Sep h0 h (aHR enc sz f s' (ys++[y])::R):=by
 refine mH.2 ⟨ss++[x],by simp[hl],?_⟩
 have h1:Sep h0 h (db (List.zipWith f ss ys)::f x y::aRow enc sz s' (ss++[x])::R):=hs.perm (.trans (.cons _ (.swap _ _ _)) (.swap _ _ _))
 have h2:=Sep.tU.1 h1
 refine Sep.swap (Sep.tU.2 ?_)
 rw[List.zipWith_append hl]
 simpa using h2
theorem Sep.d3n (hs:Sep h0 h (aRow enc sz s []::R)):Sep h0 h (aHR enc sz f s []::R):=by
 refine mH.2 ⟨[],rfl,?_⟩
 refine Sep.swap (Sep.tU.2 ?_)
 simpa using hs
theorem Sep.d3o (hs:Sep h0 h (aHR enc sz f s ys::R)):s.n=ys.length:=by
 obtain⟨ss,hl,hs⟩:=mH.1 hs
 have:=hs.bn 0 rfl
 omega
end hr
theorem Sep.sst {L:List As}{α:Type}{Q:α→Hp→Prop}(hs:Sep h0 h L)(k:Nat){a:Addr}{i:Nat}{xs:List Sl}{p:Option Addr}{n c:Nat}{K:M α}(hk:L[k]? =some (aRow (fun s:Sl=>[.slice s.p s.n s.c]) 1 s xs))(ha:At s a i 1)(hi:i<xs.length)
 (hK:∀h',Sep h0 h' (L.set k (aRow (fun s:Sl=>[.slice s.p s.n s.c]) 1 s (xs.set i ⟨p,n,c⟩)))→K h' Q):an a (.slice p n c) K h Q:=
 hs.vo k ⟨p,n,c⟩ hk (fun _=>rfl) ha (List.getElem?_eq_getElem hi) Nat.zero_lt_one rfl rfl hK
theorem aK {α:Type}{x y:M α}{Q:α→Hp→Prop}(hx:x h Q)(hy:y h Q):aG x y h Q:=⟨hx,hy⟩
section gd
variable {α:Type}{h:Hp}{Q:α→Hp→Prop}
theorem cW {kd:IntKind}{a:Addr}{k:Int→M α}(x:ab kd a k h Q):ab kd a k h Q:=x
theorem jT {a:Addr}{k:Sl→M α}(x:aw a k h Q):aw a k h Q:=x
theorem Jk {c:Array Value}{T:TypeId}{k:Addr→M α}(x:aJ c T k h Q):aJ c T k h Q:=x
theorem jE {a:Addr}{v:Value}{k:M α}(x:an a v k h Q):an a v k h Q:=x
theorem a7U {T:TypeId}{z b:Nat}{zero:Array Value}{s y:Sl}{k:Sl→M α}(x:bU T z b zero s y k h Q):bU T z b zero s y k h Q:=x
end gd
attribute [irreducible] aGrid aHR
end grid
end Go.Sb
end
section
namespace Go.Sb
open Go
section
variable {α:Type}{h0 h:Hp}{L:List As}{Q:α→Hp→Prop}{X:Type}{enc:X→List Value}{sz:Nat}{s:Sl}{xs:List X}
theorem Sep.cut (hs:Sep h0 h L)(k:Nat)(hk:L[k]? =some (aRow enc sz s xs))(hl:∀x,(enc x).length=sz){m:Nat}(hm:m≤xs.length):Sep h0 h (L.set k (aRow enc sz ⟨s.p,m,s.c⟩ (xs.take m))):=by
 have:=(Sep.slc (α:=Unit) hs k (lo:=0) (hi:=m) (mx:=s.c) (K:=fun s' h' _=>Sep h0 h' (L.set k (aRow enc sz s' ((xs.take m).drop 0)))) (Q:=fun _ _=>True) hk hl (by omega) (by omega) (by omega) rfl (fun s' _ hs=>by simpa using hs)).2.2.2.2
 have e:(⟨if (s.c:Int).toNat=(0:Int).toNat then s.p else s.p.map (·.add ((0:Int).toNat*sz)),(m:Int).toNat-(0:Int).toNat,(s.c:Int).toNat-(0:Int).toNat⟩:Sl)=⟨s.p,m,s.c⟩:=by
  congr 1
  split
  ·rfl
  ·cases s.p with
   |none=>rfl
   |some a=>simp[Addr.add_zero']
 rw[e]at this
 simpa using this
end
end Go.Sb
end
section
namespace Go.Sb
open Go
theorem mr.slc {α:Type}{B:Nat}{g h:Hp}{k:IntKind}{s:Sl}{zs:List Int}(hr:mr B g k s zs)(hc:s.n≤s.c){lo hi mx:Int}{K:Sl→M α}{Q:α→Hp→Prop}(h1:0≤lo)(h2:lo≤hi)(h3:hi≤zs.length)(hmx:mx=s.c)
  (hK:∀x:Sl,mr B g k x ((zs.take hi.toNat).drop lo.toNat)→x.n≤x.c→K x h Q):mw s 1 lo hi mx K h Q:=by
 have hn:=hr.n
 refine⟨h1,h2,by omega,by omega,hK _ ⟨?_,?_,?_⟩ ?_⟩
 ·show hi.toNat-lo.toNat=_
  rw[List.length_drop,List.length_take];omega
 ·intro i z hz
  have hil:=(List.getElem?_eq_some_iff.1 hz).1
  rw[List.length_drop,List.length_take]at hil
  rw[List.getElem?_drop,List.getElem?_take,if_pos (by omega)]at hz
  obtain⟨a,e1,e2,e3⟩:=hr.at_ _ z hz
  simp only[]
  rw[if_neg (by omega),e1,Option.map_some]
  refine⟨_,rfl,by rw[fj];exact e2,?_⟩
  rw[Addr.CX,Nat.mul_one]
  exact e3
 ·intro z hz
  exact hr.wf z (List.mem_of_mem_take (List.mem_of_mem_drop hz))
 ·show hi.toNat-lo.toNat≤mx.toNat-lo.toNat
  omega
theorem mr.toE {B:Nat}{h:Hp}{k:IntKind}{s:Sl}{zs:List Int}(hr:mr B h k s zs):fK B h (fun z=>[.int k z]) 1 s zs:=
 ⟨hr.n,fun i z hz=>by
  obtain⟨a,e1,e2,e3⟩:=hr.at_ i z hz
  refine⟨a,e1,e2,fun j v hv=>?_⟩
  cases j with
  |zero=>
   simp only[List.getElem?_cons_zero,Option.some.injEq]at hv
   subst hv
   rw[Addr.add_zero',Nat.mul_one]
   exact e3
  |succ j=>simp at hv⟩
theorem mr.cells {B:Nat}{h:Hp}{k:IntKind}{s:Sl}{zs:List Int}(hr:mr B h k s zs):cn h s s.n 1=some (zs.flatMap fun z=>[.int k z]):=hr.toE.cells fun _=>rfl
section
variable {α:Type}{h0 h:Hp}{L:List As}{Q:α→Hp→Prop}{s x:Sl}{kd:IntKind}{xs ys:List Int}
end
theorem eC.cap {P:Program}{h:Hp}{t e:TypeId}{d:Nat}{a:Option Addr}{len cap:Nat}(hu:P.underlying t=some (.slice e))(hr:eC P h (d+1) t [.slice a len cap]):len≤cap:=by
 unfold eC at hr
 rw[hu]at hr
 simp only[]at hr
 rcases hr with h0|⟨ad,l,c,hcs,h1,h2,_⟩
 ·simp only[List.cons.injEq,Value.slice.injEq,and_true]at h0
  omega
 ·simp only[List.cons.injEq,Value.slice.injEq,and_true]at hcs
  omega
end Go.Sb
end
section
namespace Go.Sb
open Go
end Go.Sb
end
section
set_option maxRecDepth 100000
namespace Go.Proofs.YtnpinhahjgbigaaGreatDoor
open Go Go.Sb
theorem mixed:Tryz.prog.follows .mixedOrders=true:=by kernel_rfl
def K9 (b a c:Int):M Value:=Nf Tryz.prog 28 #[.int .i64 b,.int .i64 a,.int .i64 c]
def Nzm (a:Sl)(b d:Int):M Value:=Nf Tryz.prog 29 #[.slice a.p a.n a.c,.int .i64 b,.int .i64 d]
def b7x (o q r s:Int)(a:Sl)(t:Int)(b d e f:Sl)(u h i j k l m:Int)(g:Sl):M Value:=Nf Tryz.prog 30 #[.agg #[.int .i64 o,.int .i64 q,.int .i64 r,.int .i64 s,.slice a.p a.n a.c,.int .i64 t,.slice b.p b.n b.c,.slice d.p d.n d.c,.slice e.p e.n e.c,.slice f.p f.n f.c],.int .i64 u,.agg #[.int .i64 h,.int .i64 i,.int .i64 j,.int .i64 k,.int .i64 l,.int .i64 m,.slice g.p g.n g.c]]
def b7y (g h i j:Int)(a:Sl)(k:Int)(b d e f:Sl):M Value:=Nf Tryz.prog 9 #[.agg #[.int .i64 g,.int .i64 h,.int .i64 i,.int .i64 j,.slice a.p a.n a.c,.int .i64 k,.slice b.p b.n b.c,.slice d.p d.n d.c,.slice e.p e.n e.c,.slice f.p f.n f.c]]
def b7z (g h i j:Int)(a:Sl)(k:Int)(b d e f:Sl):M Value:=Nf Tryz.prog 55 #[.agg #[.int .i64 g,.int .i64 h,.int .i64 i,.int .i64 j,.slice a.p a.n a.c,.int .i64 k,.slice b.p b.n b.c,.slice d.p d.n d.c,.slice e.p e.n e.c,.slice f.p f.n f.c]]
def b7A (a b c d:Int):M Value:=Nf Tryz.prog 111 #[.agg #[.int .i64 a,.int .i64 b,.int .i64 c,.int .i64 d]]
def CY (d b:Int)(a:Sl):M Value:=Nf Tryz.prog 112 #[.int .i64 d,.int .i64 b,.slice a.p a.n a.c]
def Nzb (q r s t:Int)(a:Sl)(u:Int)(b d e f:Sl)(i j k l m o:Int)(h g:Sl):M Value:=Nf Tryz.prog 113 #[.agg #[.int .i64 q,.int .i64 r,.int .i64 s,.int .i64 t,.slice a.p a.n a.c,.int .i64 u,.slice b.p b.n b.c,.slice d.p d.n d.c,.slice e.p e.n e.c,.slice f.p f.n f.c],.agg #[.int .i64 i,.int .i64 j,.int .i64 k,.int .i64 l,.int .i64 m,.int .i64 o,.slice h.p h.n h.c],.slice g.p g.n g.c]
def b7B (a:Sl)(b e d f:Int):M Value:=Nf Tryz.prog 72 #[.slice a.p a.n a.c,.int .i64 b,.int .i64 e,.int .i64 d,.int .i64 f]
def b7C (a:Sl)(b:Nat)(d e:Array Value):M Value:=Nf Tryz.prog 174 #[.slice a.p a.n a.c,.func (.func b) d e]
def d3p (b:Int)(c a:Option Addr):M Value:=Nf Tryz.prog 175 #[.int .i64 b,.pointer c,.pointer a]
def Nzw (a:Sl)(b d e f:Int):M Value:=Nf Tryz.prog 176 #[.slice a.p a.n a.c,.agg #[.int .i64 b,.int .i64 d,.int .i64 e,.int .i64 f]]
def Nzx (g h i j:Int)(a:Sl)(k:Int)(b d e f:Sl):M Value:=Nf Tryz.prog 177 #[.agg #[.int .i64 g,.int .i64 h,.int .i64 i,.int .i64 j,.slice a.p a.n a.c,.int .i64 k,.slice b.p b.n b.c,.slice d.p d.n d.c,.slice e.p e.n e.c,.slice f.p f.n f.c]]
def d3q (b c d:Int)(e a:Option Addr):M Value:=Nf Tryz.prog 178 #[.agg #[.int .i64 b,.int .i64 c,.int .i64 d],.pointer e,.pointer a]
def b7D (a:Sl)(b:Nat)(d e:Array Value):M Value:=Nf Tryz.prog 179 #[.slice a.p a.n a.c,.func (.func b) d e]
def b7E (a:Sl)(b:Nat)(d e:Array Value):M Value:=Nf Tryz.prog 180 #[.slice a.p a.n a.c,.func (.func b) d e]
def d3r (b d e f g h:Int)(a:Sl)(i:Option Addr):M Value:=Nf Tryz.prog 181 #[.agg #[.int .i64 b,.int .i64 d,.int .i64 e,.int .i64 f,.int .i64 g,.int .i64 h,.slice a.p a.n a.c],.pointer i]
def b7F (e f g a c b d:Int):M Value:=Nf Tryz.prog 139 #[.agg #[.int .i64 e,.int .i64 f,.int .i64 g],.int .i64 a,.int .i64 c,.int .i64 b,.int .i64 d]
def a7V (a:Sl)(b:Bool):M Value:=Nf Tryz.prog 140 #[.slice a.p a.n a.c,.bool b]
def d3s (a:Sl)(b:Nat)(d e:Array Value):M Value:=Nf Tryz.prog 238 #[.slice a.p a.n a.c,.func (.func b) d e]
def b7G (a b c d e f g:Int):M Value:=Nf Tryz.prog 239 #[.agg #[.int .i64 a,.int .i64 b,.int .i64 c],.agg #[.int .i64 d,.int .i64 e,.int .i64 f,.int .i64 g]]
def b7H (d:Option Addr)(b c a:Int):M Value:=Nf Tryz.prog 240 #[.pointer d,.agg #[.int .i64 b,.int .i64 c,.int .i64 a]]
def d3t (a:Sl)(b:Nat)(d e:Array Value):M Value:=Nf Tryz.prog 241 #[.slice a.p a.n a.c,.func (.func b) d e]
def d3u (a:Sl)(b:Nat)(d e:Array Value):M Value:=Nf Tryz.prog 242 #[.slice a.p a.n a.c,.func (.func b) d e]
def b7I (a:Int):M Value:=Nf Tryz.prog 206 #[.int .i64 a]
def LB (b a c:Int):M Value:=Nf Tryz.prog 207 #[.int .i64 b,.int .i64 a,.int .i64 c]
def b7J (a:Int):M Value:=Nf Tryz.prog 296 #[.int .i64 a]
def b7K (b c d e a:Int):M Value:=Nf Tryz.prog 297 #[.agg #[.int .i64 b,.int .i64 c,.int .i64 d,.int .i64 e],.int .i64 a]
def a7W (a b c:Int):M Value:=Nf Tryz.prog 298 #[.agg #[.int .i64 a,.int .i64 b],.int .i64 c]
def b7L (a:Sl)(b:Int):M Value:=Nf Tryz.prog 299 #[.slice a.p a.n a.c,.int .i64 b]
def d3v:M Value:=Nf Tryz.prog 316 #[]
def A1 (a:Int):M Value:=Nf Tryz.prog 334 #[.int .i64 a]
def a7X (a:Sl)(b:Int):M Value:=Nf Tryz.prog 286 #[.slice a.p a.n a.c,.int .i64 b]
def b7M (g h i j:Int)(a:Sl)(k:Int)(b d e f:Sl):M Value:=Nf Tryz.prog 27 #[.agg #[.int .i64 g,.int .i64 h,.int .i64 i,.int .i64 j,.slice a.p a.n a.c,.int .i64 k,.slice b.p b.n b.c,.slice d.p d.n d.c,.slice e.p e.n e.c,.slice f.p f.n f.c]]
def d3w (a b c:Int):M Value:=
 af (.bool ((decide (a≥b))&&(decide (a≤c))))
theorem e6h (n0 dZ rF){h Q}:d3w n0 dZ rF h Q→K9 n0 dZ rF h Q:=Nf.bh Tryz.call28 Tryz.func28 rfl mixed (cuts:=[]) (dm:=[]) (by kernel_rfl)
def a7Y (b d:Int)(a:Sl)(e f:Int):M Value:=Cut Tryz.prog 29 (aQ Tryz.f29 2) (bf [(1,.int .i64 b),(2,.int .i64 d),(9,.slice a.p a.n a.c),(10,.int .i64 e),(11,.int .i64 f)] 21 0)
def d3x (a:Sl)(b c:Int):M Value:=
 a7Y b c a (a.n:Int) 0
def Bz3 (b c:Int)(e:Sl)(d a:Int):M Value:=
 aI (decide (a<d)) (
 bd e a 1 fun f=>
 ab .i64 f fun g=>
 ai (K9 g b c) fun i=>
 da i fun h=>
 aI (!h) (
 af (.bool false)) (
 a7Y b c e d (IntKind.i64.wrap (a+(1:Int))))) (
 af (.bool true))
theorem e6i (l0 dZ rF){h Q}:d3x l0 dZ rF h Q→Nzm l0 dZ rF h Q:=Nf.bh Tryz.call29 Tryz.func29 rfl mixed (cuts:=[(2,[1,2,9,10,11])]) (dm:=[]) (by kernel_rfl)
theorem Sz3 (dZ rF t9 t10 t11){h Q}:Bz3 dZ rF t9 t10 t11 h Q→a7Y dZ rF t9 t10 t11 h Q:=Cut.bh Tryz.func29 mixed (cuts:=[(2,[1,2,9,10,11])]) (dm:=[]) (by kernel_rfl)
def a7Z (d:Int)(b e:Addr)(a:Sl)(f g:Int):M Value:=Cut Tryz.prog 30 (aQ Tryz.f30 7) (bf [(1,.int .i64 d),(3,.pointer (some b)),(5,.pointer (some e)),(67,.slice a.p a.n a.c),(68,.int .i64 f),(69,.int .i64 g)] 102 0)
def a8a (b:Int)(a d:Addr)(c:Int):M Value:=Cut Tryz.prog 30 (aQ Tryz.f30 13) (bf [(1,.int .i64 b),(3,.pointer (some a)),(5,.pointer (some d)),(10,.int .i64 c)] 102 0)
def d3y (G H I J:Int)(d:Sl)(K:Int)(e f g h:Sl)(O t u v w x y:Int)(i:Sl):M Value:=
 aJ #[.int .i64 G,.int .i64 H,.int .i64 I,.int .i64 J,.slice d.p d.n d.c,.int .i64 K,.slice e.p e.n e.c,.slice f.p f.n f.c,.slice g.p g.n g.c,.slice h.p h.n h.c] 27 fun b=>
 aJ #[.int .i64 t,.int .i64 u,.int .i64 v,.int .i64 w,.int .i64 x,.int .i64 y,.slice i.p i.n i.c] 59 fun a=>
 ab .i64 a fun P=>
 ai (K9 P 0 63) fun z=>
 da z fun L=>
 ai (aI (!L) (af true) (ab .i64 (a.add 1) fun l=>
 ab .i64 a fun N=>
 ai (K9 l N 63) fun U=>
 da U fun ad=>
 af (!ad))) fun B=>
 ai (aI B (af true) (ab .i64 (a.add 2) fun S=>
 ai (K9 S 1 1048576) fun V=>
 da V fun R=>
 af (!R))) fun C=>
 ai (aI C (af true) (ab .i64 (a.add 3) fun Q=>
 ab .i64 (a.add 2) fun Z=>
 ai (K9 Q 1 Z) fun W=>
 da W fun aa=>
 af (!aa))) fun D=>
 ai (aI D (af true) (ab .i64 (a.add 4) fun ag=>
 ai (K9 ag 0 4096) fun X=>
 da X fun A=>
 af (!A))) fun E=>
 ai (aI E (af true) (ab .i64 (a.add 5) fun T=>
 ai (K9 T 0 1048576) fun r=>
 da r fun m=>
 af (!m))) fun F=>
 aI F (
 af (.int .i64 5)) (
 aw (a.add 6) fun s=>
 aw (b.add 4) fun o=>
 ab .i64 (b.add 5) fun ac=>
 aw (b.add 6) fun ae=>
 aw (b.add 7) fun q=>
 ai (b7B s (o.n:Int) ac (ae.n:Int) (q.n:Int)) fun Y=>
 aP .i64 Y fun j=>
 aI (j != 0) (
 af (.int .i64 j)) (
 aw (a.add 6) fun k=>
 a7Z O b a k (k.n:Int) 0))
def Bz4 (f:Int)(c d:Addr)(g:Sl)(h e:Int):M Value:=
 aI (decide (e<h)) (
 bd g e 3 fun b=>
 ab .i64 b fun p=>
 ab .i64 (b.add 1) fun n=>
 ab .i64 (b.add 2) fun o=>
 aJ #[.int .i64 0,.int .i64 0,.int .i64 0] 90 fun a=>
 an a (.int .i64 p) <|
 an (a.add 1) (.int .i64 n) <|
 an (a.add 2) (.int .i64 o) <|
 ab .i64 a fun l=>
 ai (aI (l == 5) (aw (c.add 7) fun q=>
 ab .i64 (a.add 1) fun j=>
 bd q j 1 fun i=>
 ab .i64 i fun r=>
 ab .i64 d fun k=>
 af (decide (r<k))) (af false)) fun m=>
 aI m (
 af (.int .i64 9)) (
 a7Z f c d g h (IntKind.i64.wrap (e+(1:Int))))) (
 a8a f c d 0)
def Bz5 (c:Int)(b d:Addr)(a:Int):M Value:=
 aI (decide (a<c)) (
 aw (b.add 8) fun g=>
 bd g a 7 fun e=>
 ab .i64 e fun h=>
 ab .i64 d fun f=>
 aI (h == f) (
 af (.int .i64 10)) (
 a8a c b d (IntKind.i64.wrap (a+(1:Int))))) (
 af (.int .i64 0))
theorem e6k (bE bF bG bH aV bI aW aX aY aZ i1 La Lb Lc Ld Le Lf xY){h Q}:d3y bE bF bG bH aV bI aW aX aY aZ i1 La Lb Lc Ld Le Lf xY h Q→b7x bE bF bG bH aV bI aW aX aY aZ i1 La Lb Lc Ld Le Lf xY h Q:=Nf.bh Tryz.call30 Tryz.func30 rfl mixed (cuts:=[(7,[1,3,5,67,68,69]),(13,[1,3,5,10])]) (dm:=[]) (by kernel_rfl)
theorem Sz4 (i1 c3 t5 t67 t68 t69){h Q}:Bz4 i1 c3 t5 t67 t68 t69 h Q→a7Z i1 c3 t5 t67 t68 t69 h Q:=Cut.bh Tryz.func30 mixed (cuts:=[(7,[1,3,5,67,68,69]),(13,[1,3,5,10])]) (dm:=[]) (by kernel_rfl)
theorem Sz5 (i1 c3 t5 k10){h Q}:Bz5 i1 c3 t5 k10 h Q→a8a i1 c3 t5 k10 h Q:=Cut.bh Tryz.func30 mixed (cuts:=[(7,[1,3,5,67,68,69]),(13,[1,3,5,10])]) (dm:=[]) (by kernel_rfl)
def a8b (b:Addr)(a:Sl)(d e:Int):M Value:=Cut Tryz.prog 9 (aQ Tryz.f9 11) (bf [(1,.pointer (some b)),(102,.slice a.p a.n a.c),(103,.int .i64 d),(104,.int .i64 e)] 117 0)
def d3C (C D E F:Int)(d:Sl)(G:Int)(e f g h:Sl):M Value:=
 aJ #[.int .i64 C,.int .i64 D,.int .i64 E,.int .i64 F,.slice d.p d.n d.c,.int .i64 G,.slice e.p e.n e.c,.slice f.p f.n f.c,.slice g.p g.n g.c,.slice h.p h.n h.c] 27 fun a=>
 ab .i64 a fun ae=>
 ab .i64 (a.add 1) fun ad=>
 ab .i64 (a.add 2) fun A=>
 ab .i64 (a.add 3) fun B=>
 aJ #[.int .i64 0,.int .i64 0,.int .i64 0,.int .i64 0] 23 fun b=>
 an b (.int .i64 ae) <|
 an (b.add 1) (.int .i64 ad) <|
 an (b.add 2) (.int .i64 A) <|
 an (b.add 3) (.int .i64 B) <|
 ab .i64 b fun K=>
 ai (K9 K 1 16) fun O=>
 da O fun J=>
 ai (aI (!J) (af true) (ab .i64 (b.add 1) fun H=>
 ai (K9 H 1 4) fun S=>
 da S fun I=>
 af (!I))) fun L=>
 ai (aI L (af true) (ab .i64 (b.add 2) fun N=>
 ai (K9 N 1 100) fun T=>
 da T fun Q=>
 af (!Q))) fun o=>
 ai (aI o (af true) (ab .i64 (b.add 3) fun Z=>
 ab .i64 (b.add 2) fun aa=>
 ai (K9 Z aa 100) fun U=>
 da U fun P=>
 af (!P))) fun q=>
 aI q (
 af (.int .i64 5)) (
 aw (a.add 4) fun ac=>
 ai (aI (decide ((ac.n:Int)>4)) (af true) (ab .i64 (a.add 5) fun au=>
 af (decide (au>4)))) fun r=>
 ai (aI r (af true) (aw (a.add 6) fun aq=>
 af (decide ((aq.n:Int)>4)))) fun s=>
 ai (aI s (af true) (aw (a.add 7) fun k=>
 af (decide ((k.n:Int)>4)))) fun t=>
 ai (aI t (af true) (aw (a.add 8) fun l=>
 af (decide ((l.n:Int)>8)))) fun u=>
 ai (aI u (af true) (aw (a.add 9) fun R=>
 af (decide ((R.n:Int)>8)))) fun v=>
 aI v (
 af (.int .i64 4)) (
 aw (a.add 8) fun ag=>
 ai (aI ((ag.n:Int) == 0) (af true) (ab .i64 (a.add 5) fun ah=>
 af (decide (ah<(0:Int))))) fun w=>
 aI w (
 af (.int .i64 1)) (
 aw (a.add 4) fun aj=>
 ai (Nzm aj 1 8) fun V=>
 da V fun m=>
 ai (aI (!m) (af true) (aw (a.add 6) fun j=>
 ai (Nzm j 1 8) fun W=>
 da W fun ak=>
 af (!ak))) fun x=>
 ai (aI x (af true) (aw (a.add 7) fun ar=>
 ai (Nzm ar 0 63) fun X=>
 da X fun al=>
 af (!al))) fun y=>
 ai (aI y (af true) (aw (a.add 9) fun am=>
 aw (a.add 8) fun ao=>
 ai (Nzm am 0 (IntKind.i64.wrap ((ao.n:Int)-1))) fun Y=>
 da Y fun ap=>
 af (!ap))) fun z=>
 aI z (
 af (.int .i64 5)) (
 aw (a.add 8) fun i=>
 a8b a i (i.n:Int) 0))))
def Bz6 (b:Addr)(h:Sl)(i e:Int):M Value:=
 aI (decide (e<i)) (
 bd h e 7 fun d=>
 ab .i64 d fun j=>
 ab .i64 (d.add 1) fun k=>
 ab .i64 (d.add 2) fun l=>
 ab .i64 (d.add 3) fun m=>
 ab .i64 (d.add 4) fun o=>
 ab .i64 (d.add 5) fun q=>
 aw (d.add 6) fun f=>
 aJ #[.int .i64 0,.int .i64 0,.int .i64 0,.int .i64 0,.int .i64 0,.int .i64 0,.slice none (0) (0)] 59 fun a=>
 an a (.int .i64 j) <|
 an (a.add 1) (.int .i64 k) <|
 an (a.add 2) (.int .i64 l) <|
 an (a.add 3) (.int .i64 m) <|
 an (a.add 4) (.int .i64 o) <|
 an (a.add 5) (.int .i64 q) <|
 an (a.add 6) (.slice f.p f.n f.c) <|
 ab .i64 b fun r=>
 ab .i64 (b.add 1) fun s=>
 ab .i64 (b.add 2) fun t=>
 ab .i64 (b.add 3) fun u=>
 aw (b.add 4) fun v=>
 ab .i64 (b.add 5) fun w=>
 aw (b.add 6) fun x=>
 aw (b.add 7) fun y=>
 aw (b.add 8) fun z=>
 aw (b.add 9) fun A=>
 ab .i64 a fun B=>
 ab .i64 (a.add 1) fun C=>
 ab .i64 (a.add 2) fun D=>
 ab .i64 (a.add 3) fun E=>
 ab .i64 (a.add 4) fun F=>
 ab .i64 (a.add 5) fun G=>
 aw (a.add 6) fun H=>
 ai (b7x r s t u v w x y z A e B C D E F G H) fun I=>
 aP .i64 I fun g=>
 aI (g != 0) (
 af (.int .i64 g)) (
 a8b b h i (IntKind.i64.wrap (e+(1:Int))))) (
 af (.int .i64 0))
theorem e6m (bE bF bG bH aV bI aW aX aY aZ){h Q}:d3C bE bF bG bH aV bI aW aX aY aZ h Q→b7y bE bF bG bH aV bI aW aX aY aZ h Q:=Nf.bh Tryz.call9 Tryz.func9 rfl mixed (cuts:=[(11,[1,102,103,104])]) (dm:=[]) (by kernel_rfl)
theorem Sz6 (c1 t102 t103 t104){h Q}:Bz6 c1 t102 t103 t104 h Q→a8b c1 t102 t103 t104 h Q:=Cut.bh Tryz.func9 mixed (cuts:=[(11,[1,102,103,104])]) (dm:=[]) (by kernel_rfl)
def Kz6 (b:Addr)(a:Sl)(d e:Int):M Value:=Cut Tryz.prog 55 (aQ Tryz.f55 13) (bf [(1,.pointer (some b)),(76,.slice a.p a.n a.c),(77,.int .i64 d),(78,.int .i64 e)] 94 0)
def d3E (z A B C:Int)(f:Sl)(D:Int)(g h i j:Sl):M Value:=
 aJ #[.int .i64 z,.int .i64 A,.int .i64 B,.int .i64 C,.slice f.p f.n f.c,.int .i64 D,.slice g.p g.n g.c,.slice h.p h.n h.c,.slice i.p i.n i.c,.slice j.p j.n j.c] 27 fun a=>
 aw (a.add 4) fun d=>
 ab .i64 (a.add 5) fun b=>
 aw (a.add 6) fun e=>
 aw (a.add 7) fun k=>
 ab .i64 a fun E=>
 ab .i64 (a.add 1) fun F=>
 ab .i64 (a.add 2) fun G=>
 ab .i64 (a.add 3) fun H=>
 ai (b7A E F G H) fun L=>
 da L fun I=>
 aI (!I) (
 af (.int .i64 5)) (
 ai (aI (decide ((if (k.n:Int)>(if (e.n:Int)>(if b>(d.n:Int) then b else (d.n:Int)) then (e.n:Int) else (if b>(d.n:Int) then b else (d.n:Int))) then (k.n:Int) else (if (e.n:Int)>(if b>(d.n:Int) then b else (d.n:Int)) then (e.n:Int) else (if b>(d.n:Int) then b else (d.n:Int))))>4)) (af true) (aw (a.add 8) fun R=>
 af (decide ((R.n:Int)>8)))) fun u=>
 ai (aI u (af true) (aw (a.add 9) fun J=>
 af (decide ((J.n:Int)>8)))) fun v=>
 aI v (
 af (.int .i64 4)) (
 aw (a.add 8) fun m=>
 ai (aI ((m.n:Int) == 0) (af true) (ab .i64 (a.add 5) fun q=>
 af (decide (q<0)))) fun w=>
 aI w (
 af (.int .i64 1)) (
 aw (a.add 4) fun S=>
 ai (CY 1 8 S) fun N=>
 da N fun r=>
 ai (aI (!r) (af true) (aw (a.add 6) fun s=>
 ai (CY 1 8 s) fun O=>
 da O fun T=>
 af (!T))) fun x=>
 aI x (
 af (.int .i64 5)) (
 aw (a.add 7) fun K=>
 ai (CY 0 63 K) fun P=>
 da P fun t=>
 ai (aI (!t) (af true) (aw (a.add 8) fun U=>
 aw (a.add 9) fun o=>
 ai (CY 0 (IntKind.i64.wrap ((U.n:Int)-1)) o) fun Q=>
 da Q fun V=>
 af (!V))) fun y=>
 aI y (
 af (.int .i64 5)) (
 aw (a.add 8) fun l=>
 Kz6 a l (l.n:Int) 0)))))
def Bz7 (a:Addr)(f:Sl)(g d:Int):M Value:=
 aI (decide (d<g)) (
 bd f d 7 fun e=>
 ab .i64 e fun ah=>
 ab .i64 (e.add 1) fun aj=>
 ab .i64 (e.add 2) fun ak=>
 ab .i64 (e.add 3) fun al=>
 ab .i64 (e.add 4) fun am=>
 ab .i64 (e.add 5) fun cr=>
 aw (e.add 6) fun h=>
 aJ #[.int .i64 0,.int .i64 0,.int .i64 0,.int .i64 0,.int .i64 0,.int .i64 0,.slice none (0) (0)] 59 fun b=>
 an b (.int .i64 ah) <|
 an (b.add 1) (.int .i64 aj) <|
 an (b.add 2) (.int .i64 ak) <|
 an (b.add 3) (.int .i64 al) <|
 an (b.add 4) (.int .i64 am) <|
 an (b.add 5) (.int .i64 cr) <|
 an (b.add 6) (.slice h.p h.n h.c) <|
 aG (
 ab .i64 a fun u=>
 ab .i64 (a.add 1) fun i=>
 ab .i64 (a.add 2) fun j=>
 ab .i64 (a.add 3) fun k=>
 aw (a.add 4) fun l=>
 ab .i64 (a.add 5) fun m=>
 aw (a.add 6) fun o=>
 aw (a.add 7) fun q=>
 aw (a.add 8) fun r=>
 aw (a.add 9) fun s=>
 aG (
 ab .i64 b fun ao=>
 ab .i64 (b.add 1) fun ap=>
 ab .i64 (b.add 2) fun aq=>
 ab .i64 (b.add 3) fun ar=>
 ab .i64 (b.add 4) fun au=>
 ab .i64 (b.add 5) fun av=>
 aw (b.add 6) fun ax=>
 aw (a.add 8) fun C=>
 mw C 7 0 d (C.c:Int) fun ci=>
 ai (Nzb u i j k l m o q r s ao ap aq ar au av ax ci) fun cj=>
 aP .i64 cj fun D=>
 aI (D != 0) (
 af (.int .i64 D)) (
 Kz6 a f g (IntKind.i64.wrap (d+(1:Int))))) (
 aw (a.add 8) fun E=>
 mw E 7 0 d (E.c:Int) fun ck=>
 ab .i64 b fun ay=>
 ab .i64 (b.add 1) fun az=>
 ab .i64 (b.add 2) fun ba=>
 ab .i64 (b.add 3) fun bb=>
 ab .i64 (b.add 4) fun bc=>
 ab .i64 (b.add 5) fun be=>
 aw (b.add 6) fun bf=>
 ai (Nzb u i j k l m o q r s ay az ba bb bc be bf ck) fun cl=>
 aP .i64 cl fun F=>
 aI (F != 0) (
 af (.int .i64 F)) (
 Kz6 a f g (IntKind.i64.wrap (d+(1:Int)))))) (
 aG (
 ab .i64 b fun t=>
 ab .i64 (b.add 1) fun v=>
 ab .i64 (b.add 2) fun w=>
 ab .i64 (b.add 3) fun x=>
 ab .i64 (b.add 4) fun y=>
 ab .i64 (b.add 5) fun z=>
 aw (b.add 6) fun A=>
 aG (
 ab .i64 a fun V=>
 ab .i64 (a.add 1) fun W=>
 ab .i64 (a.add 2) fun X=>
 ab .i64 (a.add 3) fun Y=>
 aw (a.add 4) fun Z=>
 ab .i64 (a.add 5) fun aa=>
 aw (a.add 6) fun ac=>
 aw (a.add 7) fun ad=>
 aw (a.add 8) fun ae=>
 aw (a.add 9) fun ag=>
 aw (a.add 8) fun H=>
 mw H 7 0 d (H.c:Int) fun cm=>
 ai (Nzb V W X Y Z aa ac ad ae ag t v w x y z A cm) fun cn=>
 aP .i64 cn fun I=>
 aI (I != 0) (
 af (.int .i64 I)) (
 Kz6 a f g (IntKind.i64.wrap (d+(1:Int))))) (
 aw (a.add 8) fun J=>
 mw J 7 0 d (J.c:Int) fun co=>
 ab .i64 a fun bm=>
 ab .i64 (a.add 1) fun bn=>
 ab .i64 (a.add 2) fun bo=>
 ab .i64 (a.add 3) fun bp=>
 aw (a.add 4) fun bq=>
 ab .i64 (a.add 5) fun br=>
 aw (a.add 6) fun bs=>
 aw (a.add 7) fun bt=>
 aw (a.add 8) fun bu=>
 aw (a.add 9) fun bv=>
 ai (Nzb bm bn bo bp bq br bs bt bu bv t v w x y z A co) fun cp=>
 aP .i64 cp fun K=>
 aI (K != 0) (
 af (.int .i64 K)) (
 Kz6 a f g (IntKind.i64.wrap (d+(1:Int)))))) (
 aw (a.add 8) fun L=>
 mw L 7 0 d (L.c:Int) fun N=>
 aG (
 ab .i64 a fun bw=>
 ab .i64 (a.add 1) fun bx=>
 ab .i64 (a.add 2) fun bz=>
 ab .i64 (a.add 3) fun ca=>
 aw (a.add 4) fun cb=>
 ab .i64 (a.add 5) fun cc=>
 aw (a.add 6) fun cd=>
 aw (a.add 7) fun ce=>
 aw (a.add 8) fun cf=>
 aw (a.add 9) fun cg=>
 ab .i64 b fun ch=>
 ab .i64 (b.add 1) fun bg=>
 ab .i64 (b.add 2) fun bh=>
 ab .i64 (b.add 3) fun bi=>
 ab .i64 (b.add 4) fun bj=>
 ab .i64 (b.add 5) fun bk=>
 aw (b.add 6) fun bl=>
 ai (Nzb bw bx bz ca cb cc cd ce cf cg ch bg bh bi bj bk bl N) fun cq=>
 aP .i64 cq fun G=>
 aI (G != 0) (
 af (.int .i64 G)) (
 Kz6 a f g (IntKind.i64.wrap (d+(1:Int))))) (
 ab .i64 b fun cs=>
 ab .i64 (b.add 1) fun ct=>
 ab .i64 (b.add 2) fun cu=>
 ab .i64 (b.add 3) fun cv=>
 ab .i64 (b.add 4) fun cw=>
 ab .i64 (b.add 5) fun cx=>
 aw (b.add 6) fun cy=>
 ab .i64 a fun O=>
 ab .i64 (a.add 1) fun P=>
 ab .i64 (a.add 2) fun Q=>
 ab .i64 (a.add 3) fun R=>
 aw (a.add 4) fun S=>
 ab .i64 (a.add 5) fun T=>
 aw (a.add 6) fun U=>
 aw (a.add 7) fun cz=>
 aw (a.add 8) fun da=>
 aw (a.add 9) fun db=>
 ai (Nzb O P Q R S T U cz da db cs ct cu cv cw cx cy N) fun dc=>
 aP .i64 dc fun B=>
 aI (B != 0) (
 af (.int .i64 B)) (
 Kz6 a f g (IntKind.i64.wrap (d+(1:Int)))))))) (
 af (.int .i64 0))
theorem e6n (bE bF bG bH aV bI aW aX aY aZ){h Q}:d3E bE bF bG bH aV bI aW aX aY aZ h Q→b7z bE bF bG bH aV bI aW aX aY aZ h Q:=Nf.bh Tryz.call55 Tryz.func55 rfl mixed (cuts:=[(13,[1,76,77,78])]) (dm:=[(15,[])]) (by kernel_rfl)
theorem Sz7 (c1 t76 t77 t78){h Q}:Bz7 c1 t76 t77 t78 h Q→Kz6 c1 t76 t77 t78 h Q:=Cut.bh Tryz.func55 mixed (cuts:=[(13,[1,76,77,78])]) (dm:=[(15,[])]) (by kernel_rfl)
def d3U (c d e f:Int):M Value:=
 aJ #[.int .i64 c,.int .i64 d,.int .i64 e,.int .i64 f] 23 fun a=>
 ab .i64 a fun v=>
 aJ #[.int .i64 v] 3 fun w=>
 ai (CY 1 16 (Sl.mk (some w) 1 1)) fun u=>
 da u fun x=>
 ai (aI x (ab .i64 (a.add 1) fun y=>
 aJ #[.int .i64 y] 3 fun n=>
 ai (CY 1 4 (Sl.mk (some n) 1 1)) fun q=>
 da q fun m=>
 af m) (af false)) fun h=>
 ai (aI h (ab .i64 (a.add 2) fun k=>
 aJ #[.int .i64 k] 3 fun l=>
 ai (CY 1 100 (Sl.mk (some l) 1 1)) fun t=>
 da t fun b=>
 af b) (af false)) fun i=>
 ai (aI i (ab .i64 (a.add 2) fun p=>
 ab .i64 (a.add 3) fun o=>
 aJ #[.int .i64 o] 3 fun r=>
 ai (CY p 100 (Sl.mk (some r) 1 1)) fun g=>
 da g fun s=>
 af s) (af false)) fun j=>
 af (.bool j)
theorem e6o (Lg Lh Li Lj){h Q}:d3U Lg Lh Li Lj h Q→b7A Lg Lh Li Lj h Q:=Nf.bh Tryz.call111 Tryz.func111 rfl mixed (cuts:=[]) (dm:=[]) (by kernel_rfl)
def d3V (g c:Int)(a:Sl):M Value:=
 aJ #[.int .i64 g] 3 fun d=>
 aJ #[.int .i64 c] 3 fun e=>
 ai (b7C a (175) (#[]) (#[.pointer (some d),.pointer (some e)])) fun b=>
 da b fun f=>
 af (.bool (!f))
theorem e6p (yI to1 l2){h Q}:d3V yI to1 l2 h Q→CY yI to1 l2 h Q:=Nf.bh Tryz.call112 Tryz.func112 rfl mixed (cuts:=[]) (dm:=[]) (by kernel_rfl)
def Kzu (a:Sl)(b e:Addr)(d:Int):M Value:=Cut Tryz.prog 113 (aQ Tryz.f113 5) (bf [(2,.slice a.p a.n a.c),(3,.pointer (some b)),(4,.pointer (some e)),(8,.int .i64 d)] 66 0)
def d3W (bn bo bp bq:Int)(d:Sl)(br:Int)(e f g h:Sl)(y z A B C D:Int)(j i:Sl):M Value:=
 aJ #[.int .i64 bn,.int .i64 bo,.int .i64 bp,.int .i64 bq,.slice d.p d.n d.c,.int .i64 br,.slice e.p e.n e.c,.slice f.p f.n f.c,.slice g.p g.n g.c,.slice h.p h.n h.c] 27 fun a=>
 aJ #[.int .i64 y,.int .i64 z,.int .i64 A,.int .i64 B,.int .i64 C,.int .i64 D,.slice j.p j.n j.c] 59 fun b=>
 ab .i64 b fun ce=>
 aJ #[.int .i64 ce] 3 fun ci=>
 ai (CY 0 63 (Sl.mk (some ci) 1 1)) fun E=>
 da E fun cf=>
 ai (aI cf (ab .i64 b fun cc=>
 ab .i64 (b.add 1) fun ch=>
 aJ #[.int .i64 ch] 3 fun cg=>
 ai (CY cc 63 (Sl.mk (some cg) 1 1)) fun cp=>
 da cp fun cz=>
 af cz) (af false)) fun ba=>
 ai (aI ba (ab .i64 (b.add 2) fun cj=>
 aJ #[.int .i64 cj] 3 fun cn=>
 ai (CY 1 1048576 (Sl.mk (some cn) 1 1)) fun cq=>
 da cq fun cm=>
 af cm) (af false)) fun bb=>
 ai (aI bb (ab .i64 (b.add 2) fun ck=>
 ab .i64 (b.add 3) fun cw=>
 aJ #[.int .i64 cw] 3 fun cv=>
 ai (CY 1 ck (Sl.mk (some cv) 1 1)) fun cr=>
 da cr fun cx=>
 af cx) (af false)) fun bc=>
 ai (aI bc (ab .i64 (b.add 4) fun cl=>
 aJ #[.int .i64 cl] 3 fun dd=>
 ai (CY 0 4096 (Sl.mk (some dd) 1 1)) fun cs=>
 da cs fun F=>
 af F) (af false)) fun bd=>
 ai (aI bd (ab .i64 (b.add 5) fun dc=>
 aJ #[.int .i64 dc] 3 fun co=>
 ai (CY 0 1048576 (Sl.mk (some co) 1 1)) fun x=>
 da x fun w=>
 af w) (af false)) fun be=>
 aI (!be) (
 af (.int .i64 5)) (
 aG (
 aw (b.add 6) fun bi=>
 ab .i64 a fun R=>
 ab .i64 (a.add 1) fun S=>
 ab .i64 (a.add 2) fun T=>
 ab .i64 (a.add 3) fun U=>
 aw (a.add 4) fun V=>
 ab .i64 (a.add 5) fun W=>
 aw (a.add 6) fun X=>
 aw (a.add 7) fun Y=>
 aw (a.add 8) fun Z=>
 aw (a.add 9) fun aa=>
 ai (Nzx R S T U V W X Y Z aa) fun bj=>
 kg bj fun ay=>
 bB ay fun ac ad=>
 aP .i64 ac fun ae=>
 bB ad fun ag ah=>
 aP .i64 ag fun aj=>
 bB ah fun ak al=>
 aP .i64 ak fun G=>
 bB al fun H I=>
 aP .i64 H fun J=>
 fO I <|
 ai (Nzw bi ae aj G J) fun bk=>
 aP .i64 bk fun bl=>
 Kzu i a b bl) (
 ab .i64 a fun k=>
 ab .i64 (a.add 1) fun l=>
 ab .i64 (a.add 2) fun m=>
 ab .i64 (a.add 3) fun o=>
 aw (a.add 4) fun q=>
 ab .i64 (a.add 5) fun r=>
 aw (a.add 6) fun s=>
 aw (a.add 7) fun t=>
 aw (a.add 8) fun u=>
 aw (a.add 9) fun v=>
 aG (
 aw (b.add 6) fun bm=>
 ai (Nzx k l m o q r s t u v) fun bf=>
 kg bf fun az=>
 bB az fun K L=>
 aP .i64 K fun N=>
 bB L fun O P=>
 aP .i64 O fun Q=>
 bB P fun am an=>
 aP .i64 am fun ao=>
 bB an fun ap aq=>
 aP .i64 ap fun ar=>
 fO aq <|
 ai (Nzw bm N Q ao ar) fun bg=>
 aP .i64 bg fun bh=>
 Kzu i a b bh) (
 ai (Nzx k l m o q r s t u v) fun ct=>
 kg ct fun cd=>
 bB cd fun bs bt=>
 aP .i64 bs fun au=>
 bB bt fun bu bv=>
 aP .i64 bu fun av=>
 bB bv fun bw bx=>
 aP .i64 bw fun ax=>
 bB bx fun bz ca=>
 aP .i64 bz fun cb=>
 fO ca <|
 aw (b.add 6) fun cy=>
 ai (Nzw cy au av ax cb) fun cu=>
 aP .i64 cu fun db=>
 Kzu i a b db)))
def d4g (e:Sl)(d a:Addr)(b:Int):M Value:=
 aI (b != 0) (
 af (.int .i64 b)) (
 aw (a.add 6) fun c=>
 ai (b7D c (178) (#[]) (#[.pointer (some d),.pointer (some a)])) fun g=>
 da g fun f=>
 aI f (
 af (.int .i64 9)) (
 ai (b7E e (181) (#[]) (#[.pointer (some a)])) fun h=>
 da h fun i=>
 aI i (
 af (.int .i64 10)) (
 af (.int .i64 0))))
theorem e6r (bE bF bG bH aV bI aW aX aY aZ Ll Lm Ln Lo Lp Lq xZ eO){h Q}:d3W bE bF bG bH aV bI aW aX aY aZ Ll Lm Ln Lo Lp Lq xZ eO h Q→Nzb bE bF bG bH aV bI aW aX aY aZ Ll Lm Ln Lo Lp Lq xZ eO h Q:=Nf.bh Tryz.call113 Tryz.func113 rfl mixed (cuts:=[(5,[2,3,4,8])]) (dm:=[(4,[])]) (by kernel_rfl)
theorem e6s (eO c3 t4 e8){h Q}:d4g eO c3 t4 e8 h Q→Kzu eO c3 t4 e8 h Q:=Cut.bh Tryz.func113 mixed (cuts:=[(5,[2,3,4,8])]) (dm:=[(4,[])]) (by kernel_rfl)
def a8e (a:Sl)(d f e g:Int)(b:Sl)(h i:Int):M Value:=Cut Tryz.prog 72 (aQ Tryz.f72 6) (bf [(0,.slice a.p a.n a.c),(1,.int .i64 d),(2,.int .i64 f),(3,.int .i64 e),(4,.int .i64 g),(20,.slice b.p b.n b.c),(21,.int .i64 h),(22,.int .i64 i)] 46 0)
def d4h (a:Sl)(b d c e:Int):M Value:=
 aI ((a.n:Int) == 0) (
 af (.int .i64 1)) (
 aI (decide ((a.n:Int)>64)) (
 af (.int .i64 4)) (
 a8e a b d c e a (a.n:Int) 0))
def Bz8 (b:Sl)(f h g i:Int)(k:Sl)(l d:Int):M Value:=
 aI (decide (d<l)) (
 bd k d 3 fun e=>
 ab .i64 e fun m=>
 ab .i64 (e.add 1) fun n=>
 ab .i64 (e.add 2) fun o=>
 aJ #[.int .i64 0,.int .i64 0,.int .i64 0] 90 fun a=>
 an a (.int .i64 m) <|
 an (a.add 1) (.int .i64 n) <|
 an (a.add 2) (.int .i64 o) <|
 ab .i64 a fun q=>
 ab .i64 (a.add 1) fun r=>
 ab .i64 (a.add 2) fun s=>
 ai (b7F q r s f h g i) fun t=>
 aP .i64 t fun j=>
 aI (j != 0) (
 af (.int .i64 j)) (
 mw b 3 0 (IntKind.i64.wrap (d+(1:Int))) (b.c:Int) fun x=>
 ai (a7V x false) fun u=>
 da u fun p=>
 aI (!p) (
 af (.int .i64 9)) (
 a8e b f h g i k l (IntKind.i64.wrap (d+(1:Int)))))) (
 ai (a7V b true) fun v=>
 da v fun w=>
 aI (!w) (
 af (.int .i64 9)) (
 af (.int .i64 0)))
theorem e6t (l0 bR bj ba bp){h Q}:d4h l0 bR bj ba bp h Q→b7B l0 bR bj ba bp h Q:=Nf.bh Tryz.call72 Tryz.func72 rfl mixed (cuts:=[(6,[0,1,2,3,4,20,21,22])]) (dm:=[]) (by kernel_rfl)
theorem Sz8 (l0 bR bj ba bp t20 t21 t22){h Q}:Bz8 l0 bR bj ba bp t20 t21 t22 h Q→a8e l0 bR bj ba bp t20 t21 t22 h Q:=Cut.bh Tryz.func72 mixed (cuts:=[(6,[0,1,2,3,4,20,21,22])]) (dm:=[]) (by kernel_rfl)
def d4l (e:Sl)(a:Nat)(b c:Array Value):M Value:=
 ai (d3s e a b c) fun d=>
 aP .i64 d fun f=>
 af (.bool (decide (f≥(0:Int))))
theorem e6u (s0 gD gE gF){h Q}:d4l s0 gD gE gF h Q→b7C s0 gD gE gF h Q:=Nf.bh Tryz.call174 Tryz.func174 rfl mixed (cuts:=[]) (dm:=[]) (by kernel_rfl)
def d4m (a:Int)(g b:Option Addr):M Value:=
 ax g fun c=>
 ab .i64 c fun h=>
 ai (aI (decide (a<h)) (af true) (ax b fun d=>
 ab .i64 d fun f=>
 af (decide (a>f)))) fun e=>
 af (.bool e)
theorem e6v (n0 oq Lr){h Q}:d4m n0 oq Lr h Q→d3p n0 oq Lr h Q:=Nf.bh Tryz.call175 Tryz.func175 rfl mixed (cuts:=[]) (dm:=[]) (by kernel_rfl)
def a8f (d b:Addr)(a:Sl)(e f:Int):M Value:=Cut Tryz.prog 176 (aQ Tryz.f176 7) (bf [(3,.pointer (some d)),(5,.pointer (some b)),(19,.slice a.p a.n a.c),(20,.int .i64 e),(21,.int .i64 f)] 49 0)
def d4n (a:Sl)(c d e f:Int):M Value:=
 aJ #[.int .i64 c,.int .i64 d,.int .i64 e,.int .i64 f] 281 fun g=>
 aI ((a.n:Int) == 0) (
 af (.int .i64 1)) (
 aI (decide ((a.n:Int)>64)) (
 af (.int .i64 4)) (
 aJ #[.int .i64 0,.int .i64 0,.slice none (0) (0)] 344 fun b=>
 a8f g b a (a.n:Int) 0))
def Bz9 (b c:Addr)(g:Sl)(h e:Int):M Value:=
 aI (decide (e<h)) (
 bd g e 3 fun d=>
 ab .i64 d fun t=>
 ab .i64 (d.add 1) fun u=>
 ab .i64 (d.add 2) fun A=>
 aJ #[.int .i64 0,.int .i64 0,.int .i64 0] 90 fun a=>
 an a (.int .i64 t) <|
 an (a.add 1) (.int .i64 u) <|
 an (a.add 2) (.int .i64 A) <|
 ab .i64 a fun z=>
 ab .i64 (a.add 1) fun l=>
 ab .i64 (a.add 2) fun m=>
 ab .i64 b fun i=>
 ab .i64 (b.add 1) fun j=>
 ab .i64 (b.add 2) fun k=>
 ab .i64 (b.add 3) fun r=>
 ai (b7G z l m i j k r) fun w=>
 aP .i64 w fun f=>
 aI (f != 0) (
 af (.int .i64 f)) (
 ab .i64 a fun o=>
 ab .i64 (a.add 1) fun p=>
 ab .i64 (a.add 2) fun s=>
 ai (b7H (some c) o p s) fun x=>
 da x fun y=>
 aI (!y) (
 af (.int .i64 9)) (
 a8f b c g h (IntKind.i64.wrap (e+(1:Int)))))) (
 ab .i64 c fun B=>
 ai (aI (decide (B>0)) (af true) (aw (c.add 2) fun v=>
 af (decide ((v.n:Int)>0)))) fun q=>
 aI q (
 af (.int .i64 9)) (
 af (.int .i64 0)))
theorem e6w (l0 rN rO rP rQ){h Q}:d4n l0 rN rO rP rQ h Q→Nzw l0 rN rO rP rQ h Q:=Nf.bh Tryz.call176 Tryz.func176 rfl mixed (cuts:=[(7,[3,5,19,20,21])]) (dm:=[]) (by kernel_rfl)
theorem Sz9 (r3 n5 t19 t20 t21){h Q}:Bz9 r3 n5 t19 t20 t21 h Q→a8f r3 n5 t19 t20 t21 h Q:=Cut.bh Tryz.func176 mixed (cuts:=[(7,[3,5,19,20,21])]) (dm:=[]) (by kernel_rfl)
def d4q (k l m o:Int)(d:Sl)(q:Int)(e f g h:Sl):M Value:=
 aJ #[.int .i64 k,.int .i64 l,.int .i64 m,.int .i64 o,.slice d.p d.n d.c,.int .i64 q,.slice e.p e.n e.c,.slice f.p f.n f.c,.slice g.p g.n g.c,.slice h.p h.n h.c] 27 fun b=>
 aJ #[.int .i64 0,.int .i64 0,.int .i64 0,.int .i64 0] 281 fun a=>
 aw (b.add 4) fun u=>
 ab .i64 (b.add 5) fun v=>
 aw (b.add 6) fun w=>
 aw (b.add 7) fun t=>
 an a (.int .i64 (u.n:Int)) <|
 an (a.add 1) (.int .i64 v) <|
 an (a.add 2) (.int .i64 (w.n:Int)) <|
 an (a.add 3) (.int .i64 (t.n:Int)) <|
 ab .i64 a fun i=>
 ab .i64 (a.add 1) fun j=>
 ab .i64 (a.add 2) fun r=>
 ab .i64 (a.add 3) fun s=>
 af (.agg #[.int .i64 i,.int .i64 j,.int .i64 r,.int .i64 s])
theorem e6x (bE bF bG bH aV bI aW aX aY aZ){h Q}:d4q bE bF bG bH aV bI aW aX aY aZ h Q→Nzx bE bF bG bH aV bI aW aX aY aZ h Q:=Nf.bh Tryz.call177 Tryz.func177 rfl mixed (cuts:=[]) (dm:=[]) (by kernel_rfl)
def d4t (i j k:Int)(n c:Option Addr):M Value:=
 aJ #[.int .i64 i,.int .i64 j,.int .i64 k] 90 fun a=>
 ab .i64 a fun o=>
 ai (aI (o == 5) (ax n fun d=>
 aw (d.add 7) fun h=>
 ab .i64 (a.add 1) fun m=>
 bd h m 1 fun g=>
 ab .i64 g fun l=>
 ax c fun b=>
 ab .i64 b fun f=>
 af (decide (l<f))) (af false)) fun e=>
 af (.bool e)
theorem e6y (iX iY iZ oq Lr){h Q}:d4t iX iY iZ oq Lr h Q→d3q iX iY iZ oq Lr h Q:=Nf.bh Tryz.call178 Tryz.func178 rfl mixed (cuts:=[]) (dm:=[]) (by kernel_rfl)
def d4u (e:Sl)(a:Nat)(b c:Array Value):M Value:=
 ai (d3t e a b c) fun d=>
 aP .i64 d fun f=>
 af (.bool (decide (f≥(0:Int))))
theorem e6z (s0 gD gE gF){h Q}:d4u s0 gD gE gF h Q→b7D s0 gD gE gF h Q:=Nf.bh Tryz.call179 Tryz.func179 rfl mixed (cuts:=[]) (dm:=[]) (by kernel_rfl)
def d4v (e:Sl)(a:Nat)(b c:Array Value):M Value:=
 ai (d3u e a b c) fun d=>
 aP .i64 d fun f=>
 af (.bool (decide (f≥(0:Int))))
theorem e6A (s0 gD gE gF){h Q}:d4v s0 gD gE gF h Q→b7E s0 gD gE gF h Q:=Nf.bh Tryz.call180 Tryz.func180 rfl mixed (cuts:=[]) (dm:=[]) (by kernel_rfl)
def d4w (b d e f g h:Int)(a:Sl)(k:Option Addr):M Value:=
 aJ #[.int .i64 b,.int .i64 d,.int .i64 e,.int .i64 f,.int .i64 g,.int .i64 h,.slice a.p a.n a.c] 59 fun j=>
 ab .i64 j fun l=>
 ax k fun i=>
 ab .i64 i fun m=>
 af (.bool (l == m))
theorem e6B (Ls Lt Lu Lv Lw Lx ya oq){h Q}:d4w Ls Lt Lu Lv Lw Lx ya oq h Q→d3r Ls Lt Lu Lv Lw Lx ya oq h Q:=Nf.bh Tryz.call181 Tryz.func181 rfl mixed (cuts:=[]) (dm:=[]) (by kernel_rfl)
def Kzv (a:Int)(c:Addr)(b:Bool):M Value:=Cut Tryz.prog 139 (aQ Tryz.f139 14) (bf [(4,.int .i64 a),(5,.pointer (some c)),(12,.bool b)] 95 0)
def Kzw (a c b:Int)(f:Addr)(e d:Bool)(g:Int):M Value:=Cut Tryz.prog 139 (aQ Tryz.f139 15) (bf [(1,.int .i64 a),(2,.int .i64 c),(3,.int .i64 b),(5,.pointer (some f)),(11,.bool e),(12,.bool d),(21,.int .i64 g)] 95 0)
def b8D (a c b:Int)(f:Addr)(e d:Bool)(g:Int):M Value:=Cut Tryz.prog 139 (aQ Tryz.f139 18) (bf [(1,.int .i64 a),(2,.int .i64 c),(3,.int .i64 b),(5,.pointer (some f)),(11,.bool e),(12,.bool d),(21,.int .i64 g)] 95 0)
def a8g (a:Int)(b:Addr):M Value:=Cut Tryz.prog 139 (aQ Tryz.f139 25) (bf [(2,.int .i64 a),(5,.pointer (some b))] 95 0)
def Kzj (a:Int)(c:Addr)(b:Bool):M Value:=Cut Tryz.prog 139 (aQ Tryz.f139 28) (bf [(3,.int .i64 a),(5,.pointer (some c)),(12,.bool b)] 95 0)
def d4x (l m n d f e g:Int):M Value:=
 aJ #[.int .i64 l,.int .i64 m,.int .i64 n] 90 fun b=>
 ab .i64 b fun o=>
 ai (b7I o) fun h=>
 aP .i64 h fun k=>
 aI (decide (k<0)) (
 af (.int .i64 1)) (
 ab .i64 (b.add 2) fun c=>
 ab .i64 b fun a=>
 aI (a == 1) (
 ab .i64 (b.add 1) fun s=>
 ai (LB s 1 1000) fun u=>
 da u fun r=>
 aI ((!r)||(!(c == 0))) (
 af (.int .i64 5)) (
 af (.int .i64 0))) (
 aI (a == 2) (
 ab .i64 (b.add 1) fun q=>
 ai (LB q 0 255) fun i=>
 da i fun p=>
 aI ((!p)||(!(c == 0))) (
 af (.int .i64 5)) (
 af (.int .i64 0))) (
 aI (a == 3) (
 aI (a == 3) (
 ab .i64 (b.add 1) fun t=>
 aI ((!(t == 0))||(!(c == 0))) (
 af (.int .i64 5)) (
 af (.int .i64 0))) (
 aI (a == 5) (
 aI (a == 5) (
 Kzv g b (c == 0)) (
 Kzw d f e b false (c == 0) a)) (
 aI (a == 6) (
 Kzv g b (c == 0)) (
 Kzw d f e b false (c == 0) a)))) (
 aI (a == 4) (
 ab .i64 (b.add 1) fun j=>
 aI ((!(j == 0))||(!(c == 0))) (
 af (.int .i64 5)) (
 af (.int .i64 0))) (
 aI (a == 5) (
 aI (a == 5) (
 Kzv g b (c == 0)) (
 Kzw d f e b false (c == 0) a)) (
 aI (a == 6) (
 Kzv g b (c == 0)) (
 Kzw d f e b false (c == 0) a)))))))
def d4y (b:Int)(d:Addr)(c:Bool):M Value:=
 ab .i64 (d.add 1) fun a=>
 ai (LB a 0 (IntKind.i64.wrap (b-1))) fun f=>
 da f fun e=>
 aI ((!e)||(!c)) (
 af (.int .i64 5)) (
 af (.int .i64 0))
def d4z (d f e:Int)(c:Addr)(g b:Bool)(a:Int):M Value:=
 aI (a == 7) (
 aI (a == 7) (
 ab .i64 (c.add 1) fun h=>
 ai (LB h 1 4096) fun l=>
 da l fun m=>
 aI ((!m)||(!b)) (
 af (.int .i64 5)) (
 af (.int .i64 0))) (
 b8D d f e c g b a)) (
 aI (a == 8) (
 ab .i64 (c.add 1) fun i=>
 ai (LB i 1 4096) fun j=>
 da j fun k=>
 aI ((!k)||(!b)) (
 af (.int .i64 5)) (
 af (.int .i64 0))) (
 b8D d f e c g b a))
def d4A (g f d:Int)(c:Addr)(e b:Bool)(a:Int):M Value:=
 aI (a == 9) (
 ab .i64 (c.add 1) fun n=>
 mQ (LB n 0 (IntKind.i64.wrap (g-1))) fun k=>
 da k fun i=>
 ab .i64 (c.add 2) fun h=>
 mQ (LB h 0 255) fun l=>
 da l fun p=>
 aI ((!i)||(!p)) (
 af (.int .i64 5)) (
 af (.int .i64 0))) (
 aI (a == 10) (
 ab .i64 (c.add 1) fun o=>
 ai (LB o 0 (IntKind.i64.wrap (g-1))) fun m=>
 da m fun j=>
 aI ((!j)||(!b)) (
 af (.int .i64 5)) (
 af (.int .i64 0))) (
 aI (a == 11) (
 aI (a == 11) (
 a8g f c) (
 aI (a == 14) (
 aI (a == 14) (
 Kzj d c b) (
 aI ((!e)||(!b)) (
 af (.int .i64 5)) (
 af (.int .i64 0)))) (
 aI (a == 15) (
 Kzj d c b) (
 aI ((!e)||(!b)) (
 af (.int .i64 5)) (
 af (.int .i64 0)))))) (
 aI (a == 12) (
 aI (a == 12) (
 a8g f c) (
 aI (a == 14) (
 aI (a == 14) (
 Kzj d c b) (
 aI ((!e)||(!b)) (
 af (.int .i64 5)) (
 af (.int .i64 0)))) (
 aI (a == 15) (
 Kzj d c b) (
 aI ((!e)||(!b)) (
 af (.int .i64 5)) (
 af (.int .i64 0)))))) (
 aI (a == 13) (
 a8g f c) (
 aI (a == 14) (
 aI (a == 14) (
 Kzj d c b) (
 aI ((!e)||(!b)) (
 af (.int .i64 5)) (
 af (.int .i64 0)))) (
 aI (a == 15) (
 Kzj d c b) (
 aI ((!e)||(!b)) (
 af (.int .i64 5)) (
 af (.int .i64 0)))))))))
def d4B (e:Int)(a:Addr):M Value:=
 ab .i64 (a.add 1) fun d=>
 mQ (LB d 0 (IntKind.i64.wrap (e-1))) fun f=>
 da f fun c=>
 ab .i64 (a.add 2) fun h=>
 mQ (LB h 0 255) fun g=>
 da g fun b=>
 aI ((!c)||(!b)) (
 af (.int .i64 5)) (
 af (.int .i64 0))
def d4C (a:Int)(c:Addr)(b:Bool):M Value:=
 ab .i64 (c.add 1) fun e=>
 ai (LB e 0 (IntKind.i64.wrap (a-1))) fun d=>
 da d fun f=>
 aI ((!f)||(!b)) (
 af (.int .i64 5)) (
 af (.int .i64 0))
theorem e6C (iX iY iZ bR bj ba bp){h Q}:d4x iX iY iZ bR bj ba bp h Q→b7F iX iY iZ bR bj ba bp h Q:=Nf.bh Tryz.call139 Tryz.func139 rfl mixed (cuts:=[(14,[4,5,12]),(15,[1,2,3,5,11,12,21]),(18,[1,2,3,5,11,12,21]),(25,[2,5]),(28,[3,5,12])]) (dm:=[]) (by kernel_rfl)
theorem e6D (bp o5 j5){h Q}:d4y bp o5 j5 h Q→Kzv bp o5 j5 h Q:=Cut.bh Tryz.func139 mixed (cuts:=[(14,[4,5,12]),(15,[1,2,3,5,11,12,21]),(18,[1,2,3,5,11,12,21]),(25,[2,5]),(28,[3,5,12])]) (dm:=[]) (by kernel_rfl)
theorem e6E (bR bj ba o5 jq j5 t21){h Q}:d4z bR bj ba o5 jq j5 t21 h Q→Kzw bR bj ba o5 jq j5 t21 h Q:=Cut.bh Tryz.func139 mixed (cuts:=[(14,[4,5,12]),(15,[1,2,3,5,11,12,21]),(18,[1,2,3,5,11,12,21]),(25,[2,5]),(28,[3,5,12])]) (dm:=[]) (by kernel_rfl)
theorem e6F (bR bj ba o5 jq j5 t21){h Q}:d4A bR bj ba o5 jq j5 t21 h Q→b8D bR bj ba o5 jq j5 t21 h Q:=Cut.bh Tryz.func139 mixed (cuts:=[(14,[4,5,12]),(15,[1,2,3,5,11,12,21]),(18,[1,2,3,5,11,12,21]),(25,[2,5]),(28,[3,5,12])]) (dm:=[]) (by kernel_rfl)
theorem e6G (bj o5){h Q}:d4B bj o5 h Q→a8g bj o5 h Q:=Cut.bh Tryz.func139 mixed (cuts:=[(14,[4,5,12]),(15,[1,2,3,5,11,12,21]),(18,[1,2,3,5,11,12,21]),(25,[2,5]),(28,[3,5,12])]) (dm:=[]) (by kernel_rfl)
theorem e6H (ba o5 j5){h Q}:d4C ba o5 j5 h Q→Kzj ba o5 j5 h Q:=Cut.bh Tryz.func139 mixed (cuts:=[(14,[4,5,12]),(15,[1,2,3,5,11,12,21]),(18,[1,2,3,5,11,12,21]),(25,[2,5]),(28,[3,5,12])]) (dm:=[]) (by kernel_rfl)
def TF (f:Bool)(e d:Int)(a b:Sl)(g h:Int):M Value:=Cut Tryz.prog 140 (aQ Tryz.f140 4) (bf [(1,.bool f),(5,.int .i64 e),(6,.int .i64 d),(7,.slice a.p a.n a.c),(12,.slice b.p b.n b.c),(13,.int .i64 g),(14,.int .i64 h)] 97 0)
def a8h (g:Bool)(f e:Int)(a:Sl)(h:Addr)(b:Sl)(i j:Int)(d:Sl)(k l:Int):M Value:=Cut Tryz.prog 140 (aQ Tryz.f140 13) (bf [(1,.bool g),(5,.int .i64 f),(6,.int .i64 e),(7,.slice a.p a.n a.c),(9,.pointer (some h)),(12,.slice b.p b.n b.c),(13,.int .i64 i),(14,.int .i64 j),(30,.slice d.p d.n d.c),(31,.int .i64 k),(32,.int .i64 l)] 97 0)
def d4D (a:Sl)(b:Bool):M Value:=
 TF b 0 0 (Sl.mk none 0 0) a (a.n:Int) 0
def Bza (f:Bool)(b d:Int)(a g:Sl)(h e:Int):M Value:=
 aI (decide (e<h)) (
 bd g e 3 fun k=>
 ab .i64 k fun s=>
 ab .i64 (k.add 1) fun r=>
 ab .i64 (k.add 2) fun t=>
 aJ #[.int .i64 0,.int .i64 0,.int .i64 0] 90 fun i=>
 an i (.int .i64 s) <|
 an (i.add 1) (.int .i64 r) <|
 an (i.add 2) (.int .i64 t) <|
 ab .i64 i fun j=>
 aI (j == 3) (
 aI ((decide ((IntKind.i64.wrap (b+1))<0))||(decide (d<0))) (
 af (.bool false)) (
 TF f (IntKind.i64.wrap (b+1)) d a g h (IntKind.i64.wrap (e+(1:Int))))) (
 aI (j == 4) (
 aI ((decide ((IntKind.i64.wrap (b-1))<0))||(decide (d<0))) (
 af (.bool false)) (
 TF f (IntKind.i64.wrap (b-1)) d a g h (IntKind.i64.wrap (e+(1:Int))))) (
 aI (j == 5) (
 a8h f b d a i g h e a (a.n:Int) 0) (
 aI (j == 6) (
 ai (aI ((a.n:Int) == 0) (af true) (bd a (IntKind.i64.wrap ((a.n:Int)-1)) 1 fun o=>
 ab .i64 o fun u=>
 ab .i64 (i.add 1) fun v=>
 af (u != v))) fun p=>
 aI p (
 af (.bool false)) (
 mw a 1 0 (IntKind.i64.wrap ((a.n:Int)-1)) (a.c:Int) fun w=>
 aI ((decide (b<0))||(decide (d<0))) (
 af (.bool false)) (
 TF f b d w g h (IntKind.i64.wrap (e+(1:Int)))))) (
 aI (j == 7) (
 ab .i64 (i.add 1) fun l=>
 aI ((decide (b<0))||(decide ((IntKind.i64.wrap (d+l))<0))) (
 af (.bool false)) (
 TF f b (IntKind.i64.wrap (d+l)) a g h (IntKind.i64.wrap (e+(1:Int))))) (
 aI (j == 8) (
 ab .i64 (i.add 1) fun m=>
 aI ((decide (b<0))||(decide ((IntKind.i64.wrap (d-m))<0))) (
 af (.bool false)) (
 TF f b (IntKind.i64.wrap (d-m)) a g h (IntKind.i64.wrap (e+(1:Int))))) (
 aI ((decide (b<0))||(decide (d<0))) (
 af (.bool false)) (
 TF f b d a g h (IntKind.i64.wrap (e+(1:Int))))))))))) (
 ai (aI (!f) (af true) (af ((b == 0)&&((a.n:Int) == 0)))) fun q=>
 af (.bool q))
def Bzb (f:Bool)(b a:Int)(e:Sl)(c:Addr)(g:Sl)(h i:Int)(j:Sl)(k d:Int):M Value:=
 aI (decide (d<k)) (
 bd j d 1 fun o=>
 ab .i64 o fun m=>
 ab .i64 (c.add 1) fun l=>
 aI (m == l) (
 af (.bool false)) (
 a8h f b a e c g h i j k (IntKind.i64.wrap (d+(1:Int))))) (
 ab .i64 (c.add 1) fun q=>
 aJ #[.int .i64 q] 3 fun p=>
 bU 3 1 8 #[.int .i64 0] e ⟨(some p),1,1⟩ fun n=>
 aI ((decide (b<0))||(decide (a<0))) (
 af (.bool false)) (
 TF f b a n g h (IntKind.i64.wrap (i+(1:Int)))))
theorem e6I (l0 iM){h Q}:d4D l0 iM h Q→a7V l0 iM h Q:=Nf.bh Tryz.call140 Tryz.func140 rfl mixed (cuts:=[(4,[1,5,6,7,12,13,14]),(13,[1,5,6,7,9,12,13,14,30,31,32])]) (dm:=[]) (by kernel_rfl)
theorem Sza (iM ed dc cF t12 t13 t14){h Q}:Bza iM ed dc cF t12 t13 t14 h Q→TF iM ed dc cF t12 t13 t14 h Q:=Cut.bh Tryz.func140 mixed (cuts:=[(4,[1,5,6,7,12,13,14]),(13,[1,5,6,7,9,12,13,14,30,31,32])]) (dm:=[]) (by kernel_rfl)
theorem Szb (iM ed dc cF o9 t12 t13 t14 t30 t31 t32){h Q}:Bzb iM ed dc cF o9 t12 t13 t14 t30 t31 t32 h Q→a8h iM ed dc cF o9 t12 t13 t14 t30 t31 t32 h Q:=Cut.bh Tryz.func140 mixed (cuts:=[(4,[1,5,6,7,12,13,14]),(13,[1,5,6,7,9,12,13,14,30,31,32])]) (dm:=[]) (by kernel_rfl)
def a8i (a:Sl)(b:Nat)(d e:Array Value)(f g:Int):M Value:=Cut Tryz.prog 238 (aQ Tryz.f238 2) (bf [(0,.slice a.p a.n a.c),(1,.func (.func b) d e),(7,.int .i64 f),(8,.int .i64 g)] 19 0)
def d4E (a:Sl)(b:Nat)(c d:Array Value):M Value:=
 a8i a b c d (a.n:Int) 0
def Bzc (e:Sl)(b:Nat)(c d:Array Value)(f a:Int):M Value:=
 aI (decide (a<f)) (
 bd e a 1 fun i=>
 ab .i64 i fun g=>
 ai (Nf Tryz.prog b (c++ #[.int .i64 g]++d)) fun j=>
 da j fun h=>
 aI h (
 af (.int .i64 a)) (
 a8i e b c d f (IntKind.i64.wrap (a+(1:Int))))) (
 af (.int .i64 (-1:Int)))
theorem e6J (s0 gD gE gF){h Q}:d4E s0 gD gE gF h Q→d3s s0 gD gE gF h Q:=Nf.bh Tryz.call238 Tryz.func238 rfl mixed (cuts:=[(2,[0,1,7,8])]) (dm:=[]) (by kernel_rfl)
theorem Szc (s0 gD gE gF t7 t8){h Q}:Bzc s0 gD gE gF t7 t8 h Q→a8i s0 gD gE gF t7 t8 h Q:=Cut.bh Tryz.func238 mixed (cuts:=[(2,[0,1,7,8])]) (dm:=[]) (by kernel_rfl)
def d4F (F G H R S T U:Int):M Value:=
 aJ #[.int .i64 F,.int .i64 G,.int .i64 H] 90 fun a=>
 aJ #[.int .i64 R,.int .i64 S,.int .i64 T,.int .i64 U] 281 fun b=>
 ab .i64 a fun X=>
 ai (b7J X) fun Q=>
 aP .i64 Q fun Y=>
 aI (decide (Y<(0:Int))) (
 af (.int .i64 1)) (
 ab .i64 b fun f=>
 ab .i64 (b.add 1) fun g=>
 ab .i64 (b.add 2) fun h=>
 ab .i64 (b.add 3) fun i=>
 ab .i64 a fun I=>
 ai (b7K f g h i I) fun e=>
 tM e fun E=>
 bB E fun A B=>
 kg A fun y=>
 bB y fun l m=>
 aP .i64 l fun n=>
 bB m fun o p=>
 aP .i64 o fun q=>
 fO p <|
 bB B fun C D=>
 kg C fun z=>
 bB z fun r s=>
 aP .i64 r fun t=>
 bB s fun u v=>
 aP .i64 u fun w=>
 fO v <|
 fO D <|
 aJ #[.int .i64 0,.int .i64 0] 388 fun c=>
 aJ #[.int .i64 0,.int .i64 0] 388 fun d=>
 an c (.int .i64 n) <|
 an (c.add 1) (.int .i64 q) <|
 an d (.int .i64 t) <|
 an (d.add 1) (.int .i64 w) <|
 ab .i64 c fun j=>
 ab .i64 (c.add 1) fun k=>
 ab .i64 (a.add 1) fun W=>
 ai (a7W j k W) fun O=>
 da O fun J=>
 ai (aI (!J) (af true) (ab .i64 d fun L=>
 ab .i64 (d.add 1) fun N=>
 ab .i64 (a.add 2) fun K=>
 ai (a7W L N K) fun P=>
 da P fun V=>
 af (!V))) fun x=>
 aI x (
 af (.int .i64 5)) (
 af (.int .i64 0)))
theorem e6L (iX iY iZ rN rO rP rQ){h Q}:d4F iX iY iZ rN rO rP rQ h Q→b7G iX iY iZ rN rO rP rQ h Q:=Nf.bh Tryz.call239 Tryz.func239 rfl mixed (cuts:=[]) (dm:=[]) (by kernel_rfl)
def TG (a:Option Addr):M Value:=Cut Tryz.prog 240 (aQ Tryz.f240 19) (bf [(0,.pointer a)] 111 0)
def d4K (a:Option Addr)(r s o:Int):M Value:=
 aJ #[.int .i64 r,.int .i64 s,.int .i64 o] 90 fun b=>
 ab .i64 b fun d=>
 aI (d == 3) (
 ax a fun C=>
 ab .i64 C fun S=>
 ax a fun J=>
 an J (.int .i64 (IntKind.i64.wrap (S+1))) <|
 TG a) (
 aI (d == 4) (
 ax a fun x=>
 ab .i64 x fun U=>
 ax a fun y=>
 an y (.int .i64 (IntKind.i64.wrap (U-1))) <|
 TG a) (
 aI (d == 7) (
 ax a fun z=>
 ab .i64 (z.add 1) fun T=>
 ab .i64 (b.add 1) fun W=>
 ax a fun v=>
 an (v.add 1) (.int .i64 (IntKind.i64.wrap (T+W))) <|
 TG a) (
 aI (d == 8) (
 ax a fun A=>
 ab .i64 (A.add 1) fun u=>
 ab .i64 (b.add 1) fun ac=>
 ax a fun B=>
 an (B.add 1) (.int .i64 (IntKind.i64.wrap (u-ac))) <|
 TG a) (
 aI (d == 5) (
 ax a fun w=>
 aw (w.add 2) fun m=>
 ab .i64 (b.add 1) fun X=>
 mQ (b7L m X) fun V=>
 da V fun q=>
 aI q (
 af (.bool false)) (
 ax a fun i=>
 aG (
 aw (i.add 2) fun N=>
 ab .i64 (b.add 1) fun O=>
 aJ #[.int .i64 O] 3 fun P=>
 bU 3 1 8 #[.int .i64 0] N ⟨(some P),1,1⟩ fun e=>
 ax a fun F=>
 an (F.add 2) (.slice e.p e.n e.c) <|
 TG a) (
 ab .i64 (b.add 1) fun k=>
 aG (
 aw (i.add 2) fun Q=>
 aJ #[.int .i64 k] 3 fun R=>
 bU 3 1 8 #[.int .i64 0] Q ⟨(some R),1,1⟩ fun f=>
 ax a fun E=>
 an (E.add 2) (.slice f.p f.n f.c) <|
 TG a) (
 aJ #[.int .i64 k] 3 fun ae=>
 aw (i.add 2) fun Y=>
 bU 3 1 8 #[.int .i64 0] Y ⟨(some ae),1,1⟩ fun j=>
 ax a fun D=>
 an (D.add 2) (.slice j.p j.n j.c) <|
 TG a)))) (
 aI (d == 6) (
 ax a fun G=>
 aw (G.add 2) fun g=>
 ai (aI (decide ((IntKind.i64.wrap ((g.n:Int)-1))<0)) (af true) (ax a fun H=>
 aw (H.add 2) fun Z=>
 bd Z (IntKind.i64.wrap ((g.n:Int)-1)) 1 fun t=>
 ab .i64 t fun aa=>
 ab .i64 (b.add 1) fun ad=>
 af (aa != ad))) fun L=>
 aI L (
 af (.bool false)) (
 ax a fun I=>
 aw (I.add 2) fun l=>
 mw l 1 0 (IntKind.i64.wrap ((g.n:Int)-1)) (l.c:Int) fun h=>
 ax a fun K=>
 an (K.add 2) (.slice h.p h.n h.c) <|
 TG a)) (
 TG a))))))
def d4L (a:Option Addr):M Value:=
 ax a fun c=>
 ab .i64 c fun b=>
 ai (aI (decide (b≥0)) (ax a fun d=>
 ab .i64 (d.add 1) fun e=>
 af (decide (e≥0))) (af false)) fun f=>
 af (.bool f)
theorem e6O (n0 Ly Lz LA){h Q}:d4K n0 Ly Lz LA h Q→b7H n0 Ly Lz LA h Q:=Nf.bh Tryz.call240 Tryz.func240 rfl mixed (cuts:=[(19,[0])]) (dm:=[(7,[0,1,2,3,4,5,6]),(9,[0,1,2,3,4,5,6]),(13,[])]) (by kernel_rfl)
theorem e6P (n0){h Q}:d4L n0 h Q→TG n0 h Q:=Cut.bh Tryz.func240 mixed (cuts:=[(19,[0])]) (dm:=[(7,[0,1,2,3,4,5,6]),(9,[0,1,2,3,4,5,6]),(13,[])]) (by kernel_rfl)
def a8v (a:Sl)(b:Nat)(d e:Array Value)(f g:Int):M Value:=Cut Tryz.prog 241 (aQ Tryz.f241 2) (bf [(0,.slice a.p a.n a.c),(1,.func (.func b) d e),(7,.int .i64 f),(8,.int .i64 g)] 19 0)
def d4M (a:Sl)(b:Nat)(c d:Array Value):M Value:=
 a8v a b c d (a.n:Int) 0
def Bzd (f:Sl)(c:Nat)(d e:Array Value)(g a:Int):M Value:=
 aI (decide (a<g)) (
 bd f a 3 fun b=>
 ab .i64 b fun i=>
 ab .i64 (b.add 1) fun j=>
 ab .i64 (b.add 2) fun l=>
 ai (Nf Tryz.prog c (d++ #[.agg #[.int .i64 i,.int .i64 j,.int .i64 l]]++e)) fun k=>
 da k fun h=>
 aI h (
 af (.int .i64 a)) (
 a8v f c d e g (IntKind.i64.wrap (a+(1:Int))))) (
 af (.int .i64 (-1:Int)))
theorem e6Q (s0 gD gE gF){h Q}:d4M s0 gD gE gF h Q→d3t s0 gD gE gF h Q:=Nf.bh Tryz.call241 Tryz.func241 rfl mixed (cuts:=[(2,[0,1,7,8])]) (dm:=[]) (by kernel_rfl)
theorem Szd (s0 gD gE gF t7 t8){h Q}:Bzd s0 gD gE gF t7 t8 h Q→a8v s0 gD gE gF t7 t8 h Q:=Cut.bh Tryz.func241 mixed (cuts:=[(2,[0,1,7,8])]) (dm:=[]) (by kernel_rfl)
def a8w (a:Sl)(b:Nat)(d e:Array Value)(f g:Int):M Value:=Cut Tryz.prog 242 (aQ Tryz.f242 2) (bf [(0,.slice a.p a.n a.c),(1,.func (.func b) d e),(7,.int .i64 f),(8,.int .i64 g)] 19 0)
def d4N (a:Sl)(b:Nat)(c d:Array Value):M Value:=
 a8w a b c d (a.n:Int) 0
def Bze (h:Sl)(e:Nat)(f g:Array Value)(i b:Int):M Value:=
 aI (decide (b<i)) (
 bd h b 7 fun a=>
 ab .i64 a fun o=>
 ab .i64 (a.add 1) fun q=>
 ab .i64 (a.add 2) fun s=>
 ab .i64 (a.add 3) fun j=>
 ab .i64 (a.add 4) fun k=>
 ab .i64 (a.add 5) fun l=>
 aw (a.add 6) fun d=>
 ai (Nf Tryz.prog e (f++ #[.agg #[.int .i64 o,.int .i64 q,.int .i64 s,.int .i64 j,.int .i64 k,.int .i64 l,.slice d.p d.n d.c]]++g)) fun r=>
 da r fun m=>
 aI m (
 af (.int .i64 b)) (
 a8w h e f g i (IntKind.i64.wrap (b+(1:Int))))) (
 af (.int .i64 (-1:Int)))
theorem e6R (s0 gD gE gF){h Q}:d4N s0 gD gE gF h Q→d3u s0 gD gE gF h Q:=Nf.bh Tryz.call242 Tryz.func242 rfl mixed (cuts:=[(2,[0,1,7,8])]) (dm:=[]) (by kernel_rfl)
theorem Sze (s0 gD gE gF t7 t8){h Q}:Bze s0 gD gE gF t7 t8 h Q→a8w s0 gD gE gF t7 t8 h Q:=Cut.bh Tryz.func242 mixed (cuts:=[(2,[0,1,7,8])]) (dm:=[]) (by kernel_rfl)
def a8x (a b:Int):M Value:=Cut Tryz.prog 206 (aQ Tryz.f206 5) (bf [(0,.int .i64 a),(3,.int .i64 b)] 18 0)
def d4O (a:Int):M Value:=
 aI (a == 3) (
 aI (a == 3) (
 af (.int .i64 0)) (
 a8x a a)) (
 aI (a == 4) (
 af (.int .i64 0)) (
 a8x a a))
def d4P (a b:Int):M Value:=
 aI (b == 9) (
 aI (b == 9) (
 af (.int .i64 2)) (
 aI ((decide (a<1))||(decide (a>15))) (
 af (.int .i64 (-1:Int))) (
 af (.int .i64 1)))) (
 aI (b == 11) (
 aI (b == 11) (
 af (.int .i64 2)) (
 aI ((decide (a<1))||(decide (a>15))) (
 af (.int .i64 (-1:Int))) (
 af (.int .i64 1)))) (
 aI (b == 12) (
 aI (b == 12) (
 af (.int .i64 2)) (
 aI ((decide (a<1))||(decide (a>15))) (
 af (.int .i64 (-1:Int))) (
 af (.int .i64 1)))) (
 aI (b == 13) (
 af (.int .i64 2)) (
 aI ((decide (a<1))||(decide (a>15))) (
 af (.int .i64 (-1:Int))) (
 af (.int .i64 1))))))
theorem e6S (eM){h Q}:d4O eM h Q→b7I eM h Q:=Nf.bh Tryz.call206 Tryz.func206 rfl mixed (cuts:=[(5,[0,3])]) (dm:=[]) (by kernel_rfl)
theorem e6T (eM t3){h Q}:d4P eM t3 h Q→a8x eM t3 h Q:=Cut.bh Tryz.func206 mixed (cuts:=[(5,[0,3])]) (dm:=[]) (by kernel_rfl)
def d4Q (a b c:Int):M Value:=
 af (.bool ((decide (a≥b))&&(decide (a≤c))))
theorem e6U (n0 dZ rF){h Q}:d4Q n0 dZ rF h Q→LB n0 dZ rF h Q:=Nf.bh Tryz.call207 Tryz.func207 rfl mixed (cuts:=[]) (dm:=[]) (by kernel_rfl)
def d4R (a:Int):M Value:=
 ai (d3v) fun e=>
 sI e fun b=>
 aI ((decide (a<(0:Int)))||(decide (a≥(b.n:Int)))) (
 af (.int .i64 (-1:Int))) (
 bd b a 2 fun d=>
 ab .i64 (d.add 1) fun c=>
 af (.int .i64 c))
theorem e6V (k0){h Q}:d4R k0 h Q→b7J k0 h Q:=Nf.bh Tryz.call296 Tryz.func296 rfl mixed (cuts:=[]) (dm:=[]) (by kernel_rfl)
def Kzn (d a b c:Addr)(e:Int):M Value:=Cut Tryz.prog 297 (aQ Tryz.f297 14) (bf [(2,.pointer (some d)),(4,.pointer (some a)),(5,.pointer (some b)),(6,.func (.func 334) #[] #[]),(7,.pointer (some c)),(9,.int .i64 e)] 58 0)
def Kzx (c a b:Addr)(d:Int):M Value:=Cut Tryz.prog 297 (aQ Tryz.f297 22) (bf [(2,.pointer (some c)),(4,.pointer (some a)),(5,.pointer (some b)),(6,.func (.func 334) #[] #[]),(9,.int .i64 d)] 58 0)
def d4S (ga gb gc gd c:Int):M Value:=
 aJ #[.int .i64 ga,.int .i64 gb,.int .i64 gc,.int .i64 gd] 281 fun d=>
 aJ #[.int .i64 0,.int .i64 0] 388 fun a=>
 aJ #[.int .i64 0,.int .i64 0] 388 fun b=>
 aJ #[.int .i64 0,.int .i64 0] 388 fun e=>
 an e (.int .i64 0) <|
 an (e.add 1) (.int .i64 255) <|
 aI (c == 1) (
 an a (.int .i64 1) <|
 an (a.add 1) (.int .i64 1000) <|
 aG (
 ab .i64 a fun g=>
 ab .i64 (a.add 1) fun h=>
 aG (
 ab .i64 b fun aq=>
 ab .i64 (b.add 1) fun ar=>
 an a (.int .i64 g) <|
 an (a.add 1) (.int .i64 h) <|
 an b (.int .i64 aq) <|
 an (b.add 1) (.int .i64 ar) <|
 ab .i64 a fun au=>
 ab .i64 (a.add 1) fun av=>
 ab .i64 b fun dy=>
 ab .i64 (b.add 1) fun dz=>
 af (.tuple #[.agg #[.int .i64 au,.int .i64 av],.agg #[.int .i64 dy,.int .i64 dz]])) (
 an a (.int .i64 g) <|
 an (a.add 1) (.int .i64 h) <|
 ab .i64 b fun aw=>
 ab .i64 (b.add 1) fun ax=>
 an b (.int .i64 aw) <|
 an (b.add 1) (.int .i64 ax) <|
 ab .i64 a fun ea=>
 ab .i64 (a.add 1) fun eb=>
 ab .i64 b fun ec=>
 ab .i64 (b.add 1) fun ed=>
 af (.tuple #[.agg #[.int .i64 ea,.int .i64 eb],.agg #[.int .i64 ec,.int .i64 ed]]))) (
 ab .i64 b fun v=>
 ab .i64 (b.add 1) fun w=>
 ab .i64 a fun x=>
 ab .i64 (a.add 1) fun y=>
 an a (.int .i64 x) <|
 an (a.add 1) (.int .i64 y) <|
 an b (.int .i64 v) <|
 an (b.add 1) (.int .i64 w) <|
 ab .i64 a fun ay=>
 ab .i64 (a.add 1) fun az=>
 ab .i64 b fun bo=>
 ab .i64 (b.add 1) fun bp=>
 af (.tuple #[.agg #[.int .i64 ay,.int .i64 az],.agg #[.int .i64 bo,.int .i64 bp]]))) (
 aI (c == 2) (
 an a (.int .i64 0) <|
 an (a.add 1) (.int .i64 255) <|
 aG (
 ab .i64 a fun i=>
 ab .i64 (a.add 1) fun j=>
 aG (
 ab .i64 b fun ba=>
 ab .i64 (b.add 1) fun bb=>
 an a (.int .i64 i) <|
 an (a.add 1) (.int .i64 j) <|
 an b (.int .i64 ba) <|
 an (b.add 1) (.int .i64 bb) <|
 ab .i64 a fun ee=>
 ab .i64 (a.add 1) fun ey=>
 ab .i64 b fun bc=>
 ab .i64 (b.add 1) fun bd=>
 af (.tuple #[.agg #[.int .i64 ee,.int .i64 ey],.agg #[.int .i64 bc,.int .i64 bd]])) (
 an a (.int .i64 i) <|
 an (a.add 1) (.int .i64 j) <|
 ab .i64 b fun be=>
 ab .i64 (b.add 1) fun bf=>
 an b (.int .i64 be) <|
 an (b.add 1) (.int .i64 bf) <|
 ab .i64 a fun ez=>
 ab .i64 (a.add 1) fun fa=>
 ab .i64 b fun fb=>
 ab .i64 (b.add 1) fun fc=>
 af (.tuple #[.agg #[.int .i64 ez,.int .i64 fa],.agg #[.int .i64 fb,.int .i64 fc]]))) (
 ab .i64 b fun bg=>
 ab .i64 (b.add 1) fun bh=>
 ab .i64 a fun bi=>
 ab .i64 (a.add 1) fun bj=>
 an a (.int .i64 bi) <|
 an (a.add 1) (.int .i64 bj) <|
 an b (.int .i64 bg) <|
 an (b.add 1) (.int .i64 bh) <|
 ab .i64 a fun fd=>
 ab .i64 (a.add 1) fun fe=>
 ab .i64 b fun bk=>
 ab .i64 (b.add 1) fun bl=>
 af (.tuple #[.agg #[.int .i64 fd,.int .i64 fe],.agg #[.int .i64 bk,.int .i64 bl]]))) (
 aI (c == 5) (
 aI (c == 5) (
 ab .i64 (d.add 3) fun cm=>
 ai (A1 cm) fun fz=>
 kg fz fun fy=>
 bB fy fun ff fg=>
 aP .i64 ff fun bm=>
 bB fg fun fh fi=>
 aP .i64 fh fun bn=>
 fO fi <|
 an a (.int .i64 bm) <|
 an (a.add 1) (.int .i64 bn) <|
 aG (
 ab .i64 a fun k=>
 ab .i64 (a.add 1) fun l=>
 aG (
 ab .i64 b fun ag=>
 ab .i64 (b.add 1) fun ah=>
 an a (.int .i64 k) <|
 an (a.add 1) (.int .i64 l) <|
 an b (.int .i64 ag) <|
 an (b.add 1) (.int .i64 ah) <|
 ab .i64 a fun fj=>
 ab .i64 (a.add 1) fun fk=>
 ab .i64 b fun fl=>
 ab .i64 (b.add 1) fun fm=>
 af (.tuple #[.agg #[.int .i64 fj,.int .i64 fk],.agg #[.int .i64 fl,.int .i64 fm]])) (
 an a (.int .i64 k) <|
 an (a.add 1) (.int .i64 l) <|
 ab .i64 b fun aj=>
 ab .i64 (b.add 1) fun ak=>
 an b (.int .i64 aj) <|
 an (b.add 1) (.int .i64 ak) <|
 ab .i64 a fun fn=>
 ab .i64 (a.add 1) fun fo=>
 ab .i64 b fun fp=>
 ab .i64 (b.add 1) fun fq=>
 af (.tuple #[.agg #[.int .i64 fn,.int .i64 fo],.agg #[.int .i64 fp,.int .i64 fq]]))) (
 ab .i64 b fun al=>
 ab .i64 (b.add 1) fun am=>
 ab .i64 a fun ao=>
 ab .i64 (a.add 1) fun ap=>
 an a (.int .i64 ao) <|
 an (a.add 1) (.int .i64 ap) <|
 an b (.int .i64 al) <|
 an (b.add 1) (.int .i64 am) <|
 ab .i64 a fun bq=>
 ab .i64 (a.add 1) fun br=>
 ab .i64 b fun fr=>
 ab .i64 (b.add 1) fun fs=>
 af (.tuple #[.agg #[.int .i64 bq,.int .i64 br],.agg #[.int .i64 fr,.int .i64 fs]]))) (
 aI (c == 7) (
 aI (c == 7) (
 an a (.int .i64 1) <|
 an (a.add 1) (.int .i64 4096) <|
 aG (
 ab .i64 a fun m=>
 ab .i64 (a.add 1) fun n=>
 aG (
 ab .i64 b fun bs=>
 ab .i64 (b.add 1) fun bt=>
 an a (.int .i64 m) <|
 an (a.add 1) (.int .i64 n) <|
 an b (.int .i64 bs) <|
 an (b.add 1) (.int .i64 bt) <|
 ab .i64 a fun ft=>
 ab .i64 (a.add 1) fun fu=>
 ab .i64 b fun fv=>
 ab .i64 (b.add 1) fun fw=>
 af (.tuple #[.agg #[.int .i64 ft,.int .i64 fu],.agg #[.int .i64 fv,.int .i64 fw]])) (
 an a (.int .i64 m) <|
 an (a.add 1) (.int .i64 n) <|
 ab .i64 b fun bu=>
 ab .i64 (b.add 1) fun bv=>
 an b (.int .i64 bu) <|
 an (b.add 1) (.int .i64 bv) <|
 ab .i64 a fun fx=>
 ab .i64 (a.add 1) fun ef=>
 ab .i64 b fun eg=>
 ab .i64 (b.add 1) fun eh=>
 af (.tuple #[.agg #[.int .i64 fx,.int .i64 ef],.agg #[.int .i64 eg,.int .i64 eh]]))) (
 ab .i64 b fun bw=>
 ab .i64 (b.add 1) fun bx=>
 ab .i64 a fun bz=>
 ab .i64 (a.add 1) fun ca=>
 an a (.int .i64 bz) <|
 an (a.add 1) (.int .i64 ca) <|
 an b (.int .i64 bw) <|
 an (b.add 1) (.int .i64 bx) <|
 ab .i64 a fun ei=>
 ab .i64 (a.add 1) fun ej=>
 ab .i64 b fun ek=>
 ab .i64 (b.add 1) fun el=>
 af (.tuple #[.agg #[.int .i64 ei,.int .i64 ej],.agg #[.int .i64 ek,.int .i64 el]]))) (
 Kzn d a b e c)) (
 aI (c == 8) (
 an a (.int .i64 1) <|
 an (a.add 1) (.int .i64 4096) <|
 aG (
 ab .i64 a fun o=>
 ab .i64 (a.add 1) fun f=>
 aG (
 ab .i64 b fun cb=>
 ab .i64 (b.add 1) fun cc=>
 an a (.int .i64 o) <|
 an (a.add 1) (.int .i64 f) <|
 an b (.int .i64 cb) <|
 an (b.add 1) (.int .i64 cc) <|
 ab .i64 a fun em=>
 ab .i64 (a.add 1) fun en=>
 ab .i64 b fun eo=>
 ab .i64 (b.add 1) fun ep=>
 af (.tuple #[.agg #[.int .i64 em,.int .i64 en],.agg #[.int .i64 eo,.int .i64 ep]])) (
 an a (.int .i64 o) <|
 an (a.add 1) (.int .i64 f) <|
 ab .i64 b fun cd=>
 ab .i64 (b.add 1) fun ce=>
 an b (.int .i64 cd) <|
 an (b.add 1) (.int .i64 ce) <|
 ab .i64 a fun eq=>
 ab .i64 (a.add 1) fun er=>
 ab .i64 b fun es=>
 ab .i64 (b.add 1) fun et=>
 af (.tuple #[.agg #[.int .i64 eq,.int .i64 er],.agg #[.int .i64 es,.int .i64 et]]))) (
 ab .i64 b fun cf=>
 ab .i64 (b.add 1) fun cg=>
 ab .i64 a fun ch=>
 ab .i64 (a.add 1) fun ci=>
 an a (.int .i64 ch) <|
 an (a.add 1) (.int .i64 ci) <|
 an b (.int .i64 cf) <|
 an (b.add 1) (.int .i64 cg) <|
 ab .i64 a fun eu=>
 ab .i64 (a.add 1) fun ev=>
 ab .i64 b fun ew=>
 ab .i64 (b.add 1) fun ex=>
 af (.tuple #[.agg #[.int .i64 eu,.int .i64 ev],.agg #[.int .i64 ew,.int .i64 ex]]))) (
 Kzn d a b e c)))) (
 aI (c == 6) (
 ab .i64 (d.add 3) fun ck=>
 ai (A1 ck) fun cl=>
 kg cl fun cj=>
 bB cj fun F G=>
 aP .i64 F fun H=>
 bB G fun I J=>
 aP .i64 I fun K=>
 fO J <|
 an a (.int .i64 H) <|
 an (a.add 1) (.int .i64 K) <|
 aG (
 ab .i64 a fun p=>
 ab .i64 (a.add 1) fun q=>
 aG (
 ab .i64 b fun L=>
 ab .i64 (b.add 1) fun N=>
 an a (.int .i64 p) <|
 an (a.add 1) (.int .i64 q) <|
 an b (.int .i64 L) <|
 an (b.add 1) (.int .i64 N) <|
 ab .i64 a fun cn=>
 ab .i64 (a.add 1) fun co=>
 ab .i64 b fun cp=>
 ab .i64 (b.add 1) fun cq=>
 af (.tuple #[.agg #[.int .i64 cn,.int .i64 co],.agg #[.int .i64 cp,.int .i64 cq]])) (
 an a (.int .i64 p) <|
 an (a.add 1) (.int .i64 q) <|
 ab .i64 b fun O=>
 ab .i64 (b.add 1) fun P=>
 an b (.int .i64 O) <|
 an (b.add 1) (.int .i64 P) <|
 ab .i64 a fun cr=>
 ab .i64 (a.add 1) fun cs=>
 ab .i64 b fun ct=>
 ab .i64 (b.add 1) fun cu=>
 af (.tuple #[.agg #[.int .i64 cr,.int .i64 cs],.agg #[.int .i64 ct,.int .i64 cu]]))) (
 ab .i64 b fun Q=>
 ab .i64 (b.add 1) fun R=>
 ab .i64 a fun S=>
 ab .i64 (a.add 1) fun T=>
 an a (.int .i64 S) <|
 an (a.add 1) (.int .i64 T) <|
 an b (.int .i64 Q) <|
 an (b.add 1) (.int .i64 R) <|
 ab .i64 a fun cv=>
 ab .i64 (a.add 1) fun cx=>
 ab .i64 b fun cy=>
 ab .i64 (b.add 1) fun cz=>
 af (.tuple #[.agg #[.int .i64 cv,.int .i64 cx],.agg #[.int .i64 cy,.int .i64 cz]]))) (
 aI (c == 7) (
 aI (c == 7) (
 an a (.int .i64 1) <|
 an (a.add 1) (.int .i64 4096) <|
 aG (
 ab .i64 a fun r=>
 ab .i64 (a.add 1) fun s=>
 aG (
 ab .i64 b fun U=>
 ab .i64 (b.add 1) fun z=>
 an a (.int .i64 r) <|
 an (a.add 1) (.int .i64 s) <|
 an b (.int .i64 U) <|
 an (b.add 1) (.int .i64 z) <|
 ab .i64 a fun da=>
 ab .i64 (a.add 1) fun db=>
 ab .i64 b fun dc=>
 ab .i64 (b.add 1) fun dd=>
 af (.tuple #[.agg #[.int .i64 da,.int .i64 db],.agg #[.int .i64 dc,.int .i64 dd]])) (
 an a (.int .i64 r) <|
 an (a.add 1) (.int .i64 s) <|
 ab .i64 b fun A=>
 ab .i64 (b.add 1) fun B=>
 an b (.int .i64 A) <|
 an (b.add 1) (.int .i64 B) <|
 ab .i64 a fun de=>
 ab .i64 (a.add 1) fun df=>
 ab .i64 b fun dg=>
 ab .i64 (b.add 1) fun dh=>
 af (.tuple #[.agg #[.int .i64 de,.int .i64 df],.agg #[.int .i64 dg,.int .i64 dh]]))) (
 ab .i64 b fun C=>
 ab .i64 (b.add 1) fun D=>
 ab .i64 a fun E=>
 ab .i64 (a.add 1) fun V=>
 an a (.int .i64 E) <|
 an (a.add 1) (.int .i64 V) <|
 an b (.int .i64 C) <|
 an (b.add 1) (.int .i64 D) <|
 ab .i64 a fun di=>
 ab .i64 (a.add 1) fun dj=>
 ab .i64 b fun dk=>
 ab .i64 (b.add 1) fun dl=>
 af (.tuple #[.agg #[.int .i64 di,.int .i64 dj],.agg #[.int .i64 dk,.int .i64 dl]]))) (
 Kzn d a b e c)) (
 aI (c == 8) (
 an a (.int .i64 1) <|
 an (a.add 1) (.int .i64 4096) <|
 aG (
 ab .i64 a fun t=>
 ab .i64 (a.add 1) fun u=>
 aG (
 ab .i64 b fun W=>
 ab .i64 (b.add 1) fun X=>
 an a (.int .i64 t) <|
 an (a.add 1) (.int .i64 u) <|
 an b (.int .i64 W) <|
 an (b.add 1) (.int .i64 X) <|
 ab .i64 a fun dm=>
 ab .i64 (a.add 1) fun dn=>
 ab .i64 b fun dp=>
 ab .i64 (b.add 1) fun dq=>
 af (.tuple #[.agg #[.int .i64 dm,.int .i64 dn],.agg #[.int .i64 dp,.int .i64 dq]])) (
 an a (.int .i64 t) <|
 an (a.add 1) (.int .i64 u) <|
 ab .i64 b fun Y=>
 ab .i64 (b.add 1) fun Z=>
 an b (.int .i64 Y) <|
 an (b.add 1) (.int .i64 Z) <|
 ab .i64 a fun dr=>
 ab .i64 (a.add 1) fun ds=>
 ab .i64 b fun dt=>
 ab .i64 (b.add 1) fun du=>
 af (.tuple #[.agg #[.int .i64 dr,.int .i64 ds],.agg #[.int .i64 dt,.int .i64 du]]))) (
 ab .i64 b fun aa=>
 ab .i64 (b.add 1) fun ac=>
 ab .i64 a fun ad=>
 ab .i64 (a.add 1) fun ae=>
 an a (.int .i64 ad) <|
 an (a.add 1) (.int .i64 ae) <|
 an b (.int .i64 aa) <|
 an (b.add 1) (.int .i64 ac) <|
 ab .i64 a fun dv=>
 ab .i64 (a.add 1) fun dw=>
 ab .i64 b fun dx=>
 ab .i64 (b.add 1) fun cw=>
 af (.tuple #[.agg #[.int .i64 dv,.int .i64 dw],.agg #[.int .i64 dx,.int .i64 cw]]))) (
 Kzn d a b e c))))))
def d5T (d b a c:Addr)(e:Int):M Value:=
 aI (e == 9) (
 aG (
 ab .i64 d fun h=>
 aG (
 ai (A1 h) fun jk=>
 kg jk fun jd=>
 bB jd fun bw bx=>
 aP .i64 bw fun n=>
 bB bx fun bz ca=>
 aP .i64 bz fun o=>
 fO ca <|
 aG (
 ab .i64 c fun cb=>
 ab .i64 (c.add 1) fun cc=>
 an b (.int .i64 n) <|
 an (b.add 1) (.int .i64 o) <|
 an a (.int .i64 cb) <|
 an (a.add 1) (.int .i64 cc) <|
 aG (
 ab .i64 b fun p=>
 ab .i64 (b.add 1) fun q=>
 aG (
 ab .i64 a fun cd=>
 ab .i64 (a.add 1) fun ce=>
 an b (.int .i64 p) <|
 an (b.add 1) (.int .i64 q) <|
 an a (.int .i64 cd) <|
 an (a.add 1) (.int .i64 ce) <|
 ab .i64 b fun jw=>
 ab .i64 (b.add 1) fun jx=>
 ab .i64 a fun jy=>
 ab .i64 (a.add 1) fun jz=>
 af (.tuple #[.agg #[.int .i64 jw,.int .i64 jx],.agg #[.int .i64 jy,.int .i64 jz]])) (
 an b (.int .i64 p) <|
 an (b.add 1) (.int .i64 q) <|
 ab .i64 a fun cf=>
 ab .i64 (a.add 1) fun cg=>
 an a (.int .i64 cf) <|
 an (a.add 1) (.int .i64 cg) <|
 ab .i64 b fun ka=>
 ab .i64 (b.add 1) fun kb=>
 ab .i64 a fun kc=>
 ab .i64 (a.add 1) fun kd=>
 af (.tuple #[.agg #[.int .i64 ka,.int .i64 kb],.agg #[.int .i64 kc,.int .i64 kd]]))) (
 ab .i64 a fun ch=>
 ab .i64 (a.add 1) fun ci=>
 ab .i64 b fun cj=>
 ab .i64 (b.add 1) fun ck=>
 an b (.int .i64 cj) <|
 an (b.add 1) (.int .i64 ck) <|
 an a (.int .i64 ch) <|
 an (a.add 1) (.int .i64 ci) <|
 ab .i64 b fun ke=>
 ab .i64 (b.add 1) fun kf=>
 ab .i64 a fun kh=>
 ab .i64 (a.add 1) fun ki=>
 af (.tuple #[.agg #[.int .i64 ke,.int .i64 kf],.agg #[.int .i64 kh,.int .i64 ki]]))) (
 an b (.int .i64 n) <|
 an (b.add 1) (.int .i64 o) <|
 ab .i64 c fun cl=>
 ab .i64 (c.add 1) fun cm=>
 an a (.int .i64 cl) <|
 an (a.add 1) (.int .i64 cm) <|
 aG (
 ab .i64 b fun r=>
 ab .i64 (b.add 1) fun s=>
 aG (
 ab .i64 a fun cn=>
 ab .i64 (a.add 1) fun aw=>
 an b (.int .i64 r) <|
 an (b.add 1) (.int .i64 s) <|
 an a (.int .i64 cn) <|
 an (a.add 1) (.int .i64 aw) <|
 ab .i64 b fun kj=>
 ab .i64 (b.add 1) fun kk=>
 ab .i64 a fun kl=>
 ab .i64 (a.add 1) fun km=>
 af (.tuple #[.agg #[.int .i64 kj,.int .i64 kk],.agg #[.int .i64 kl,.int .i64 km]])) (
 an b (.int .i64 r) <|
 an (b.add 1) (.int .i64 s) <|
 ab .i64 a fun ax=>
 ab .i64 (a.add 1) fun ay=>
 an a (.int .i64 ax) <|
 an (a.add 1) (.int .i64 ay) <|
 ab .i64 b fun kn=>
 ab .i64 (b.add 1) fun ko=>
 ab .i64 a fun kp=>
 ab .i64 (a.add 1) fun kq=>
 af (.tuple #[.agg #[.int .i64 kn,.int .i64 ko],.agg #[.int .i64 kp,.int .i64 kq]]))) (
 ab .i64 a fun az=>
 ab .i64 (a.add 1) fun ba=>
 ab .i64 b fun bb=>
 ab .i64 (b.add 1) fun bc=>
 an b (.int .i64 bb) <|
 an (b.add 1) (.int .i64 bc) <|
 an a (.int .i64 az) <|
 an (a.add 1) (.int .i64 ba) <|
 ab .i64 b fun kr=>
 ab .i64 (b.add 1) fun ks=>
 ab .i64 a fun kt=>
 ab .i64 (a.add 1) fun ku=>
 af (.tuple #[.agg #[.int .i64 kr,.int .i64 ks],.agg #[.int .i64 kt,.int .i64 ku]])))) (
 ab .i64 c fun bd=>
 ab .i64 (c.add 1) fun be=>
 ai (A1 h) fun jl=>
 kg jl fun je=>
 bB je fun bf bg=>
 aP .i64 bf fun bh=>
 bB bg fun bi bj=>
 aP .i64 bi fun bk=>
 fO bj <|
 an b (.int .i64 bh) <|
 an (b.add 1) (.int .i64 bk) <|
 an a (.int .i64 bd) <|
 an (a.add 1) (.int .i64 be) <|
 aG (
 ab .i64 b fun t=>
 ab .i64 (b.add 1) fun u=>
 aG (
 ab .i64 a fun bl=>
 ab .i64 (a.add 1) fun bm=>
 an b (.int .i64 t) <|
 an (b.add 1) (.int .i64 u) <|
 an a (.int .i64 bl) <|
 an (a.add 1) (.int .i64 bm) <|
 ab .i64 b fun kv=>
 ab .i64 (b.add 1) fun lx=>
 ab .i64 a fun ly=>
 ab .i64 (a.add 1) fun lz=>
 af (.tuple #[.agg #[.int .i64 kv,.int .i64 lx],.agg #[.int .i64 ly,.int .i64 lz]])) (
 an b (.int .i64 t) <|
 an (b.add 1) (.int .i64 u) <|
 ab .i64 a fun bn=>
 ab .i64 (a.add 1) fun bo=>
 an a (.int .i64 bn) <|
 an (a.add 1) (.int .i64 bo) <|
 ab .i64 b fun ma=>
 ab .i64 (b.add 1) fun mb=>
 ab .i64 a fun mc=>
 ab .i64 (a.add 1) fun md=>
 af (.tuple #[.agg #[.int .i64 ma,.int .i64 mb],.agg #[.int .i64 mc,.int .i64 md]]))) (
 ab .i64 a fun bp=>
 ab .i64 (a.add 1) fun bq=>
 ab .i64 b fun br=>
 ab .i64 (b.add 1) fun bs=>
 an b (.int .i64 br) <|
 an (b.add 1) (.int .i64 bs) <|
 an a (.int .i64 bp) <|
 an (a.add 1) (.int .i64 bq) <|
 ab .i64 b fun me=>
 ab .i64 (b.add 1) fun mf=>
 ab .i64 a fun mg=>
 ab .i64 (a.add 1) fun mh=>
 af (.tuple #[.agg #[.int .i64 me,.int .i64 mf],.agg #[.int .i64 mg,.int .i64 mh]])))) (
 ab .i64 c fun ah=>
 ab .i64 (c.add 1) fun aj=>
 ab .i64 d fun so=>
 ai (A1 so) fun sq=>
 kg sq fun sl=>
 bB sl fun rv rw=>
 aP .i64 rv fun iw=>
 bB rw fun rx ry=>
 aP .i64 rx fun ix=>
 fO ry <|
 an b (.int .i64 iw) <|
 an (b.add 1) (.int .i64 ix) <|
 an a (.int .i64 ah) <|
 an (a.add 1) (.int .i64 aj) <|
 aG (
 ab .i64 b fun v=>
 ab .i64 (b.add 1) fun w=>
 aG (
 ab .i64 a fun bt=>
 ab .i64 (a.add 1) fun bu=>
 an b (.int .i64 v) <|
 an (b.add 1) (.int .i64 w) <|
 an a (.int .i64 bt) <|
 an (a.add 1) (.int .i64 bu) <|
 ab .i64 b fun mi=>
 ab .i64 (b.add 1) fun mj=>
 ab .i64 a fun mk=>
 ab .i64 (a.add 1) fun ml=>
 af (.tuple #[.agg #[.int .i64 mi,.int .i64 mj],.agg #[.int .i64 mk,.int .i64 ml]])) (
 an b (.int .i64 v) <|
 an (b.add 1) (.int .i64 w) <|
 ab .i64 a fun bv=>
 ab .i64 (a.add 1) fun ak=>
 an a (.int .i64 bv) <|
 an (a.add 1) (.int .i64 ak) <|
 ab .i64 b fun mm=>
 ab .i64 (b.add 1) fun mn=>
 ab .i64 a fun mo=>
 ab .i64 (a.add 1) fun mp=>
 af (.tuple #[.agg #[.int .i64 mm,.int .i64 mn],.agg #[.int .i64 mo,.int .i64 mp]]))) (
 ab .i64 a fun aa=>
 ab .i64 (a.add 1) fun ac=>
 ab .i64 b fun ad=>
 ab .i64 (b.add 1) fun ae=>
 an b (.int .i64 ad) <|
 an (b.add 1) (.int .i64 ae) <|
 an a (.int .i64 aa) <|
 an (a.add 1) (.int .i64 ac) <|
 ab .i64 b fun mq=>
 ab .i64 (b.add 1) fun mr=>
 ab .i64 a fun ms=>
 ab .i64 (a.add 1) fun mt=>
 af (.tuple #[.agg #[.int .i64 mq,.int .i64 mr],.agg #[.int .i64 ms,.int .i64 mt]])))) (
 aI (e == 10) (
 ab .i64 d fun sp=>
 ai (A1 sp) fun sr=>
 kg sr fun sm=>
 bB sm fun rz sa=>
 aP .i64 rz fun jf=>
 bB sa fun sb sc=>
 aP .i64 sb fun jg=>
 fO sc <|
 an b (.int .i64 jf) <|
 an (b.add 1) (.int .i64 jg) <|
 aG (
 ab .i64 b fun j=>
 ab .i64 (b.add 1) fun k=>
 aG (
 ab .i64 a fun al=>
 ab .i64 (a.add 1) fun am=>
 an b (.int .i64 j) <|
 an (b.add 1) (.int .i64 k) <|
 an a (.int .i64 al) <|
 an (a.add 1) (.int .i64 am) <|
 ab .i64 b fun mu=>
 ab .i64 (b.add 1) fun mv=>
 ab .i64 a fun mw=>
 ab .i64 (a.add 1) fun kw=>
 af (.tuple #[.agg #[.int .i64 mu,.int .i64 mv],.agg #[.int .i64 mw,.int .i64 kw]])) (
 an b (.int .i64 j) <|
 an (b.add 1) (.int .i64 k) <|
 ab .i64 a fun ao=>
 ab .i64 (a.add 1) fun ap=>
 an a (.int .i64 ao) <|
 an (a.add 1) (.int .i64 ap) <|
 ab .i64 b fun kx=>
 ab .i64 (b.add 1) fun ky=>
 ab .i64 a fun kz=>
 ab .i64 (a.add 1) fun la=>
 af (.tuple #[.agg #[.int .i64 kx,.int .i64 ky],.agg #[.int .i64 kz,.int .i64 la]]))) (
 ab .i64 a fun aq=>
 ab .i64 (a.add 1) fun ar=>
 ab .i64 b fun au=>
 ab .i64 (b.add 1) fun av=>
 an b (.int .i64 au) <|
 an (b.add 1) (.int .i64 av) <|
 an a (.int .i64 aq) <|
 an (a.add 1) (.int .i64 ar) <|
 ab .i64 b fun lb=>
 ab .i64 (b.add 1) fun lc=>
 ab .i64 a fun le=>
 ab .i64 (a.add 1) fun lf=>
 af (.tuple #[.agg #[.int .i64 lb,.int .i64 lc],.agg #[.int .i64 le,.int .i64 lf]]))) (
 aI (e == 11) (
 aI (e == 11) (
 aG (
 ab .i64 (d.add 1) fun i=>
 aG (
 ai (A1 i) fun jm=>
 kg jm fun jh=>
 bB jh fun dy dz=>
 aP .i64 dy fun l=>
 bB dz fun ea eb=>
 aP .i64 ea fun m=>
 fO eb <|
 aG (
 ab .i64 c fun ec=>
 ab .i64 (c.add 1) fun ed=>
 an b (.int .i64 l) <|
 an (b.add 1) (.int .i64 m) <|
 an a (.int .i64 ec) <|
 an (a.add 1) (.int .i64 ed) <|
 aG (
 ab .i64 b fun E=>
 ab .i64 (b.add 1) fun F=>
 aG (
 ab .i64 a fun ee=>
 ab .i64 (a.add 1) fun ef=>
 an b (.int .i64 E) <|
 an (b.add 1) (.int .i64 F) <|
 an a (.int .i64 ee) <|
 an (a.add 1) (.int .i64 ef) <|
 ab .i64 b fun lg=>
 ab .i64 (b.add 1) fun lh=>
 ab .i64 a fun li=>
 ab .i64 (a.add 1) fun lj=>
 af (.tuple #[.agg #[.int .i64 lg,.int .i64 lh],.agg #[.int .i64 li,.int .i64 lj]])) (
 an b (.int .i64 E) <|
 an (b.add 1) (.int .i64 F) <|
 ab .i64 a fun eg=>
 ab .i64 (a.add 1) fun eh=>
 an a (.int .i64 eg) <|
 an (a.add 1) (.int .i64 eh) <|
 ab .i64 b fun lk=>
 ab .i64 (b.add 1) fun ll=>
 ab .i64 a fun lm=>
 ab .i64 (a.add 1) fun ln=>
 af (.tuple #[.agg #[.int .i64 lk,.int .i64 ll],.agg #[.int .i64 lm,.int .i64 ln]]))) (
 ab .i64 a fun ei=>
 ab .i64 (a.add 1) fun ej=>
 ab .i64 b fun ek=>
 ab .i64 (b.add 1) fun el=>
 an b (.int .i64 ek) <|
 an (b.add 1) (.int .i64 el) <|
 an a (.int .i64 ei) <|
 an (a.add 1) (.int .i64 ej) <|
 ab .i64 b fun lo=>
 ab .i64 (b.add 1) fun lp=>
 ab .i64 a fun lq=>
 ab .i64 (a.add 1) fun lr=>
 af (.tuple #[.agg #[.int .i64 lo,.int .i64 lp],.agg #[.int .i64 lq,.int .i64 lr]]))) (
 an b (.int .i64 l) <|
 an (b.add 1) (.int .i64 m) <|
 ab .i64 c fun em=>
 ab .i64 (c.add 1) fun en=>
 an a (.int .i64 em) <|
 an (a.add 1) (.int .i64 en) <|
 aG (
 ab .i64 b fun G=>
 ab .i64 (b.add 1) fun H=>
 aG (
 ab .i64 a fun eo=>
 ab .i64 (a.add 1) fun ep=>
 an b (.int .i64 G) <|
 an (b.add 1) (.int .i64 H) <|
 an a (.int .i64 eo) <|
 an (a.add 1) (.int .i64 ep) <|
 ab .i64 b fun ls=>
 ab .i64 (b.add 1) fun lt=>
 ab .i64 a fun lu=>
 ab .i64 (a.add 1) fun lv=>
 af (.tuple #[.agg #[.int .i64 ls,.int .i64 lt],.agg #[.int .i64 lu,.int .i64 lv]])) (
 an b (.int .i64 G) <|
 an (b.add 1) (.int .i64 H) <|
 ab .i64 a fun eq=>
 ab .i64 (a.add 1) fun er=>
 an a (.int .i64 eq) <|
 an (a.add 1) (.int .i64 er) <|
 ab .i64 b fun lw=>
 ab .i64 (b.add 1) fun nx=>
 ab .i64 a fun ny=>
 ab .i64 (a.add 1) fun nz=>
 af (.tuple #[.agg #[.int .i64 lw,.int .i64 nx],.agg #[.int .i64 ny,.int .i64 nz]]))) (
 ab .i64 a fun es=>
 ab .i64 (a.add 1) fun et=>
 ab .i64 b fun eu=>
 ab .i64 (b.add 1) fun ev=>
 an b (.int .i64 eu) <|
 an (b.add 1) (.int .i64 ev) <|
 an a (.int .i64 es) <|
 an (a.add 1) (.int .i64 et) <|
 ab .i64 b fun oa=>
 ab .i64 (b.add 1) fun ob=>
 ab .i64 a fun oc=>
 ab .i64 (a.add 1) fun od=>
 af (.tuple #[.agg #[.int .i64 oa,.int .i64 ob],.agg #[.int .i64 oc,.int .i64 od]])))) (
 ab .i64 c fun cy=>
 ab .i64 (c.add 1) fun cz=>
 ai (A1 i) fun jn=>
 kg jn fun ji=>
 bB ji fun da db=>
 aP .i64 da fun dc=>
 bB db fun dd de=>
 aP .i64 dd fun df=>
 fO de <|
 an b (.int .i64 dc) <|
 an (b.add 1) (.int .i64 df) <|
 an a (.int .i64 cy) <|
 an (a.add 1) (.int .i64 cz) <|
 aG (
 ab .i64 b fun I=>
 ab .i64 (b.add 1) fun J=>
 aG (
 ab .i64 a fun dg=>
 ab .i64 (a.add 1) fun dh=>
 an b (.int .i64 I) <|
 an (b.add 1) (.int .i64 J) <|
 an a (.int .i64 dg) <|
 an (a.add 1) (.int .i64 dh) <|
 ab .i64 b fun oe=>
 ab .i64 (b.add 1) fun of=>
 ab .i64 a fun og=>
 ab .i64 (a.add 1) fun oh=>
 af (.tuple #[.agg #[.int .i64 oe,.int .i64 of],.agg #[.int .i64 og,.int .i64 oh]])) (
 an b (.int .i64 I) <|
 an (b.add 1) (.int .i64 J) <|
 ab .i64 a fun di=>
 ab .i64 (a.add 1) fun dj=>
 an a (.int .i64 di) <|
 an (a.add 1) (.int .i64 dj) <|
 ab .i64 b fun oi=>
 ab .i64 (b.add 1) fun oj=>
 ab .i64 a fun ok=>
 ab .i64 (a.add 1) fun ol=>
 af (.tuple #[.agg #[.int .i64 oi,.int .i64 oj],.agg #[.int .i64 ok,.int .i64 ol]]))) (
 ab .i64 a fun dk=>
 ab .i64 (a.add 1) fun dl=>
 ab .i64 b fun dm=>
 ab .i64 (b.add 1) fun dn=>
 an b (.int .i64 dm) <|
 an (b.add 1) (.int .i64 dn) <|
 an a (.int .i64 dk) <|
 an (a.add 1) (.int .i64 dl) <|
 ab .i64 b fun om=>
 ab .i64 (b.add 1) fun on=>
 ab .i64 a fun oo=>
 ab .i64 (a.add 1) fun op=>
 af (.tuple #[.agg #[.int .i64 om,.int .i64 on],.agg #[.int .i64 oo,.int .i64 op]])))) (
 ab .i64 c fun sd=>
 ab .i64 (c.add 1) fun se=>
 ab .i64 (d.add 1) fun ag=>
 ai (A1 ag) fun ss=>
 kg ss fun sn=>
 bB sn fun sf sg=>
 aP .i64 sf fun sh=>
 bB sg fun si sj=>
 aP .i64 si fun sk=>
 fO sj <|
 an b (.int .i64 sh) <|
 an (b.add 1) (.int .i64 sk) <|
 an a (.int .i64 sd) <|
 an (a.add 1) (.int .i64 se) <|
 aG (
 ab .i64 b fun K=>
 ab .i64 (b.add 1) fun L=>
 aG (
 ab .i64 a fun dp=>
 ab .i64 (a.add 1) fun dq=>
 an b (.int .i64 K) <|
 an (b.add 1) (.int .i64 L) <|
 an a (.int .i64 dp) <|
 an (a.add 1) (.int .i64 dq) <|
 ab .i64 b fun oq=>
 ab .i64 (b.add 1) fun os=>
 ab .i64 a fun ot=>
 ab .i64 (a.add 1) fun ou=>
 af (.tuple #[.agg #[.int .i64 oq,.int .i64 os],.agg #[.int .i64 ot,.int .i64 ou]])) (
 an b (.int .i64 K) <|
 an (b.add 1) (.int .i64 L) <|
 ab .i64 a fun dr=>
 ab .i64 (a.add 1) fun ds=>
 an a (.int .i64 dr) <|
 an (a.add 1) (.int .i64 ds) <|
 ab .i64 b fun ov=>
 ab .i64 (b.add 1) fun ow=>
 ab .i64 a fun ox=>
 ab .i64 (a.add 1) fun mx=>
 af (.tuple #[.agg #[.int .i64 ov,.int .i64 ow],.agg #[.int .i64 ox,.int .i64 mx]]))) (
 ab .i64 a fun dt=>
 ab .i64 (a.add 1) fun du=>
 ab .i64 b fun dv=>
 ab .i64 (b.add 1) fun dw=>
 an b (.int .i64 dv) <|
 an (b.add 1) (.int .i64 dw) <|
 an a (.int .i64 dt) <|
 an (a.add 1) (.int .i64 du) <|
 ab .i64 b fun my=>
 ab .i64 (b.add 1) fun mz=>
 ab .i64 a fun na=>
 ab .i64 (a.add 1) fun nb=>
 af (.tuple #[.agg #[.int .i64 my,.int .i64 mz],.agg #[.int .i64 na,.int .i64 nb]])))) (
 Kzx d b a e)) (
 aI (e == 12) (
 aI (e == 12) (
 aG (
 ab .i64 (d.add 1) fun f=>
 aG (
 ai (A1 f) fun jo=>
 kg jo fun jj=>
 bB jj fun dx co=>
 aP .i64 dx fun N=>
 bB co fun cp cq=>
 aP .i64 cp fun O=>
 fO cq <|
 aG (
 ab .i64 c fun cr=>
 ab .i64 (c.add 1) fun cs=>
 an b (.int .i64 N) <|
 an (b.add 1) (.int .i64 O) <|
 an a (.int .i64 cr) <|
 an (a.add 1) (.int .i64 cs) <|
 aG (
 ab .i64 b fun P=>
 ab .i64 (b.add 1) fun Q=>
 aG (
 ab .i64 a fun ct=>
 ab .i64 (a.add 1) fun cu=>
 an b (.int .i64 P) <|
 an (b.add 1) (.int .i64 Q) <|
 an a (.int .i64 ct) <|
 an (a.add 1) (.int .i64 cu) <|
 ab .i64 b fun nc=>
 ab .i64 (b.add 1) fun nd=>
 ab .i64 a fun ne=>
 ab .i64 (a.add 1) fun nf=>
 af (.tuple #[.agg #[.int .i64 nc,.int .i64 nd],.agg #[.int .i64 ne,.int .i64 nf]])) (
 an b (.int .i64 P) <|
 an (b.add 1) (.int .i64 Q) <|
 ab .i64 a fun cv=>
 ab .i64 (a.add 1) fun cw=>
 an a (.int .i64 cv) <|
 an (a.add 1) (.int .i64 cw) <|
 ab .i64 b fun ng=>
 ab .i64 (b.add 1) fun nh=>
 ab .i64 a fun ni=>
 ab .i64 (a.add 1) fun nj=>
 af (.tuple #[.agg #[.int .i64 ng,.int .i64 nh],.agg #[.int .i64 ni,.int .i64 nj]]))) (
 ab .i64 a fun cx=>
 ab .i64 (a.add 1) fun gg=>
 ab .i64 b fun gh=>
 ab .i64 (b.add 1) fun gi=>
 an b (.int .i64 gh) <|
 an (b.add 1) (.int .i64 gi) <|
 an a (.int .i64 cx) <|
 an (a.add 1) (.int .i64 gg) <|
 ab .i64 b fun nk=>
 ab .i64 (b.add 1) fun nl=>
 ab .i64 a fun nm=>
 ab .i64 (a.add 1) fun nn=>
 af (.tuple #[.agg #[.int .i64 nk,.int .i64 nl],.agg #[.int .i64 nm,.int .i64 nn]]))) (
 an b (.int .i64 N) <|
 an (b.add 1) (.int .i64 O) <|
 ab .i64 c fun gj=>
 ab .i64 (c.add 1) fun gk=>
 an a (.int .i64 gj) <|
 an (a.add 1) (.int .i64 gk) <|
 aG (
 ab .i64 b fun R=>
 ab .i64 (b.add 1) fun S=>
 aG (
 ab .i64 a fun gl=>
 ab .i64 (a.add 1) fun gm=>
 an b (.int .i64 R) <|
 an (b.add 1) (.int .i64 S) <|
 an a (.int .i64 gl) <|
 an (a.add 1) (.int .i64 gm) <|
 ab .i64 b fun no=>
 ab .i64 (b.add 1) fun np=>
 ab .i64 a fun nq=>
 ab .i64 (a.add 1) fun nr=>
 af (.tuple #[.agg #[.int .i64 no,.int .i64 np],.agg #[.int .i64 nq,.int .i64 nr]])) (
 an b (.int .i64 R) <|
 an (b.add 1) (.int .i64 S) <|
 ab .i64 a fun gn=>
 ab .i64 (a.add 1) fun go=>
 an a (.int .i64 gn) <|
 an (a.add 1) (.int .i64 go) <|
 ab .i64 b fun ns=>
 ab .i64 (b.add 1) fun nt=>
 ab .i64 a fun nu=>
 ab .i64 (a.add 1) fun nv=>
 af (.tuple #[.agg #[.int .i64 ns,.int .i64 nt],.agg #[.int .i64 nu,.int .i64 nv]]))) (
 ab .i64 a fun gp=>
 ab .i64 (a.add 1) fun gq=>
 ab .i64 b fun gr=>
 ab .i64 (b.add 1) fun gs=>
 an b (.int .i64 gr) <|
 an (b.add 1) (.int .i64 gs) <|
 an a (.int .i64 gp) <|
 an (a.add 1) (.int .i64 gq) <|
 ab .i64 b fun nw=>
 ab .i64 (b.add 1) fun py=>
 ab .i64 a fun pz=>
 ab .i64 (a.add 1) fun qa=>
 af (.tuple #[.agg #[.int .i64 nw,.int .i64 py],.agg #[.int .i64 pz,.int .i64 qa]])))) (
 ab .i64 c fun gt=>
 ab .i64 (c.add 1) fun gu=>
 ai (A1 f) fun jp=>
 kg jp fun iy=>
 bB iy fun gv gw=>
 aP .i64 gv fun gx=>
 bB gw fun gy gz=>
 aP .i64 gy fun ha=>
 fO gz <|
 an b (.int .i64 gx) <|
 an (b.add 1) (.int .i64 ha) <|
 an a (.int .i64 gt) <|
 an (a.add 1) (.int .i64 gu) <|
 aG (
 ab .i64 b fun T=>
 ab .i64 (b.add 1) fun U=>
 aG (
 ab .i64 a fun hb=>
 ab .i64 (a.add 1) fun hc=>
 an b (.int .i64 T) <|
 an (b.add 1) (.int .i64 U) <|
 an a (.int .i64 hb) <|
 an (a.add 1) (.int .i64 hc) <|
 ab .i64 b fun qb=>
 ab .i64 (b.add 1) fun qc=>
 ab .i64 a fun qd=>
 ab .i64 (a.add 1) fun qe=>
 af (.tuple #[.agg #[.int .i64 qb,.int .i64 qc],.agg #[.int .i64 qd,.int .i64 qe]])) (
 an b (.int .i64 T) <|
 an (b.add 1) (.int .i64 U) <|
 ab .i64 a fun fg=>
 ab .i64 (a.add 1) fun fh=>
 an a (.int .i64 fg) <|
 an (a.add 1) (.int .i64 fh) <|
 ab .i64 b fun qf=>
 ab .i64 (b.add 1) fun qg=>
 ab .i64 a fun qh=>
 ab .i64 (a.add 1) fun qi=>
 af (.tuple #[.agg #[.int .i64 qf,.int .i64 qg],.agg #[.int .i64 qh,.int .i64 qi]]))) (
 ab .i64 a fun fi=>
 ab .i64 (a.add 1) fun fj=>
 ab .i64 b fun fk=>
 ab .i64 (b.add 1) fun fl=>
 an b (.int .i64 fk) <|
 an (b.add 1) (.int .i64 fl) <|
 an a (.int .i64 fi) <|
 an (a.add 1) (.int .i64 fj) <|
 ab .i64 b fun qj=>
 ab .i64 (b.add 1) fun qk=>
 ab .i64 a fun ql=>
 ab .i64 (a.add 1) fun qm=>
 af (.tuple #[.agg #[.int .i64 qj,.int .i64 qk],.agg #[.int .i64 ql,.int .i64 qm]])))) (
 ab .i64 c fun fm=>
 ab .i64 (c.add 1) fun fn=>
 ab .i64 (d.add 1) fun jq=>
 ai (A1 jq) fun jr=>
 kg jr fun iz=>
 bB iz fun fo fp=>
 aP .i64 fo fun fq=>
 bB fp fun fr fs=>
 aP .i64 fr fun ft=>
 fO fs <|
 an b (.int .i64 fq) <|
 an (b.add 1) (.int .i64 ft) <|
 an a (.int .i64 fm) <|
 an (a.add 1) (.int .i64 fn) <|
 aG (
 ab .i64 b fun V=>
 ab .i64 (b.add 1) fun W=>
 aG (
 ab .i64 a fun fu=>
 ab .i64 (a.add 1) fun fv=>
 an b (.int .i64 V) <|
 an (b.add 1) (.int .i64 W) <|
 an a (.int .i64 fu) <|
 an (a.add 1) (.int .i64 fv) <|
 ab .i64 b fun qn=>
 ab .i64 (b.add 1) fun qo=>
 ab .i64 a fun qp=>
 ab .i64 (a.add 1) fun qq=>
 af (.tuple #[.agg #[.int .i64 qn,.int .i64 qo],.agg #[.int .i64 qp,.int .i64 qq]])) (
 an b (.int .i64 V) <|
 an (b.add 1) (.int .i64 W) <|
 ab .i64 a fun fw=>
 ab .i64 (a.add 1) fun fx=>
 an a (.int .i64 fw) <|
 an (a.add 1) (.int .i64 fx) <|
 ab .i64 b fun qr=>
 ab .i64 (b.add 1) fun qs=>
 ab .i64 a fun qt=>
 ab .i64 (a.add 1) fun qu=>
 af (.tuple #[.agg #[.int .i64 qr,.int .i64 qs],.agg #[.int .i64 qt,.int .i64 qu]]))) (
 ab .i64 a fun fy=>
 ab .i64 (a.add 1) fun fz=>
 ab .i64 b fun ga=>
 ab .i64 (b.add 1) fun gb=>
 an b (.int .i64 ga) <|
 an (b.add 1) (.int .i64 gb) <|
 an a (.int .i64 fy) <|
 an (a.add 1) (.int .i64 fz) <|
 ab .i64 b fun qv=>
 ab .i64 (b.add 1) fun qw=>
 ab .i64 a fun qx=>
 ab .i64 (a.add 1) fun oy=>
 af (.tuple #[.agg #[.int .i64 qv,.int .i64 qw],.agg #[.int .i64 qx,.int .i64 oy]])))) (
 Kzx d b a e)) (
 aI (e == 13) (
 aG (
 ab .i64 (d.add 1) fun g=>
 aG (
 ai (A1 g) fun js=>
 kg js fun ja=>
 bB ja fun gc gd=>
 aP .i64 gc fun X=>
 bB gd fun ge gf=>
 aP .i64 ge fun Y=>
 fO gf <|
 aG (
 ab .i64 c fun ew=>
 ab .i64 (c.add 1) fun ex=>
 an b (.int .i64 X) <|
 an (b.add 1) (.int .i64 Y) <|
 an a (.int .i64 ew) <|
 an (a.add 1) (.int .i64 ex) <|
 aG (
 ab .i64 b fun Z=>
 ab .i64 (b.add 1) fun x=>
 aG (
 ab .i64 a fun ey=>
 ab .i64 (a.add 1) fun ez=>
 an b (.int .i64 Z) <|
 an (b.add 1) (.int .i64 x) <|
 an a (.int .i64 ey) <|
 an (a.add 1) (.int .i64 ez) <|
 ab .i64 b fun oz=>
 ab .i64 (b.add 1) fun pa=>
 ab .i64 a fun pb=>
 ab .i64 (a.add 1) fun pc=>
 af (.tuple #[.agg #[.int .i64 oz,.int .i64 pa],.agg #[.int .i64 pb,.int .i64 pc]])) (
 an b (.int .i64 Z) <|
 an (b.add 1) (.int .i64 x) <|
 ab .i64 a fun fa=>
 ab .i64 (a.add 1) fun fb=>
 an a (.int .i64 fa) <|
 an (a.add 1) (.int .i64 fb) <|
 ab .i64 b fun pd=>
 ab .i64 (b.add 1) fun pe=>
 ab .i64 a fun pf=>
 ab .i64 (a.add 1) fun pg=>
 af (.tuple #[.agg #[.int .i64 pd,.int .i64 pe],.agg #[.int .i64 pf,.int .i64 pg]]))) (
 ab .i64 a fun fc=>
 ab .i64 (a.add 1) fun fd=>
 ab .i64 b fun fe=>
 ab .i64 (b.add 1) fun ff=>
 an b (.int .i64 fe) <|
 an (b.add 1) (.int .i64 ff) <|
 an a (.int .i64 fc) <|
 an (a.add 1) (.int .i64 fd) <|
 ab .i64 b fun ph=>
 ab .i64 (b.add 1) fun pi=>
 ab .i64 a fun pj=>
 ab .i64 (a.add 1) fun pk=>
 af (.tuple #[.agg #[.int .i64 ph,.int .i64 pi],.agg #[.int .i64 pj,.int .i64 pk]]))) (
 an b (.int .i64 X) <|
 an (b.add 1) (.int .i64 Y) <|
 ab .i64 c fun hv=>
 ab .i64 (c.add 1) fun hw=>
 an a (.int .i64 hv) <|
 an (a.add 1) (.int .i64 hw) <|
 aG (
 ab .i64 b fun y=>
 ab .i64 (b.add 1) fun z=>
 aG (
 ab .i64 a fun hx=>
 ab .i64 (a.add 1) fun hy=>
 an b (.int .i64 y) <|
 an (b.add 1) (.int .i64 z) <|
 an a (.int .i64 hx) <|
 an (a.add 1) (.int .i64 hy) <|
 ab .i64 b fun pl=>
 ab .i64 (b.add 1) fun pm=>
 ab .i64 a fun pn=>
 ab .i64 (a.add 1) fun po=>
 af (.tuple #[.agg #[.int .i64 pl,.int .i64 pm],.agg #[.int .i64 pn,.int .i64 po]])) (
 an b (.int .i64 y) <|
 an (b.add 1) (.int .i64 z) <|
 ab .i64 a fun hz=>
 ab .i64 (a.add 1) fun ia=>
 an a (.int .i64 hz) <|
 an (a.add 1) (.int .i64 ia) <|
 ab .i64 b fun pp=>
 ab .i64 (b.add 1) fun pq=>
 ab .i64 a fun pr=>
 ab .i64 (a.add 1) fun ps=>
 af (.tuple #[.agg #[.int .i64 pp,.int .i64 pq],.agg #[.int .i64 pr,.int .i64 ps]]))) (
 ab .i64 a fun ib=>
 ab .i64 (a.add 1) fun ic=>
 ab .i64 b fun id=>
 ab .i64 (b.add 1) fun ie=>
 an b (.int .i64 id) <|
 an (b.add 1) (.int .i64 ie) <|
 an a (.int .i64 ib) <|
 an (a.add 1) (.int .i64 ic) <|
 ab .i64 b fun pt=>
 ab .i64 (b.add 1) fun pu=>
 ab .i64 a fun pv=>
 ab .i64 (a.add 1) fun pw=>
 af (.tuple #[.agg #[.int .i64 pt,.int .i64 pu],.agg #[.int .i64 pv,.int .i64 pw]])))) (
 ab .i64 c fun ig=>
 ab .i64 (c.add 1) fun ih=>
 ai (A1 g) fun jt=>
 kg jt fun jb=>
 bB jb fun ii ij=>
 aP .i64 ii fun ik=>
 bB ij fun il im=>
 aP .i64 il fun io=>
 fO im <|
 an b (.int .i64 ik) <|
 an (b.add 1) (.int .i64 io) <|
 an a (.int .i64 ig) <|
 an (a.add 1) (.int .i64 ih) <|
 aG (
 ab .i64 b fun A=>
 ab .i64 (b.add 1) fun B=>
 aG (
 ab .i64 a fun ip=>
 ab .i64 (a.add 1) fun iq=>
 an b (.int .i64 A) <|
 an (b.add 1) (.int .i64 B) <|
 an a (.int .i64 ip) <|
 an (a.add 1) (.int .i64 iq) <|
 ab .i64 b fun px=>
 ab .i64 (b.add 1) fun qy=>
 ab .i64 a fun qz=>
 ab .i64 (a.add 1) fun ra=>
 af (.tuple #[.agg #[.int .i64 px,.int .i64 qy],.agg #[.int .i64 qz,.int .i64 ra]])) (
 an b (.int .i64 A) <|
 an (b.add 1) (.int .i64 B) <|
 ab .i64 a fun ir=>
 ab .i64 (a.add 1) fun it=>
 an a (.int .i64 ir) <|
 an (a.add 1) (.int .i64 it) <|
 ab .i64 b fun rb=>
 ab .i64 (b.add 1) fun rc=>
 ab .i64 a fun rd=>
 ab .i64 (a.add 1) fun re=>
 af (.tuple #[.agg #[.int .i64 rb,.int .i64 rc],.agg #[.int .i64 rd,.int .i64 re]]))) (
 ab .i64 a fun iu=>
 ab .i64 (a.add 1) fun iv=>
 ab .i64 b fun hd=>
 ab .i64 (b.add 1) fun he=>
 an b (.int .i64 hd) <|
 an (b.add 1) (.int .i64 he) <|
 an a (.int .i64 iu) <|
 an (a.add 1) (.int .i64 iv) <|
 ab .i64 b fun rf=>
 ab .i64 (b.add 1) fun rg=>
 ab .i64 a fun rh=>
 ab .i64 (a.add 1) fun ri=>
 af (.tuple #[.agg #[.int .i64 rf,.int .i64 rg],.agg #[.int .i64 rh,.int .i64 ri]])))) (
 ab .i64 c fun hf=>
 ab .i64 (c.add 1) fun hg=>
 ab .i64 (d.add 1) fun ju=>
 ai (A1 ju) fun jv=>
 kg jv fun jc=>
 bB jc fun hh hi=>
 aP .i64 hh fun hj=>
 bB hi fun hk hl=>
 aP .i64 hk fun hm=>
 fO hl <|
 an b (.int .i64 hj) <|
 an (b.add 1) (.int .i64 hm) <|
 an a (.int .i64 hf) <|
 an (a.add 1) (.int .i64 hg) <|
 aG (
 ab .i64 b fun C=>
 ab .i64 (b.add 1) fun D=>
 aG (
 ab .i64 a fun hn=>
 ab .i64 (a.add 1) fun ho=>
 an b (.int .i64 C) <|
 an (b.add 1) (.int .i64 D) <|
 an a (.int .i64 hn) <|
 an (a.add 1) (.int .i64 ho) <|
 ab .i64 b fun rj=>
 ab .i64 (b.add 1) fun rk=>
 ab .i64 a fun rl=>
 ab .i64 (a.add 1) fun rm=>
 af (.tuple #[.agg #[.int .i64 rj,.int .i64 rk],.agg #[.int .i64 rl,.int .i64 rm]])) (
 an b (.int .i64 C) <|
 an (b.add 1) (.int .i64 D) <|
 ab .i64 a fun hp=>
 ab .i64 (a.add 1) fun hq=>
 an a (.int .i64 hp) <|
 an (a.add 1) (.int .i64 hq) <|
 ab .i64 b fun rn=>
 ab .i64 (b.add 1) fun ro=>
 ab .i64 a fun rp=>
 ab .i64 (a.add 1) fun rq=>
 af (.tuple #[.agg #[.int .i64 rn,.int .i64 ro],.agg #[.int .i64 rp,.int .i64 rq]]))) (
 ab .i64 a fun hr=>
 ab .i64 (a.add 1) fun hs=>
 ab .i64 b fun ht=>
 ab .i64 (b.add 1) fun hu=>
 an b (.int .i64 ht) <|
 an (b.add 1) (.int .i64 hu) <|
 an a (.int .i64 hr) <|
 an (a.add 1) (.int .i64 hs) <|
 ab .i64 b fun rr=>
 ab .i64 (b.add 1) fun rs=>
 ab .i64 a fun rt=>
 ab .i64 (a.add 1) fun ru=>
 af (.tuple #[.agg #[.int .i64 rr,.int .i64 rs],.agg #[.int .i64 rt,.int .i64 ru]])))) (
 Kzx d b a e)))))
def d6k (d b a:Addr)(c:Int):M Value:=
 aI (c == 14) (
 aI (c == 14) (
 ab .i64 (d.add 2) fun cn=>
 ai (A1 cn) fun cm=>
 kg cm fun cl=>
 bB cl fun cf cg=>
 aP .i64 cf fun ch=>
 bB cg fun ci cj=>
 aP .i64 ci fun ck=>
 fO cj <|
 an b (.int .i64 ch) <|
 an (b.add 1) (.int .i64 ck) <|
 aG (
 ab .i64 b fun e=>
 ab .i64 (b.add 1) fun f=>
 aG (
 ab .i64 a fun A=>
 ab .i64 (a.add 1) fun B=>
 an b (.int .i64 e) <|
 an (b.add 1) (.int .i64 f) <|
 an a (.int .i64 A) <|
 an (a.add 1) (.int .i64 B) <|
 ab .i64 b fun bi=>
 ab .i64 (b.add 1) fun bj=>
 ab .i64 a fun bk=>
 ab .i64 (a.add 1) fun ad=>
 af (.tuple #[.agg #[.int .i64 bi,.int .i64 bj],.agg #[.int .i64 bk,.int .i64 ad]])) (
 an b (.int .i64 e) <|
 an (b.add 1) (.int .i64 f) <|
 ab .i64 a fun C=>
 ab .i64 (a.add 1) fun D=>
 an a (.int .i64 C) <|
 an (a.add 1) (.int .i64 D) <|
 ab .i64 b fun ae=>
 ab .i64 (b.add 1) fun ag=>
 ab .i64 a fun ah=>
 ab .i64 (a.add 1) fun aj=>
 af (.tuple #[.agg #[.int .i64 ae,.int .i64 ag],.agg #[.int .i64 ah,.int .i64 aj]]))) (
 ab .i64 a fun m=>
 ab .i64 (a.add 1) fun n=>
 ab .i64 b fun o=>
 ab .i64 (b.add 1) fun p=>
 an b (.int .i64 o) <|
 an (b.add 1) (.int .i64 p) <|
 an a (.int .i64 m) <|
 an (a.add 1) (.int .i64 n) <|
 ab .i64 b fun ak=>
 ab .i64 (b.add 1) fun al=>
 ab .i64 a fun am=>
 ab .i64 (a.add 1) fun ao=>
 af (.tuple #[.agg #[.int .i64 ak,.int .i64 al],.agg #[.int .i64 am,.int .i64 ao]]))) (
 aG (
 ab .i64 b fun g=>
 ab .i64 (b.add 1) fun h=>
 aG (
 ab .i64 a fun E=>
 ab .i64 (a.add 1) fun q=>
 an b (.int .i64 g) <|
 an (b.add 1) (.int .i64 h) <|
 an a (.int .i64 E) <|
 an (a.add 1) (.int .i64 q) <|
 ab .i64 b fun ap=>
 ab .i64 (b.add 1) fun aq=>
 ab .i64 a fun ar=>
 ab .i64 (a.add 1) fun au=>
 af (.tuple #[.agg #[.int .i64 ap,.int .i64 aq],.agg #[.int .i64 ar,.int .i64 au]])) (
 an b (.int .i64 g) <|
 an (b.add 1) (.int .i64 h) <|
 ab .i64 a fun r=>
 ab .i64 (a.add 1) fun s=>
 an a (.int .i64 r) <|
 an (a.add 1) (.int .i64 s) <|
 ab .i64 b fun av=>
 ab .i64 (b.add 1) fun aw=>
 ab .i64 a fun ax=>
 ab .i64 (a.add 1) fun ay=>
 af (.tuple #[.agg #[.int .i64 av,.int .i64 aw],.agg #[.int .i64 ax,.int .i64 ay]]))) (
 ab .i64 a fun t=>
 ab .i64 (a.add 1) fun u=>
 ab .i64 b fun v=>
 ab .i64 (b.add 1) fun w=>
 an b (.int .i64 v) <|
 an (b.add 1) (.int .i64 w) <|
 an a (.int .i64 t) <|
 an (a.add 1) (.int .i64 u) <|
 ab .i64 b fun az=>
 ab .i64 (b.add 1) fun ba=>
 ab .i64 a fun bb=>
 ab .i64 (a.add 1) fun bc=>
 af (.tuple #[.agg #[.int .i64 az,.int .i64 ba],.agg #[.int .i64 bb,.int .i64 bc]])))) (
 aI (c == 15) (
 ab .i64 (d.add 2) fun aa=>
 ai (A1 aa) fun ac=>
 kg ac fun Z=>
 bB Z fun x y=>
 aP .i64 x fun z=>
 bB y fun F G=>
 aP .i64 F fun H=>
 fO G <|
 an b (.int .i64 z) <|
 an (b.add 1) (.int .i64 H) <|
 aG (
 ab .i64 b fun i=>
 ab .i64 (b.add 1) fun j=>
 aG (
 ab .i64 a fun I=>
 ab .i64 (a.add 1) fun J=>
 an b (.int .i64 i) <|
 an (b.add 1) (.int .i64 j) <|
 an a (.int .i64 I) <|
 an (a.add 1) (.int .i64 J) <|
 ab .i64 b fun bd=>
 ab .i64 (b.add 1) fun be=>
 ab .i64 a fun bf=>
 ab .i64 (a.add 1) fun bg=>
 af (.tuple #[.agg #[.int .i64 bd,.int .i64 be],.agg #[.int .i64 bf,.int .i64 bg]])) (
 an b (.int .i64 i) <|
 an (b.add 1) (.int .i64 j) <|
 ab .i64 a fun K=>
 ab .i64 (a.add 1) fun L=>
 an a (.int .i64 K) <|
 an (a.add 1) (.int .i64 L) <|
 ab .i64 b fun bh=>
 ab .i64 (b.add 1) fun bl=>
 ab .i64 a fun bm=>
 ab .i64 (a.add 1) fun bn=>
 af (.tuple #[.agg #[.int .i64 bh,.int .i64 bl],.agg #[.int .i64 bm,.int .i64 bn]]))) (
 ab .i64 a fun N=>
 ab .i64 (a.add 1) fun O=>
 ab .i64 b fun P=>
 ab .i64 (b.add 1) fun Q=>
 an b (.int .i64 P) <|
 an (b.add 1) (.int .i64 Q) <|
 an a (.int .i64 N) <|
 an (a.add 1) (.int .i64 O) <|
 ab .i64 b fun bo=>
 ab .i64 (b.add 1) fun bp=>
 ab .i64 a fun bq=>
 ab .i64 (a.add 1) fun br=>
 af (.tuple #[.agg #[.int .i64 bo,.int .i64 bp],.agg #[.int .i64 bq,.int .i64 br]]))) (
 aG (
 ab .i64 b fun k=>
 ab .i64 (b.add 1) fun l=>
 aG (
 ab .i64 a fun R=>
 ab .i64 (a.add 1) fun S=>
 an b (.int .i64 k) <|
 an (b.add 1) (.int .i64 l) <|
 an a (.int .i64 R) <|
 an (a.add 1) (.int .i64 S) <|
 ab .i64 b fun bs=>
 ab .i64 (b.add 1) fun bt=>
 ab .i64 a fun bu=>
 ab .i64 (a.add 1) fun bv=>
 af (.tuple #[.agg #[.int .i64 bs,.int .i64 bt],.agg #[.int .i64 bu,.int .i64 bv]])) (
 an b (.int .i64 k) <|
 an (b.add 1) (.int .i64 l) <|
 ab .i64 a fun T=>
 ab .i64 (a.add 1) fun U=>
 an a (.int .i64 T) <|
 an (a.add 1) (.int .i64 U) <|
 ab .i64 b fun bw=>
 ab .i64 (b.add 1) fun bx=>
 ab .i64 a fun bz=>
 ab .i64 (a.add 1) fun ca=>
 af (.tuple #[.agg #[.int .i64 bw,.int .i64 bx],.agg #[.int .i64 bz,.int .i64 ca]]))) (
 ab .i64 a fun V=>
 ab .i64 (a.add 1) fun W=>
 ab .i64 b fun X=>
 ab .i64 (b.add 1) fun Y=>
 an b (.int .i64 X) <|
 an (b.add 1) (.int .i64 Y) <|
 an a (.int .i64 V) <|
 an (a.add 1) (.int .i64 W) <|
 ab .i64 b fun cb=>
 ab .i64 (b.add 1) fun cc=>
 ab .i64 a fun cd=>
 ab .i64 (a.add 1) fun ce=>
 af (.tuple #[.agg #[.int .i64 cb,.int .i64 cc],.agg #[.int .i64 cd,.int .i64 ce]]))))
theorem e7b (rR rS rT rU k1){h Q}:d4S rR rS rT rU k1 h Q→b7K rR rS rT rU k1 h Q:=Nf.bh Tryz.call297 Tryz.func297 rfl mixed (cuts:=[(14,[2,4,5,6,7,9]),(22,[2,4,5,6,9])]) (dm:=[(15,[]),(21,[]),(25,[])]) (by kernel_rfl)
theorem e7c (r2 a4 b5 cg t9){h Q}:d5T r2 a4 b5 cg t9 h Q→Kzn r2 a4 b5 cg t9 h Q:=Cut.bh Tryz.func297 mixed (cuts:=[(14,[2,4,5,6,7,9]),(22,[2,4,5,6,9])]) (dm:=[(15,[]),(21,[]),(25,[])]) (by kernel_rfl)
theorem e7d (r2 a4 b5 t9){h Q}:d6k r2 a4 b5 t9 h Q→Kzx r2 a4 b5 t9 h Q:=Cut.bh Tryz.func297 mixed (cuts:=[(14,[2,4,5,6,7,9]),(22,[2,4,5,6,9])]) (dm:=[(15,[]),(21,[]),(25,[])]) (by kernel_rfl)
def d6r (c d a:Int):M Value:=
 aJ #[.int .i64 c,.int .i64 d] 388 fun b=>
 ab .i64 b fun g=>
 ai (aI (decide (a≥g)) (ab .i64 (b.add 1) fun f=>
 af (decide (a≤f))) (af false)) fun e=>
 af (.bool e)
theorem e7e (LC LD n1){h Q}:d6r LC LD n1 h Q→a7W LC LD n1 h Q:=Nf.bh Tryz.call298 Tryz.func298 rfl mixed (cuts:=[]) (dm:=[]) (by kernel_rfl)
def d6s (b:Sl)(c:Int):M Value:=
 ai (a7X b c) fun a=>
 aP .i64 a fun d=>
 af (.bool (decide (d≥(0:Int))))
theorem e7f (s0 v1){h Q}:d6s s0 v1 h Q→b7L s0 v1 h Q:=Nf.bh Tryz.call299 Tryz.func299 rfl mixed (cuts:=[]) (dm:=[]) (by kernel_rfl)
def d6t:M Value:=
 aJ #[.string (ByteArray.mk #[]),.int .i64 (-1:Int),.string (ByteArray.mk #[99,111,109,112,117,116,101]),.int .i64 1,.string (ByteArray.mk #[97,99,99,101,115,115]),.int .i64 1,.string (ByteArray.mk #[101,110,116,101,114]),.int .i64 0,.string (ByteArray.mk #[101,120,105,116]),.int .i64 0,.string (ByteArray.mk #[108,111,99,107]),.int .i64 1,.string (ByteArray.mk #[117,110,108,111,99,107]),.int .i64 1,.string (ByteArray.mk #[112,117,115,104]),.int .i64 1,.string (ByteArray.mk #[112,111,112]),.int .i64 1,.string (ByteArray.mk #[115,101,110,100]),.int .i64 2,.string (ByteArray.mk #[114,101,99,118]),.int .i64 1,.string (ByteArray.mk #[115,101,116]),.int .i64 2,.string (ByteArray.mk #[99,108,101,97,114]),.int .i64 2,.string (ByteArray.mk #[116,101,115,116]),.int .i64 2,.string (ByteArray.mk #[103,105,118,101]),.int .i64 1,.string (ByteArray.mk #[116,97,107,101]),.int .i64 1] 408 fun a=>
 af (.slice (some a) (16) (16))
theorem e7g {h Q}:d6t h Q→d3v h Q:=Nf.bh Tryz.call316 Tryz.func316 rfl mixed (cuts:=[]) (dm:=[]) (by kernel_rfl)
def d6u (d:Int):M Value:=
 aJ #[.int .i64 0,.int .i64 0] 388 fun a=>
 an a (.int .i64 0) <|
 an (a.add 1) (.int .i64 (IntKind.i64.wrap (d-(1:Int)))) <|
 ab .i64 a fun b=>
 ab .i64 (a.add 1) fun c=>
 af (.agg #[.int .i64 b,.int .i64 c])
theorem e7h (n0){h Q}:d6u n0 h Q→A1 n0 h Q:=Nf.bh Tryz.call334 Tryz.func334 rfl mixed (cuts:=[]) (dm:=[]) (by kernel_rfl)
def Kzy (a:Sl)(e b d:Int):M Value:=Cut Tryz.prog 286 (aQ Tryz.f286 2) (bf [(0,.slice a.p a.n a.c),(1,.int .i64 e),(7,.int .i64 b),(8,.int .i64 d)] 19 0)
def Bzf (a:Sl)(b:Int):M Value:=
 Kzy a b (a.n:Int) 0
def Bz0 (b:Sl)(d c a:Int):M Value:=
 aI (decide (a<c)) (
 bd b a 1 fun f=>
 ab .i64 f fun e=>
 aI (d == e) (
 af (.int .i64 a)) (
 Kzy b d c (IntKind.i64.wrap (a+(1:Int))))) (
 af (.int .i64 (-1:Int)))
theorem Szf (s0 v1){h Q}:Bzf s0 v1 h Q→a7X s0 v1 h Q:=Nf.bh Tryz.call286 Tryz.func286 rfl mixed (cuts:=[(2,[0,1,7,8])]) (dm:=[]) (by kernel_rfl)
theorem Sz0 (s0 v1 t7 t8){h Q}:Bz0 s0 v1 t7 t8 h Q→Kzy s0 v1 t7 t8 h Q:=Cut.bh Tryz.func286 mixed (cuts:=[(2,[0,1,7,8])]) (dm:=[]) (by kernel_rfl)
def a8O (b:Addr)(a:Sl)(d e:Int):M Value:=Cut Tryz.prog 27 (aQ Tryz.f27 2) (bf [(1,.pointer (some b)),(6,.slice a.p a.n a.c),(7,.int .i64 d),(8,.int .i64 e)] 45 0)
def d6v (i j k l:Int)(a:Sl)(m:Int)(b d e f:Sl):M Value:=
 aJ #[.int .i64 i,.int .i64 j,.int .i64 k,.int .i64 l,.slice a.p a.n a.c,.int .i64 m,.slice b.p b.n b.c,.slice d.p d.n d.c,.slice e.p e.n e.c,.slice f.p f.n f.c] 27 fun g=>
 aw (g.add 8) fun h=>
 a8O g h (h.n:Int) 0
def Bzg (d:Addr)(g:Sl)(h f:Int):M Value:=
 aI (decide (f<h)) (
 bd g f 7 fun b=>
 ab .i64 b fun y=>
 ab .i64 (b.add 1) fun z=>
 ab .i64 (b.add 2) fun j=>
 ab .i64 (b.add 3) fun q=>
 ab .i64 (b.add 4) fun r=>
 ab .i64 (b.add 5) fun s=>
 aw (b.add 6) fun e=>
 aJ #[.int .i64 0,.int .i64 0,.int .i64 0,.int .i64 0,.int .i64 0,.int .i64 0,.slice none (0) (0)] 59 fun a=>
 an a (.int .i64 y) <|
 an (a.add 1) (.int .i64 z) <|
 an (a.add 2) (.int .i64 j) <|
 an (a.add 3) (.int .i64 q) <|
 an (a.add 4) (.int .i64 r) <|
 an (a.add 5) (.int .i64 s) <|
 an (a.add 6) (.slice e.p e.n e.c) <|
 aw (a.add 6) fun t=>
 aI (decide ((t.n:Int)>80)) (
 af (.bool false)) (
 a8O d g h (IntKind.i64.wrap (f+(1:Int))))) (
 aw (d.add 4) fun v=>
 ai (aI (decide ((v.n:Int)≤20)) (aw (d.add 6) fun u=>
 af (decide ((u.n:Int)≤20))) (af false)) fun k=>
 ai (aI k (aw (d.add 7) fun x=>
 af (decide ((x.n:Int)≤20))) (af false)) fun l=>
 ai (aI l (aw (d.add 8) fun w=>
 af (decide ((w.n:Int)≤20))) (af false)) fun m=>
 ai (aI m (aw (d.add 9) fun i=>
 af (decide ((i.n:Int)≤20))) (af false)) fun o=>
 af (.bool o))
theorem e7i (bE bF bG bH aV bI aW aX aY aZ){h Q}:d6v bE bF bG bH aV bI aW aX aY aZ h Q→b7M bE bF bG bH aV bI aW aX aY aZ h Q:=Nf.bh Tryz.call27 Tryz.func27 rfl mixed (cuts:=[(2,[1,6,7,8])]) (dm:=[]) (by kernel_rfl)
theorem Szg (c1 t6 t7 t8){h Q}:Bzg c1 t6 t7 t8 h Q→a8O c1 t6 t7 t8 h Q:=Cut.bh Tryz.func27 mixed (cuts:=[(2,[1,6,7,8])]) (dm:=[]) (by kernel_rfl)
end Go.Proofs.YtnpinhahjgbigaaGreatDoor
end
section
namespace Go.Sb
open Go
structure dG where
 k:Int
 a:Int
 b:Int
deriving DecidableEq
structure cx where
 pr:Int
 th:Int
 pe:Int
 de:Int
 fr:Int
 fl:Int
 ops:List dG
deriving DecidableEq
structure bw where
 sets:Int
 ways:Int
 hit:Int
 bT:Int
 gi:List Int
 groups:Int
 counts:List Int
 bP:List Int
 tasks:List cx
 lines:List Int
deriving DecidableEq
abbrev dv:Int→List Value:=fun z=>[.int .i64 z]
abbrev dM (o:dG):List Value:=[.int .i64 o.k,.int .i64 o.a,.int .i64 o.b]
abbrev lO (p:cx×Sl):List Value:=[.int .i64 p.1.pr,.int .i64 p.1.th,.int .i64 p.1.pe,.int .i64 p.1.de,.int .i64 p.1.fr,.int .i64 p.1.fl,.slice p.2.p p.2.n p.2.c]
def gO (n a b:Int):Bool:=decide (n≥a)&&decide (n≤b)
def lF (l:List Int)(a b:Int):Bool:=l.all fun n=>gO n a b
def iy (k:Int):Int:=if k=3∨k=4 then 0 else if k=9∨k=11∨k=12∨k=13 then 2 else if k<1∨k>15 then -1 else 1
def opA (o:dG)(bx gr ct ce:Int):Bool:=
 if o.k=1 then gO o.a 1 1000 else if o.k=2 then gO o.a 0 255 else if o.k=3∨o.k=4 then o.a == 0 else
 if o.k=5∨o.k=6 then gO o.a 0 (IntKind.i64.wrap (ce-1)) else if o.k=7∨o.k=8 then gO o.a 1 4096 else
 if o.k=9∨o.k=10 then gO o.a 0 (IntKind.i64.wrap (bx-1)) else if o.k=11∨o.k=12∨o.k=13 then gO o.a 0 (IntKind.i64.wrap (gr-1)) else
 gO o.a 0 (IntKind.i64.wrap (ct-1))
def opB (o:dG):Bool:=if o.k=9∨o.k=11∨o.k=12∨o.k=13 then gO o.b 0 255 else o.b == 0
def yd (o:dG)(bx gr ct ce:Int):Int:=if iy o.k<0 then 1 else if opA o bx gr ct ce&&opB o then 0 else 5
abbrev rG:=Int×Int×List Int
def hO (s:rG)(o:dG):Option rG:=
 if o.k=3 then some (IntKind.i64.wrap (s.1+1),s.2.1,s.2.2) else
 if o.k=4 then some (IntKind.i64.wrap (s.1-1),s.2.1,s.2.2) else
 if o.k=5 then (if s.2.2.contains o.a then none else some (s.1,s.2.1,s.2.2++[o.a])) else
 if o.k=6 then (if s.2.2.getLast? =some o.a then some (s.1,s.2.1,s.2.2.dropLast) else none) else
 if o.k=7 then some (s.1,IntKind.i64.wrap (s.2.1+o.a),s.2.2) else
 if o.k=8 then some (s.1,IntKind.i64.wrap (s.2.1-o.a),s.2.2) else some s
def nok (s:rG):Option rG:=if decide (s.1<0)||decide (s.2.1<0) then none else some s
def eD (s:rG)(o:dG):Option rG:=match hO s o with
 |some s=>nok s
 |none=>none
def fT (s:rG):List dG→Option rG
 |[]=>some s
 |o::l=>match eD s o with
  |some s=>fT s l
  |none=>none
def mZ (bx gr ct ce:Int)(s:rG):List dG→Int
 |[]=>if decide (s.1>0)||decide (0<s.2.2.length) then 9 else 0
 |o::l=>if yd o bx gr ct ce≠0 then yd o bx gr ct ce else match eD s o with
  |some s=>mZ bx gr ct ce s l
  |none=>9
def lP (l:List dG)(bx gr ct ce:Int):Int:=if l.length=0 then 1 else if l.length>64 then 4 else mZ bx gr ct ce (0,0,[]) l
def fy (t:cx):Bool:=gO t.pr 0 63&&gO t.th t.pr 63&&gO t.pe 1 1048576&&gO t.de 1 t.pe&&gO t.fr 0 4096&&gO t.fl 0 1048576
def tX (C:bw)(t:cx)(o:dG):Bool:=o.k == 5&&decide (C.bP.getD o.a.toNat 0<t.pr)
def gH (C:bw)(t:cx)(ahead:List cx):Int:=
 if !fy t then 5 else
 let e:=lP t.ops C.gi.length C.groups C.counts.length C.bP.length
 if e≠0 then e else if t.ops.any (tX C t) then 9 else if ahead.any (fun x=>x.pr == t.pr) then 10 else 0
def gy (C:bw)(k:Nat):List cx→Int
 |[]=>0
 |t::l=>if gH C t (C.tasks.take k)≠0 then gH C t (C.tasks.take k) else gy C (k+1) l
def lQ (C:bw):Bool:=gO C.sets 1 16&&gO C.ways 1 4&&gO C.hit 1 100&&gO C.bT C.hit 100
def kq (C:bw):Bool:=decide (C.gi.length>4)||decide (C.groups>4)||decide (C.counts.length>4)||decide (C.bP.length>4)||decide (C.tasks.length>8)||decide (C.lines.length>8)
def fC (C:bw):Bool:=lF C.gi 1 8&&lF C.counts 1 8&&lF C.bP 0 63&&lF C.lines 0 ((C.tasks.length:Int)-1)
def eE (C:bw):Int:=
 if !lQ C then 5 else if kq C then 4 else if C.tasks.length=0∨C.groups<0 then 1 else if !fC C then 5 else gy C 0 C.tasks
structure hU (h:Hp) (C:bw) (sm sc se st sl:Sl) (ts:List (cx×Sl)):Prop where
 gi:mr h.size h .i64 sm C.gi
 counts:mr h.size h .i64 sc C.counts
 bP:mr h.size h .i64 se C.bP
 lines:mr h.size h .i64 sl C.lines
 rows:fK h.size h lO 7 st ts
 cap:st.n≤st.c
 tasks:ts.map (·.1)=C.tasks
 ops:∀p∈ts,fK h.size h dM 3 p.2 p.1.ops∧p.2.n≤p.2.c
section
variable {h0 h:Hp}{R:List As}{C:bw}{sm sc se st sl:Sl}{ts:List (cx×Sl)}
theorem hU.now (hc:hU h0 C sm sc se st sl ts)(hs:Sep h0 h R):hU h C sm sc se st sl ts:=
 ⟨hc.gi.now hs,hc.counts.now hs,hc.bP.now hs,hc.lines.now hs,hc.rows.now hs,hc.cap,hc.tasks,fun p hp=>⟨(hc.ops p hp).1.now hs,(hc.ops p hp).2⟩⟩
abbrev cP (C:bw)(sm sc se st sl:Sl):List Value:=[.int .i64 C.sets,.int .i64 C.ways,.int .i64 C.hit,.int .i64 C.bT,.slice sm.p sm.n sm.c,.int .i64 C.groups,.slice sc.p sc.n sc.c,.slice se.p se.n se.c,.slice st.p st.n st.c,.slice sl.p sl.n sl.c]
theorem hU.len (hc:hU h0 C sm sc se st sl ts):sm.n=C.gi.length∧sc.n=C.counts.length∧se.n=C.bP.length∧sl.n=C.lines.length∧st.n=C.tasks.length∧ts.length=C.tasks.length:=
 ⟨hc.gi.n,hc.counts.n,hc.bP.n,hc.lines.n,by rw[hc.rows.n,←hc.tasks,List.length_map],by rw[←hc.tasks,List.length_map]⟩
theorem hU.at (hc:hU h0 C sm sc se st sl ts){i:Nat}(hi:i<ts.length):C.tasks[i]? =some (ts[i]'hi).1:=by
 rw[←hc.tasks,List.getElem?_map,List.getElem?_eq_getElem hi];rfl
theorem fK.ix {X α:Type}{enc:X→List Value}{sz:Nat}{s:Sl}{xs:List X}{L:List As}{K:Addr→M α}{Q:α→Hp→Prop}(hr:fK h0.size h0 enc sz s xs)(hs:Sep h0 h L){j:Nat}(hj:j<xs.length)(hk:∀a,Arg h enc (xs[j]'hj) a→K a h Q):bd s (j:Int) sz K h Q:=hs.Ur hr hj hk
theorem fK.pre {X:Type}{B:Nat}{enc:X→List Value}{sz:Nat}{s:Sl}{xs:List X}{α:Type}{K:Sl→M α}{Q:α→Hp→Prop}{g:Hp}(hr:fK B g enc sz s xs)(hc:s.n≤s.c){hi mx:Int}(h2:0≤hi)(h3:hi≤xs.length)(hmx:mx=s.c)
  (hK:∀x:Sl,fK B g enc sz x (xs.take hi.toNat)→x.n≤x.c→K x h Q):mw s sz 0 hi mx K h Q:=by
 have hn:=hr.n
 refine⟨Int.le_refl _,h2,by omega,by omega,hK _ ⟨?_,?_⟩ ?_⟩
 ·show hi.toNat-(0:Int).toNat=_
  rw[List.length_take];omega
 ·intro i z hz
  have hil:=(List.getElem?_eq_some_iff.1 hz).1
  rw[List.length_take]at hil
  rw[List.getElem?_take,if_pos (by omega)]at hz
  obtain⟨a,e1,e2,e3⟩:=hr.at_ _ z hz
  simp only[]
  rw[if_neg (by rw[hmx];simp;omega),e1,Option.map_some]
  refine⟨_,rfl,by rw[fj];exact e2,?_⟩
  simpa[Addr.add_zero']using e3
 ·show hi.toNat-(0:Int).toNat≤mx.toNat-(0:Int).toNat
  omega
theorem dK (n:Nat)(h:n<9223372036854775807):IntKind.i64.wrap ((n:Int)+1)=((n+1:Nat):Int):=by rw[wrap64 _ (by omega)];omega
end
end Go.Sb
end
section
namespace Go.Proofs.YtnpinhahjgbigaaGreatDoor
open Go Go.Sb
section
variable {h0 h:Hp}{R:List As}
theorem F7 {k:Int}(h1:0≤k)(h2:k<16):k=0∨k=1∨k=2∨k=3∨k=4∨k=5∨k=6∨k=7∨k=8∨k=9∨k=10∨k=11∨k=12∨k=13∨k=14∨k=15:=by omega
theorem F8 (k:Int)(hs:Sep h0 h R):b7J k h (fun v h'=>v= .int .i64 (iy k)∧Sep h0 h' R):=by
 apply e6V
 unfold d4R
 rw[ae]
 apply e7g
 unfold d6t
 refine Sep.new hs fun b h hs=>?_
 rw[ak]
 simp only[ez]
 refine aE (fun hc=>?_) (fun hc=>?_)
 ·have:iy k= -1:=by
   simp at hc
   unfold iy
   rw[if_neg (by omega),if_neg (by omega),if_pos (by omega)]
  rw[ak,this]
  exact⟨rfl,hs.drop⟩
 ·simp at hc
  refine kV (by omega) (by simp;omega) ?_
  rw[ay,ay]
  rcases F7 hc.1 hc.2 with e|e|e|e|e|e|e|e|e|e|e|e|e|e|e|e<;>subst e<;>exact hs.aB 0 rfl rfl ⟨rfl,hs.drop⟩
def JC (k bx gr ct ce:Int):Int×Int:=
 if k=1 then (1,1000) else if k=2 then (0,255) else if k=5∨k=6 then (0,IntKind.i64.wrap (ce-1)) else if k=7∨k=8 then (1,4096) else
 if k=9∨k=10 then (0,IntKind.i64.wrap (bx-1)) else if k=11∨k=12∨k=13 then (0,IntKind.i64.wrap (gr-1)) else
 if k=14∨k=15 then (0,IntKind.i64.wrap (ct-1)) else (0,0)
def JD (k:Int):Int×Int:=if k=9∨k=11∨k=12∨k=13 then (0,255) else (0,0)
abbrev SpQ (h0:Hp)(R:List As)(a b:Int×Int):Value→Hp→Prop:=fun v h'=>v= .tuple #[.agg #[.int .i64 a.1,.int .i64 a.2],.agg #[.int .i64 b.1,.int .i64 b.2]]∧Sep h0 h' R
theorem JE (n:Int)(hs:Sep h0 h R):A1 n h (fun v h'=>v= .agg #[.int .i64 0,.int .i64 (IntKind.i64.wrap (n-1))]∧Sep h0 h' R):=by
 apply e7h
 unfold d6u
 ((refine Sep.new hs fun nb h hs=>?_;try simp only[sz2]at hs);(refine Sep.st hs 0 rfl rfl rfl fun h hs=>?_;simp only[sz0,sz1]at hs);(refine Sep.st hs 0 rfl rfl rfl fun h hs=>?_;simp only[sz0,sz1]at hs);refine Sep.aB hs 0 rfl rfl ?_;refine Sep.aB hs 0 rfl rfl ?_)
 exact⟨rfl,hs.drop⟩
theorem Fs {a b:Int}(h:(a == b)=false):¬a=b:=by simpa using h
theorem Cq {a b:Int}(h:(a == b)=true):a=b:=by simpa using h
theorem e7j {bx gr ct ce k:Int}{r a b v:Nat}(hk:¬(k=1∨k=2∨k=5∨k=6∨k=7∨k=8∨k=9∨k=10∨k=11∨k=12∨k=13))(hs:Sep h0 h (aBlk r [.int .i64 bx,.int .i64 gr,.int .i64 ct,.int .i64 ce]::aBlk a [.int .i64 0,.int .i64 0]::aBlk b [.int .i64 0,.int .i64 0]::aBlk v [.int .i64 0,.int .i64 255]::R)):
  Kzx ⟨r,0,none⟩ ⟨a,0,none⟩ ⟨b,0,none⟩ k h (SpQ h0 R (JC k bx gr ct ce) (JD k)):=by
 apply e7d
 unfold d6k
 refine aE (fun h1=>?_) (fun h1=>?_)
 ·obtain rfl:=Cq h1
  refine aM rfl ?_
  repeat' (first|with_reducible refine aK ?_ ?_|(first|(((with_reducible refine cW ?_);refine Sep.aB hs 0 rfl rfl ?_))|((simp only[ay,Nat.zero_add,ae]))|((simp only[cG,bW,cH,az]))|(((with_reducible refine jE ?_);(refine Sep.st hs 1 rfl rfl rfl fun h hs=>?_;simp only[sz0,sz1]at hs)))|(((with_reducible refine cW ?_);refine Sep.aB hs 1 rfl rfl ?_))|(((with_reducible refine cW ?_);refine Sep.aB hs 2 rfl rfl ?_))|(((with_reducible refine jE ?_);(refine Sep.st hs 2 rfl rfl rfl fun h hs=>?_;simp only[sz0,sz1]at hs))))|(refine (JE _ hs).mono ?_;rintro v h ⟨rfl,hs⟩))
  all_goals exact⟨rfl,hs.drop.drop.drop.drop⟩
 ·refine aE (fun h2=>?_) (fun h2=>?_)
  ·obtain rfl:=Cq h2
   repeat' (first|with_reducible refine aK ?_ ?_|(first|(((with_reducible refine cW ?_);refine Sep.aB hs 0 rfl rfl ?_))|((simp only[ay,Nat.zero_add,ae]))|((simp only[cG,bW,cH,az]))|(((with_reducible refine jE ?_);(refine Sep.st hs 1 rfl rfl rfl fun h hs=>?_;simp only[sz0,sz1]at hs)))|(((with_reducible refine cW ?_);refine Sep.aB hs 1 rfl rfl ?_))|(((with_reducible refine cW ?_);refine Sep.aB hs 2 rfl rfl ?_))|(((with_reducible refine jE ?_);(refine Sep.st hs 2 rfl rfl rfl fun h hs=>?_;simp only[sz0,sz1]at hs))))|(refine (JE _ hs).mono ?_;rintro v h ⟨rfl,hs⟩))
   all_goals exact⟨rfl,hs.drop.drop.drop.drop⟩
  ·have h1:=Fs h1
   have h2:=Fs h2
   have e1:JC k bx gr ct ce=(0,0):=by unfold JC;repeat' (first|rw[if_neg (by omega)])
   have e2:JD k=(0,0):=by unfold JD;rw[if_neg (by omega)]
   rw[e1,e2]
   repeat' (first|with_reducible refine aK ?_ ?_|(first|(((with_reducible refine cW ?_);refine Sep.aB hs 1 rfl rfl ?_))|(((with_reducible refine cW ?_);refine Sep.aB hs 2 rfl rfl ?_))|(((with_reducible refine jE ?_);(refine Sep.st hs 1 rfl rfl rfl fun h hs=>?_;simp only[sz0,sz1]at hs)))|(((with_reducible refine jE ?_);(refine Sep.st hs 2 rfl rfl rfl fun h hs=>?_;simp only[sz0,sz1]at hs)))))
   all_goals exact⟨rfl,hs.drop.drop.drop.drop⟩
theorem XI {a b:Int}(h:¬a=b):(a == b)=false:=by simpa using h
theorem e7k {bx gr ct ce k:Int}{r a b v:Nat}(hk:¬(k=1∨k=2∨k=5∨k=6∨k=7∨k=8))(hs:Sep h0 h (aBlk r [.int .i64 bx,.int .i64 gr,.int .i64 ct,.int .i64 ce]::aBlk a [.int .i64 0,.int .i64 0]::aBlk b [.int .i64 0,.int .i64 0]::aBlk v [.int .i64 0,.int .i64 255]::R)):
  Kzn ⟨r,0,none⟩ ⟨a,0,none⟩ ⟨b,0,none⟩ ⟨v,0,none⟩ k h (SpQ h0 R (JC k bx gr ct ce) (JD k)):=by
 apply e7c
 unfold d5T
 by_cases h9:k=9∨k=10∨k=11∨k=12∨k=13
 ·rcases h9 with e|e|e|e|e<;>subst e
  all_goals repeat' (first|with_reducible refine aK ?_ ?_|(first|((simp only[ay,Nat.zero_add]))|(((with_reducible refine cW ?_);refine Sep.aB hs 0 rfl rfl ?_))|((simp only[ae]))|((simp only[cG,bW,cH,az]))|(((with_reducible refine cW ?_);refine Sep.aB hs 3 rfl rfl ?_))|(((with_reducible refine jE ?_);(refine Sep.st hs 1 rfl rfl rfl fun h hs=>?_;simp only[sz0,sz1]at hs)))|(((with_reducible refine jE ?_);(refine Sep.st hs 2 rfl rfl rfl fun h hs=>?_;simp only[sz0,sz1]at hs)))|(((with_reducible refine cW ?_);refine Sep.aB hs 1 rfl rfl ?_))|(((with_reducible refine cW ?_);refine Sep.aB hs 2 rfl rfl ?_)))|refine aM rfl ?_|refine aA rfl ?_|(refine (JE _ hs).mono ?_;rintro v h ⟨rfl,hs⟩))
  all_goals exact⟨rfl,hs.drop.drop.drop.drop⟩
 ·have hk':¬(k=1∨k=2∨k=5∨k=6∨k=7∨k=8∨k=9∨k=10∨k=11∨k=12∨k=13):=by omega
  repeat' (first|refine aA (XI (by omega)) ?_)
  exact e7j hk' hs
theorem a8P (bx gr ct ce k:Int)(hs:Sep h0 h R):b7K bx gr ct ce k h (SpQ h0 R (JC k bx gr ct ce) (JD k)):=by
 apply e7b
 unfold d4S
 refine Sep.new hs fun r h hs=>?_
 refine Sep.new hs fun a h hs=>?_
 refine Sep.new hs fun b h hs=>?_
 refine Sep.new hs fun v h hs=>?_
 have hs:=hs.jN 4 [3,2,1,0] rfl (by simp)
 have hs:Sep h0 h (aBlk r [.int .i64 bx,.int .i64 gr,.int .i64 ct,.int .i64 ce]::aBlk a [.int .i64 0,.int .i64 0]::aBlk b [.int .i64 0,.int .i64 0]::aBlk v [.int .i64 0,.int .i64 0]::R):=hs
 refine hs.st 3 rfl rfl rfl fun h hs=>?_
 simp only[sz0,sz1,ay,Nat.zero_add]at hs ⊢
 refine hs.st 3 rfl rfl rfl fun h hs=>?_
 simp only[sz0,sz1]at hs
 by_cases h9:k=1∨k=2∨k=5∨k=6∨k=7∨k=8
 ·rcases h9 with e|e|e|e|e|e<;>subst e
  all_goals repeat' (first|with_reducible refine aK ?_ ?_|(first|(((with_reducible refine jE ?_);(refine Sep.st hs 1 rfl rfl rfl fun h hs=>?_;simp only[sz0,sz1]at hs)))|(((with_reducible refine cW ?_);refine Sep.aB hs 1 rfl rfl ?_))|(((with_reducible refine cW ?_);refine Sep.aB hs 2 rfl rfl ?_))|(((with_reducible refine jE ?_);(refine Sep.st hs 2 rfl rfl rfl fun h hs=>?_;simp only[sz0,sz1]at hs)))|(((with_reducible refine cW ?_);refine Sep.aB hs 0 rfl rfl ?_))|((simp only[ae]))|((simp only[cG,bW,cH,az])))|refine aM rfl ?_|refine aA rfl ?_|(refine (JE _ hs).mono ?_;rintro v h ⟨rfl,hs⟩))
  all_goals exact⟨rfl,hs.drop.drop.drop.drop⟩
 ·repeat' (first|refine aA (XI (by omega)) ?_)
  exact e7k h9 hs
theorem b5K (a b n:Int)(hs:Sep h0 h R):a7W a b n h (fun v h'=>v= .bool (gO n a b)∧Sep h0 h' R):=by
 apply e7e
 unfold d6r gO
 ((refine Sep.new hs fun nb h hs=>?_;try simp only[sz2]at hs);refine Sep.aB hs 0 rfl rfl ?_;simp only[ay,Nat.zero_add,ae])
 refine aE (fun hc=>?_) (fun hc=>?_)
 ·(refine Sep.aB hs 0 rfl rfl ?_;rw[ak])
  rw[hc]
  exact⟨rfl,hs.drop⟩
 ·(rw[ak])
  rw[hc]
  exact⟨rfl,hs.drop⟩
theorem c4v (o:dG)(bx gr ct ce:Int)(h:¬iy o.k<0):yd o bx gr ct ce=if gO o.a (JC o.k bx gr ct ce).1 (JC o.k bx gr ct ce).2&&gO o.b (JD o.k).1 (JD o.k).2 then 0 else 5:=by
 unfold yd
 rw[if_neg h]
 have hk:1≤o.k∧o.k<16:=by
  unfold iy at h
  split at h
  ·omega
  ·split at h
   ·omega
   ·split at h
    ·omega
    ·omega
 have z:∀n:Int,(n == 0)=gO n 0 0:=by
  intro n;unfold gO;rw[Bool.eq_iff_iff];simp;omega
 have e:opA o bx gr ct ce=gO o.a (JC o.k bx gr ct ce).1 (JC o.k bx gr ct ce).2∧opB o=gO o.b (JD o.k).1 (JD o.k).2:=by
  unfold opA opB JC JD
  rw[z,z]
  rcases F7 (by omega) hk.2 with e|e|e|e|e|e|e|e|e|e|e|e|e|e|e|e<;>rw[e]at hk ⊢<;>first|omega|exact⟨rfl,rfl⟩
 rw[e.1,e.2]
theorem d6z (o:dG)(bx gr ct ce:Int)(hs:Sep h0 h R):b7G o.k o.a o.b bx gr ct ce h (fun v h'=>v= .int .i64 (yd o bx gr ct ce)∧Sep h0 h' R):=by
 apply e6L
 unfold d4F
 refine Sep.new hs fun x h hs=>?_
 refine Sep.new hs fun y h hs=>?_
 simp only[sz2]at hs
 (refine Sep.aB hs 1 rfl rfl ?_;simp only[ay,Nat.zero_add,ae])
 refine (F8 o.k hs).mono ?_
 rintro v h ⟨rfl,hs⟩
 (simp only[az])
 refine aE (fun hc=>?_) (fun hc=>?_)
 ·rw[ak]
  have:yd o bx gr ct ce=1:=by unfold yd;rw[if_pos (by simpa using hc)]
  rw[this]
  exact⟨rfl,hs.drop.drop⟩
 ·rw[c4v o bx gr ct ce (by simpa using hc)]
  (refine Sep.aB hs 0 rfl rfl ?_;refine Sep.aB hs 0 rfl rfl ?_;refine Sep.aB hs 0 rfl rfl ?_;refine Sep.aB hs 0 rfl rfl ?_;refine Sep.aB hs 1 rfl rfl ?_;simp only[ae])
  refine (a8P _ _ _ _ _ hs).mono ?_
  rintro v h ⟨rfl,hs⟩
  (simp only[cC,bW,cH,cG,az];(refine Sep.new hs fun nb h hs=>?_;try simp only[sz2]at hs);(refine Sep.new hs fun qQ h hs=>?_;try simp only[sz2]at hs);(refine Sep.st hs 1 rfl rfl rfl fun h hs=>?_;simp only[sz0,sz1]at hs);(refine Sep.st hs 1 rfl rfl rfl fun h hs=>?_;simp only[sz0,sz1]at hs);(refine Sep.st hs 0 rfl rfl rfl fun h hs=>?_;simp only[sz0,sz1]at hs);(refine Sep.st hs 0 rfl rfl rfl fun h hs=>?_;simp only[sz0,sz1]at hs);refine Sep.aB hs 1 rfl rfl ?_;refine Sep.aB hs 1 rfl rfl ?_;refine Sep.aB hs 3 rfl rfl ?_;simp only[ay,Nat.zero_add,ae])
  refine (b5K _ _ _ hs).mono ?_
  rintro v h ⟨rfl,hs⟩
  (simp only[av,ae])
  refine aE (fun h1=>?_) (fun h1=>?_)
  ·(rw[ak];simp only[aq])
   rw[show gO o.a (JC o.k bx gr ct ce).1 (JC o.k bx gr ct ce).2=false by simpa using h1]
   exact⟨rfl,hs.drop.drop.drop.drop⟩
  ·(refine Sep.aB hs 0 rfl rfl ?_;refine Sep.aB hs 0 rfl rfl ?_;refine Sep.aB hs 3 rfl rfl ?_;simp only[ae])
   refine (b5K _ _ _ hs).mono ?_
   rintro v h ⟨rfl,hs⟩
   (simp only[av];rw[ak])
   rw[show gO o.a (JC o.k bx gr ct ce).1 (JC o.k bx gr ct ce).2=true by simpa using h1,Bool.true_and]
   refine aE (fun h2=>?_) (fun h2=>?_)
   ·rw[show gO o.b (JD o.k).1 (JD o.k).2=false by simpa using h2]
    exact⟨rfl,hs.drop.drop.drop.drop⟩
   ·rw[show gO o.b (JD o.k).1 (JD o.k).2=true by simpa using h2]
    exact⟨rfl,hs.drop.drop.drop.drop⟩
end
end Go.Proofs.YtnpinhahjgbigaaGreatDoor
end
section
namespace Go.Proofs.YtnpinhahjgbigaaGreatDoor
open Go Go.Sb
section
variable {h0 h:Hp}{R:List As}
theorem F9 (k:Int):b7I k h (fun v h'=>v= .int .i64 (iy k)∧h'=h):=by
 apply e6S
 unfold d4O
 have gen:¬(k=3∨k=4∨k=9∨k=11∨k=12∨k=13)→iy k=if k<1∨k>15 then -1 else 1:=by
  intro hk
  unfold iy
  rw[if_neg (by omega),if_neg (by omega)]
 have e7l:¬(k=3∨k=4)→a8x k k h (fun v h'=>v= .int .i64 (iy k)∧h'=h):=by
  intro hk
  apply e6T
  unfold d4P
  by_cases h9:k=9∨k=11∨k=12∨k=13
  ·rcases h9 with e|e|e|e<;>subst e
   all_goals repeat' (first|refine aM rfl ?_|refine aA rfl ?_)
   all_goals exact⟨rfl,rfl⟩
  ·repeat' (first|refine aA (XI (by omega)) ?_)
   rw[gen (by omega)]
   refine aE (fun hc=>?_) (fun hc=>?_)
   ·rw[if_pos (by simpa using hc)];exact⟨rfl,rfl⟩
   ·rw[if_neg (by simpa using hc)];exact⟨rfl,rfl⟩
 by_cases h3:k=3∨k=4
 ·rcases h3 with e|e<;>subst e
  all_goals repeat' (first|refine aM rfl ?_|refine aA rfl ?_)
  all_goals exact⟨rfl,rfl⟩
 ·repeat' (first|refine aA (XI (by omega)) ?_)
  exact e7l h3
theorem b5L (n a b:Int):LB n a b h (fun v h'=>v= .bool (gO n a b)∧h'=h):=by
 apply e6U
 unfold d4Q
 exact⟨rfl,rfl⟩
theorem c4w (o:dG)(bx gr ct ce:Int)(h:¬iy o.k<0){a b:Bool}(ha:a=opA o bx gr ct ce)(hb:b=opB o){Q:Value→Hp→Prop}{g:Hp}(hQ:Q (.int .i64 (yd o bx gr ct ce)) g):aI ((!a)||(!b)) (af (.int .i64 5)) (af (.int .i64 0)) g Q:=by
 have e:yd o bx gr ct ce=if a&&b then 0 else 5:=by unfold yd;rw[if_neg h,ha,hb]
 rw[e]at hQ
 cases a<;>cases b<;>exact hQ
theorem d6A (o:dG)(bx gr ct ce:Int)(hs:Sep h0 h R):b7F o.k o.a o.b bx gr ct ce h (fun v h'=>v= .int .i64 (yd o bx gr ct ce)∧Sep h0 h' R):=by
 apply e6C
 unfold d4x
 refine Sep.new hs fun x h hs=>?_
 simp only[sz2]at hs
 (refine Sep.aB hs 0 rfl rfl ?_;simp only[ay,Nat.zero_add,ae])
 refine (F9 o.k).mono ?_
 rintro v h ⟨rfl,rfl⟩
 simp only[az]
 refine aE (fun hc=>?_) (fun hc=>?_)
 ·have:yd o bx gr ct ce=1:=by unfold yd;rw[if_pos (by simpa using hc)]
  rw[this]
  exact⟨rfl,hs.drop⟩
 have Qw:¬iy o.k<0:=by simpa using hc
 have hk:1≤o.k∧o.k<16:=by
  unfold iy at Qw
  split at Qw
  ·omega
  ·split at Qw
   ·omega
   ·split at Qw
    ·omega
    ·omega
 have eA:∀k a b,o=⟨k,a,b⟩→opA ⟨k,a,b⟩ bx gr ct ce=opA o bx gr ct ce:=fun k a b e=>by rw[e]
 obtain⟨k,a,b⟩:=o
 simp only at hk hs Qw
 clear hc eA
 rcases F7 (by omega) hk.2 with e|e|e|e|e|e|e|e|e|e|e|e|e|e|e|e<;>subst e
 ·omega
 all_goals
  repeat' (first|(first|(((with_reducible refine cW ?_);refine Sep.aB hs 0 rfl rfl ?_))|((simp only[ae]))|((simp only[av]))|((simp only[ay,Nat.zero_add]))|((simp only[ay,Nat.zero_add,Bool.not_false,Bool.true_or,aq])))|refine aM rfl ?_|refine aA rfl ?_|(refine (b5L _ _ _).mono ?_;rintro v h ⟨rfl,rfl⟩)|(refine jo _ (b5L _ _ _) ?_)|apply e6D|apply e6E|apply e6F|apply e6G|apply e6H|unfold d4y|unfold d4z|unfold d4A|unfold d4B|unfold d4C)
 all_goals exact c4w ⟨_,a,b⟩ bx gr ct ce Qw rfl rfl ⟨rfl,hs.drop⟩
end
end Go.Proofs.YtnpinhahjgbigaaGreatDoor
end
section
namespace Go.Proofs.YtnpinhahjgbigaaGreatDoor
open Go Go.Sb
section
variable {h0 h:Hp}{R:List As}
theorem c4x {α:Type}{Q:α→Hp→Prop}{L:List As}{k:Nat}{s:Sl}{xs:List Int}{K:Int→M α}(hs:Sep h0 h L)(hk:L[k]? =some (aRow dv 1 s xs)){i:Nat}(hi:i<xs.length)(hK:K (xs[i]'hi) h Q):bd s (i:Int) 1 (fun x=>ab .i64 x K) h Q:=by
 refine hs.idx k hk (by omega) (by omega) fun x hx=>?_
 rw[Int.toNat_natCast]at hx
 exact hs.ild k hk hx hi hK
theorem d6B {lk:List Int}{de op:Int}{L:Sl}{x k:Nat}{o:dG}{t:Sl}{e:Bool}(hl:lk.length≤300){Q:Value→Hp→Prop}
  (no:∀h,Sep h0 h R→lk.contains o.a=true→Q (.bool false) h)
  (yes:∀h L',Sep h0 h (aRow dv 1 L' (lk++[o.a])::R)→lk.contains o.a=false→(aI ((decide (op<(0:Int)))||(decide (de<(0:Int)))) (af (.bool false):M Value) (TF e op de L' t (t.n:Int) (IntKind.i64.wrap ((k:Int)+(1:Int))))) h Q):
  ∀(d j:Nat) (h:Hp),j+d=lk.length→(lk.take j).contains o.a=false→Sep h0 h (aBlk x (dM o)::aRow dv 1 L lk::R)→
   a8h e op de L ⟨x,0,none⟩ t (t.n:Int) (k:Int) L (L.n:Int) (j:Int) h Q
 |0,j,h,hj,hc,hs=>by
  have hn:=hs.bn 1 rfl
  rw[List.take_of_length_le (by omega)]at hc
  apply Szb
  unfold Bzb
  refine aA (by simp;omega) ?_
  rw[ay]
  refine hs.aB 0 rfl rfl ?_
  refine Sep.new hs fun b h hs=>?_
  refine hs.lE 2 0 o.a rfl rfl (fun _=>rfl) (by intro v hv;simp at hv;subst hv;rfl) rfl (by omega) (by omega) fun s' h hn' hs=>?_
  simp only[sz1,sz0]at hs
  exact yes h s' (hs.drop.drop) hc
 |d+1,j,h,hj,hc,hs=>by
  have ih:=d6B (L:=L) (x:=x) hl no yes d (j+1)
  have hn:=hs.bn 1 rfl
  have hjl:j<lk.length:=by omega
  apply Szb
  unfold Bzb
  refine aM (by simp;omega) ?_
  refine c4x (k:=1) hs rfl hjl ?_
  rw[ay]
  refine hs.aB 0 rfl rfl ?_
  refine aE (fun h1=>?_) (fun h1=>?_)
  ·refine no h hs.drop.drop ?_
   have h1:=Cq h1
   rw[←h1]
   simp
  ·rw[dK j (by omega)]
   refine ih h (by omega) ?_ hs
   have h1:=Fs h1
   rw[Bool.eq_false_iff]at hc ⊢
   intro hm
   rw[List.contains_iff_mem,List.take_succ_eq_append_getElem hjl,List.mem_append]at hm
   rcases hm with hm|hm
   ·exact hc (List.contains_iff_mem.2 hm)
   ·simp at hm
    exact h1 hm.symm
theorem b5M {t:Sl}{ops:List dG}(hr:fK h0.size h0 dM 3 t ops)(e:Bool)(zP:ops.length≤100):∀(d k:Nat) (st:rG) (L:Sl) (h:Hp),k+d=ops.length→st.2.2.length≤k→Sep h0 h (aRow dv 1 L st.2.2::R)→
  TF e st.1 st.2.1 L t (t.n:Int) (k:Int) h (fun v h'=>v= .bool (match fT st (ops.drop k) with
   |some s=> !e||(s.1 == 0&&s.2.2.length == 0)
   |none=>false)∧Sep h0 h' R)
 |0,k,st,L,h,hk,hl,hs=>by
  have hn:=hr.n
  have mF:=hs.bn 0 rfl
  apply Sza
  unfold Bza
  refine aA (by simp;omega) ?_
  rw[List.drop_of_length_le (by omega)]
  rw[ae]
  unfold fT
  refine aE (fun hc=>?_) (fun hc=>?_)
  ·rw[ak,hc]
   exact⟨rfl,hs.drop⟩
  ·rw[ak,mF,hc]
   refine⟨?_,hs.drop⟩
   simp only[Bool.false_or]
   congr 2
   rw[Bool.eq_iff_iff]
   simp
 |d+1,k,st,L,h,hk,hl,hs=>by
  have ih:=b5M hr e zP d (k+1)
  have hn:=hr.n
  have mF:=hs.bn 0 rfl
  have eW:k<ops.length:=by omega
  rw[List.drop_eq_getElem_cons eW]
  apply Sza
  unfold Bza
  refine aM (by simp;omega) ?_
  refine hr.ix hs eW fun a ha=>?_
  generalize ops[k]=o at ha ⊢
  have hw:=dK k (by omega)
  (refine Arg.mG ha rfl ?_;refine Arg.aB ha rfl ?_;refine Arg.aB ha rfl ?_;(refine Sep.new hs fun nb h hs=>?_;try simp only[sz2]at hs);(refine Sep.st hs 0 rfl rfl rfl fun h hs=>?_;simp only[sz0,sz1]at hs);(refine Sep.st hs 0 rfl rfl rfl fun h hs=>?_;simp only[sz0,sz1]at hs);(refine Sep.st hs 0 rfl rfl rfl fun h hs=>?_;simp only[sz0,sz1]at hs);refine Sep.aB hs 0 rfl rfl ?_;simp only[ay,Nat.zero_add])
  have hs:Sep h0 h (aBlk _ (dM o)::aRow dv 1 L st.2.2::R):=hs
  have fin:∀h (op de:Int) (lk:List Int) (L':Sl),hO st o=some (op,de,lk)→lk.length≤k+1→Sep h0 h (aRow dv 1 L' lk::R)→
    (aI ((decide (op<(0:Int)))||(decide (de<(0:Int)))) (af (.bool false):M Value) (TF e op de L' t (t.n:Int) (IntKind.i64.wrap ((k:Int)+(1:Int))))) h (fun v h'=>v= .bool (match fT st (o::ops.drop (k+1)) with
   |some s=> !e||(s.1 == 0&&s.2.2.length == 0)
   |none=>false)∧Sep h0 h' R):=by
   intro h op de lk L' hm rH hs
   unfold fT eD
   rw[hm]
   unfold nok
   refine aE (fun hc=>?_) (fun hc=>?_)
   ·simp only[hc,if_true]
    exact⟨rfl,hs.drop⟩
   ·simp only[hc,Bool.false_eq_true,if_false]
    rw[hw]
    exact ih (op,de,lk) L' h (by omega) rH hs
  have none_:∀h,hO st o=none→Sep h0 h R→(af (.bool false):M Value) h (fun v h'=>v= .bool (match fT st (o::ops.drop (k+1)) with
   |some s=> !e||(s.1 == 0&&s.2.2.length == 0)
   |none=>false)∧Sep h0 h' R):=by
   intro h hm hs
   unfold fT eD
   rw[hm]
   exact⟨rfl,hs⟩
  have hdr:=hs.drop
  refine aE (fun h3=>?_) (fun h3=>?_)
  ·have h3:=Cq h3
   exact fin h _ _ _ L (by unfold hO;rw[if_pos h3]) (by omega) hdr
  have h3:=Fs h3
  refine aE (fun h4=>?_) (fun h4=>?_)
  ·have h4:=Cq h4
   exact fin h _ _ _ L (by unfold hO;rw[if_neg h3,if_pos h4]) (by omega) hdr
  have h4:=Fs h4
  refine aE (fun h5=>?_) (fun h5=>?_)
  ·have h5:=Cq h5
   refine d6B (by omega) (fun h hs hc=>?_) (fun h L' hs hc=>?_) st.2.2.length 0 h (Nat.zero_add _) rfl hs
   ·exact none_ h (by unfold hO;rw[if_neg h3,if_neg h4,if_pos h5,if_pos hc]) hs
   ·refine fin h _ _ _ L' (by unfold hO;rw[if_neg h3,if_neg h4,if_pos h5,hc];rfl) (by simp;omega) hs
  have h5:=Fs h5
  refine aE (fun h6=>?_) (fun h6=>?_)
  ·have h6:=Cq h6
   have hnm:hO st o=if st.2.2.getLast? =some o.a then some (st.1,st.2.1,st.2.2.dropLast) else none:=by unfold hO;rw[if_neg h3,if_neg h4,if_neg h5,if_pos h6]
   rw[ae,mF]
   by_cases hz:st.2.2=[]
   ·refine aM (by rw[hz];rfl) ?_
    rw[ak]
    refine aM rfl (none_ h (by rw[hnm,hz];rfl) hdr.drop)
   ·have hpos:0<st.2.2.length:=List.length_pos_iff.2 hz
    refine aA (by simp;omega) ?_
    rw[wrap64 _ (by omega),show ((st.2.2.length:Int)-1)=((st.2.2.length-1:Nat):Int) by omega]
    refine c4x (k:=1) hs rfl (i:=st.2.2.length-1) (by omega) ?_
    refine hs.aB 0 rfl rfl ?_
    rw[ak]
    have hgl:st.2.2.getLast? =some (st.2.2[st.2.2.length-1]'(by omega)):=by rw[List.getLast?_eq_getElem?,List.getElem?_eq_getElem (by omega)]
    refine aE (fun hc=>?_) (fun hc=>?_)
    ·refine none_ h ?_ hdr.drop
     rw[hnm,hgl,if_neg]
     simpa using hc
    ·refine hdr.slc 0 rfl (fun _=>rfl) (by omega) (by omega) (by omega) rfl fun s' hn' hs=>?_
     refine fin h _ _ _ s' (by rw[hnm,hgl,if_pos (by simpa using hc)]) (by simp;omega) ?_
     simp only[sz0,Int.toNat_natCast]at hs
     rw[List.dropLast_eq_take]
     simpa using hs
  have h6:=Fs h6
  refine aE (fun h7=>?_) (fun h7=>?_)
  ·have h7:=Cq h7
   (refine Sep.aB hs 0 rfl rfl ?_)
   exact fin h _ _ _ L (by unfold hO;rw[if_neg h3,if_neg h4,if_neg h5,if_neg h6,if_pos h7]) (by omega) hdr
  have h7:=Fs h7
  refine aE (fun h8=>?_) (fun h8=>?_)
  ·have h8:=Cq h8
   (refine Sep.aB hs 0 rfl rfl ?_)
   exact fin h _ _ _ L (by unfold hO;rw[if_neg h3,if_neg h4,if_neg h5,if_neg h6,if_neg h7,if_pos h8]) (by omega) hdr
  have h8:=Fs h8
  exact fin h _ _ _ L (by unfold hO;rw[if_neg h3,if_neg h4,if_neg h5,if_neg h6,if_neg h7,if_neg h8]) (by omega) hdr
theorem JF {t:Sl}{ops:List dG}(hr:fK h0.size h0 dM 3 t ops)(e:Bool)(zP:ops.length≤100)(hs:Sep h0 h R):a7V t e h (fun v h'=>v= .bool (match fT (0,0,[]) ops with
   |some s=> !e||(s.1 == 0&&s.2.2.length == 0)
   |none=>false)∧Sep h0 h' R):=by
 apply e6I
 unfold d4D
 exact b5M hr e zP ops.length 0 (0,0,[]) ⟨none,0,0⟩ h (Nat.zero_add _) (Nat.le_refl _) (hs.fw dv 1)
theorem ku {st:rG}:∀(l:List dG) (k:Nat) (hk:k<l.length),fT st (l.take (k+1))=match fT st (l.take k) with
  |some s=>eD s l[k]
  |none=>none:=by
 intro l
 induction l generalizing st with
 |nil=>intro k hk;simp at hk
 |cons o l ih=>
  intro k hk
  cases k with
  |zero=>
   simp only[List.take_succ_cons,List.take_zero,fT,List.getElem_cons_zero]
   cases eD st o<;>rfl
  |succ k=>
   rw[List.take_succ_cons,List.take_succ_cons]
   simp only[fT,List.getElem_cons_succ]
   cases eD st o with
   |none=>rfl
   |some s=>exact ih k (by simpa using hk)
theorem XJ {s s':rG}{o:dG}(h:eD s o=some s'):0≤s'.1:=by
 unfold eD at h
 cases hm:hO s o with
 |none=>rw[hm]at h;cases h
 |some q=>
  rw[hm]at h
  unfold nok at h
  simp only at h
  split at h
  ·cases h
  ·rename_i hc
   cases h
   simp at hc
   omega
theorem DB:∀(l:List dG) (s s':rG),0≤s.1→fT s l=some s'→0≤s'.1
 |[],s,s',h0,h=>by cases h;exact h0
 |o::l,s,s',h0,h=>by
  unfold fT at h
  cases hm:eD s o with
  |none=>rw[hm]at h;cases h
  |some q=>rw[hm]at h;exact DB l q s' (XJ hm) h
theorem JG {t:Sl}{ops:List dG}(hr:fK h0.size h0 dM 3 t ops)(hcap:t.n≤t.c)(bx gr ct ce:Int)(zP:ops.length≤64):∀(d k:Nat) (st:rG) (h:Hp),k+d=ops.length→fT (0,0,[]) (ops.take k)=some st→Sep h0 h R→
  a8e t bx gr ct ce t (t.n:Int) (k:Int) h (fun v h'=>v= .int .i64 (mZ bx gr ct ce st (ops.drop k))∧Sep h0 h' R)
 |0,k,st,h,hk,hst,hs=>by
  have hn:=hr.n
  rw[List.take_of_length_le (by omega)]at hst
  apply Sz8
  unfold Bz8
  refine aA (by simp;omega) ?_
  rw[List.drop_of_length_le (by omega),ae]
  refine (JF hr true (by omega) hs).mono ?_
  rintro v h ⟨rfl,hs⟩
  rw[hst]
  have hge:=DB ops _ st (Int.le_refl _) hst
  simp only[av,Bool.not_true,Bool.false_or]
  unfold mZ
  refine aE (fun hc=>?_) (fun hc=>?_)
  ·rw[if_pos]
   ·exact⟨rfl,hs⟩
   ·simp at hc ⊢
    by_cases hz:st.1=0
    ·exact .inr (List.length_pos_iff.2 (hc.resolve_left fun e=>e hz))
    ·exact .inl (by omega)
  ·rw[if_neg]
   ·exact⟨rfl,hs⟩
   ·simp at hc ⊢
    rw[hc.1,hc.2]
    simp
 |d+1,k,st,h,hk,hst,hs=>by
  have hn:=hr.n
  have eW:k<ops.length:=by omega
  have kv:=ku (st:=(0,0,[])) ops k eW
  rw[hst]at kv
  simp only at kv
  rw[List.drop_eq_getElem_cons eW]
  have hw:=dK k (by omega)
  apply Sz8
  unfold Bz8
  refine aM (by simp;omega) ?_
  refine hr.ix hs eW fun a ha=>?_
  generalize hoe:ops[k]=o at ha kv ⊢
  (refine Arg.mG ha rfl ?_;refine Arg.aB ha rfl ?_;refine Arg.aB ha rfl ?_;(refine Sep.new hs fun nb h hs=>?_;try simp only[sz2]at hs);(refine Sep.st hs 0 rfl rfl rfl fun h hs=>?_;simp only[sz0,sz1]at hs);(refine Sep.st hs 0 rfl rfl rfl fun h hs=>?_;simp only[sz0,sz1]at hs);(refine Sep.st hs 0 rfl rfl rfl fun h hs=>?_;simp only[sz0,sz1]at hs);refine Sep.aB hs 0 rfl rfl ?_;refine Sep.aB hs 0 rfl rfl ?_;refine Sep.aB hs 0 rfl rfl ?_;simp only[ae])
  refine (d6A o bx gr ct ce hs).mono ?_
  rintro v h ⟨rfl,hs⟩
  simp only[az]
  unfold mZ
  refine aE (fun hc=>?_) (fun hc=>?_)
  ·rw[if_pos (by simpa using hc)]
   exact⟨rfl,hs.drop⟩
  ·rw[if_neg (by simpa using hc),hw]
   refine hr.pre hcap (by omega) (by omega) rfl fun x hx hxc=>?_
   rw[Int.toNat_natCast]at hx
   rw[ae]
   refine (JF hx false (by simp;omega) hs.drop).mono ?_
   rintro v h ⟨rfl,hs⟩
   simp only[av]
   rw[kv]
   cases hq:eD st o with
   |none=>exact⟨rfl,hs⟩
   |some q=>
    refine aA rfl ?_
    refine JG hr hcap bx gr ct ce zP d (k+1) q h (by omega) ?_ hs
    rw[kv,hq]
theorem XK {t:Sl}{ops:List dG}(hr:fK h0.size h0 dM 3 t ops)(hcap:t.n≤t.c)(bx gr ct ce:Int)(hs:Sep h0 h R):b7B t bx gr ct ce h (fun v h'=>v= .int .i64 (lP ops bx gr ct ce)∧Sep h0 h' R):=by
 have hn:=hr.n
 apply e6t
 unfold d4h lP
 rw[hn]
 refine aE (fun hc=>?_) (fun hc=>?_)
 ·rw[if_pos (by simpa using hc)];exact⟨rfl,hs⟩
 ·rw[if_neg (by simpa using hc)]
  refine aE (fun hc=>?_) (fun hc=>?_)
  ·rw[if_pos (by simp at hc;omega)];exact⟨rfl,hs⟩
  ·rw[if_neg (by simp at hc;omega)]
   rw[←hn]
   exact JG hr hcap bx gr ct ce (by simp at hc;omega) ops.length 0 (0,0,[]) h (Nat.zero_add _) rfl hs
end
end Go.Proofs.YtnpinhahjgbigaaGreatDoor
end
section
namespace Go.Proofs.YtnpinhahjgbigaaGreatDoor
open Go Go.Sb
section
variable {h0 h:Hp}{R:List As}
theorem XL {L:List As}{k:Nat}{s:Sl}{xs:List Int}{v:Int}(hs:Sep h0 h L)(hk:L[k]? =some (aRow dv 1 s xs))(hl:xs.length≤1000):∀(d j:Nat),j+d=xs.length→(xs.take j).contains v=false→
  Kzy s v (s.n:Int) (j:Int) h (fun r h'=>∃z:Int,r= .int .i64 z∧decide (z≥0)=xs.contains v∧h'=h)
 |0,j,hj,hc=>by
  have hn:=hs.bn k hk
  rw[List.take_of_length_le (by omega)]at hc
  apply Sz0
  unfold Bz0
  refine aA (by simp;omega) ?_
  exact⟨-1,rfl,by rw[hc];rfl,rfl⟩
 |d+1,j,hj,hc=>by
  have ih:=XL (v:=v) hs hk hl d (j+1)
  have hn:=hs.bn k hk
  have hjl:j<xs.length:=by omega
  apply Sz0
  unfold Bz0
  refine aM (by simp;omega) ?_
  refine c4x (k:=k) hs hk hjl ?_
  refine aE (fun h1=>?_) (fun h1=>?_)
  ·refine⟨j,rfl,?_,rfl⟩
   have h1:=Cq h1
   have:xs.contains v=true:=by rw[List.contains_iff_mem,h1];exact List.getElem_mem hjl
   rw[this];simp
  ·rw[dK j (by omega)]
   refine ih (by omega) ?_
   have h1:=Fs h1
   rw[Bool.eq_false_iff]at hc ⊢
   intro hm
   rw[List.contains_iff_mem,List.take_succ_eq_append_getElem hjl,List.mem_append]at hm
   rcases hm with hm|hm
   ·exact hc (List.contains_iff_mem.2 hm)
   ·simp at hm
    exact h1 hm
theorem Ga {L:List As}{k:Nat}{s:Sl}{xs:List Int}(v:Int)(hs:Sep h0 h L)(hk:L[k]? =some (aRow dv 1 s xs))(hl:xs.length≤1000):b7L s v h (fun r h'=>r= .bool (xs.contains v)∧h'=h):=by
 apply e7f
 unfold d6s
 rw[ae]
 apply Szf
 unfold Bzf
 refine (XL hs hk hl xs.length 0 (Nat.zero_add _) rfl).mono ?_
 rintro v h ⟨z,rfl,hz,rfl⟩
 simp only[az]
 rw[hz]
 exact⟨rfl,rfl⟩
abbrev nB (n:Nat)(st:rG)(L:Sl):As:=aBlk n [.int .i64 st.1,.int .i64 st.2.1,.slice L.p L.n L.c]
theorem c4y {n:Nat}{st:rG}{L:Sl}(hs:Sep h0 h (nB n st L::aRow dv 1 L st.2.2::R)):TG (some ⟨n,0,none⟩) h (fun v h'=>match nok st with
   |some s=>v= .bool true∧∃L,Sep h0 h' (nB n s L::aRow dv 1 L s.2.2::R)
   |none=>v= .bool false∧Sep h0 h' R):=by
 apply e6P
 unfold d4L
 (simp only[au,ay,Nat.zero_add];refine Sep.aB hs 0 rfl rfl ?_;simp only[ae])
 unfold nok
 refine aE (fun hc=>?_) (fun hc=>?_)
 ·(refine Sep.aB hs 0 rfl rfl ?_;rw[ak])
  by_cases h2:st.2.1≥0
  ·rw[decide_eq_true h2,if_neg (by simp at hc;simp;omega)]
   exact⟨rfl,L,hs⟩
  ·rw[decide_eq_false h2,if_pos (by simp;omega)]
   exact⟨rfl,hs.drop.drop⟩
 ·(rw[ak])
  rw[if_pos (by simp at hc;simp;omega)]
  exact⟨rfl,hs.drop.drop⟩
theorem a8Q {n:Nat}{st:rG}{L:Sl}(o:dG)(hl:st.2.2.length≤300)(hs:Sep h0 h (nB n st L::aRow dv 1 L st.2.2::R)):b7H (some ⟨n,0,none⟩) o.k o.a o.b h (fun v h'=>match eD st o with
   |some s=>v= .bool true∧∃L,Sep h0 h' (nB n s L::aRow dv 1 L s.2.2::R)
   |none=>v= .bool false∧Sep h0 h' R):=by
 obtain⟨op,de,lk⟩:=st
 have mF:=hs.bn 1 rfl
 apply e6O
 unfold d4K
 refine Sep.new hs fun x h hs=>?_
 simp only[sz2]at hs hl mF
 have go:∀h (s:rG) L',hO (op,de,lk) o=some s→Sep h0 h (nB n s L'::aRow dv 1 L' s.2.2::R)→TG (some ⟨n,0,none⟩) h (fun v h'=>match eD (op,de,lk) o with
   |some s=>v= .bool true∧∃L,Sep h0 h' (nB n s L::aRow dv 1 L s.2.2::R)
   |none=>v= .bool false∧Sep h0 h' R):=by
  intro h s L' hm hs
  unfold eD
  rw[hm]
  exact c4y hs
 have none_:∀h,hO (op,de,lk) o=none→Sep h0 h R→(af (.bool false):M Value) h (fun v h'=>match eD (op,de,lk) o with
   |some s=>v= .bool true∧∃L,Sep h0 h' (nB n s L::aRow dv 1 L s.2.2::R)
   |none=>v= .bool false∧Sep h0 h' R):=by
  intro h hm hs
  unfold eD
  rw[hm]
  exact⟨rfl,hs⟩
 (refine Sep.aB hs 0 rfl rfl ?_;simp only[au,ay,Nat.zero_add])
 refine aE (fun h3=>?_) (fun h3=>?_)
 ·have h3:=Cq h3
  (refine Sep.aB hs 1 rfl rfl ?_;(refine Sep.st hs 1 rfl rfl rfl fun h hs=>?_;simp only[sz0,sz1]at hs))
  exact go h (IntKind.i64.wrap (op+1),de,lk) L (by unfold hO;rw[if_pos h3]) hs.drop
 have h3:=Fs h3
 refine aE (fun h4=>?_) (fun h4=>?_)
 ·have h4:=Cq h4
  (refine Sep.aB hs 1 rfl rfl ?_;(refine Sep.st hs 1 rfl rfl rfl fun h hs=>?_;simp only[sz0,sz1]at hs))
  exact go h (IntKind.i64.wrap (op-1),de,lk) L (by unfold hO;rw[if_neg h3,if_pos h4]) hs.drop
 have h4:=Fs h4
 by_cases h5:o.k=5
 ·have hnm:hO (op,de,lk) o=if lk.contains o.a then none else some (op,de,lk++[o.a]):=by unfold hO;rw[if_neg h3,if_neg h4,if_pos h5]
  refine aA (XI (by omega)) ?_
  refine aA (XI (by omega)) ?_
  refine aM (by simpa using h5) ?_
  (refine Sep.bu hs 1 rfl rfl ?_;refine Sep.aB hs 0 rfl rfl ?_)
  refine jo _ (Ga o.a hs (k:=2) rfl (by omega)) ?_
  simp only[av]
  refine aE (fun hc=>?_) (fun hc=>?_)
  ·exact none_ h (by rw[hnm,if_pos hc]) hs.drop.drop.drop
  ·have fin:∀h L',Sep h0 h (aBlk n [.int .i64 op,.int .i64 de,.slice L'.p L'.n L'.c]::aRow dv 1 L' (lk++[o.a])::R)→_:=fun h L' hs=>go h (op,de,lk++[o.a]) L' (by rw[hnm,if_neg (by rw[hc];decide)]) hs
   repeat' (first|with_reducible refine aK ?_ ?_|(first|(((with_reducible refine jT ?_);refine Sep.bu hs 1 rfl rfl ?_))|(((with_reducible refine cW ?_);refine Sep.aB hs 0 rfl rfl ?_))|(((with_reducible refine Jk ?_);(refine Sep.new hs fun nb h hs=>?_;try simp only[sz2]at hs)))|(((with_reducible refine a7U ?_);(refine Sep.lE hs 3 0 _ rfl rfl (fun _=>rfl) (by simp[Value.oneCell']) rfl (by omega) (by first|omega|(simp only[List.length_set,List.length_map,List.length_replicate,List.length_append,List.length_cons,List.length_nil,List.length_reverse,List.length_range];omega)|(simp;omega)) fun sl h XM hs=>?_;simp only[sz0,sz1]at hs)))|(((with_reducible refine jE ?_);(refine Sep.st hs 2 rfl rfl rfl fun h hs=>?_;simp only[sz0,sz1]at hs)))|(((with_reducible refine jT ?_);refine Sep.bu hs 2 rfl rfl ?_)))|(refine hs.lE 3 0 o.a rfl rfl (fun _=>rfl) (by intro v hv;simp at hv;subst hv;rfl) rfl (by omega) (by omega) fun s' h hn' hs=>?_;simp only[sz1,sz0]at hs))
   all_goals exact fin h _ hs.drop.drop
 by_cases h6:o.k=6
 ·have hnm:hO (op,de,lk) o=if lk.getLast? =some o.a then some (op,de,lk.dropLast) else none:=by unfold hO;rw[if_neg h3,if_neg h4,if_neg h5,if_pos h6]
  refine aA (XI (by omega)) ?_
  refine aA (XI (by omega)) ?_
  refine aA (XI (by omega)) ?_
  refine aM (by simpa using h6) ?_
  (refine Sep.bu hs 1 rfl rfl ?_;simp only[ae])
  rw[mF]
  by_cases hz:lk=[]
  ·subst hz
   refine aM (by decide) ?_
   (rw[ak];simp only[aq])
   exact none_ h (by rw[hnm];rfl) hs.drop.drop.drop
  ·have hpos:0<lk.length:=List.length_pos_iff.2 hz
   have hw:IntKind.i64.wrap ((lk.length:Int)-1)=((lk.length-1:Nat):Int):=by rw[wrap64 _ (by omega)];omega
   rw[hw]
   refine aA (by simp) ?_
   (refine Sep.bu hs 1 rfl rfl ?_;(refine Sep.idx hs 2 rfl (by first|omega|(simp only[List.length_set,List.length_map,List.length_replicate,List.length_append,List.length_cons,List.length_nil,List.length_reverse,List.length_range];omega)|(simp;omega)) (by first|omega|(simp only[List.length_set,List.length_map,List.length_replicate,List.length_append,List.length_cons,List.length_nil,List.length_reverse,List.length_range];omega)|(simp;omega)) fun aa sV=>?_;try simp only[Int.toNat_natCast]at sV);refine Sep.fR hs 2 rfl (fun _=>rfl) sV (List.getElem?_eq_getElem (by first|omega|(simp only[List.length_set,List.length_map,List.length_replicate,List.length_append,List.length_cons,List.length_nil,List.length_reverse,List.length_range];omega)|(simp;omega))) rfl ?_;refine Sep.aB hs 0 rfl rfl ?_;rw[ak])
   have hgl:lk.getLast? =some (lk[lk.length-1]'(by omega)):=by rw[List.getLast?_eq_getElem?,List.getElem?_eq_getElem (by omega)]
   refine aE (fun hc=>?_) (fun hc=>?_)
   ·refine none_ h ?_ hs.drop.drop.drop
    rw[hnm,hgl,if_neg]
    simpa using hc
   ·(refine Sep.bu hs 1 rfl rfl ?_)
    refine hs.slc 2 rfl (fun _=>rfl) (by omega) (by omega) (by omega) rfl fun s' hn' hs=>?_
    simp only[sz1,sz0,Int.toNat_natCast]at hs
    ((refine Sep.st hs 1 rfl rfl rfl fun h hs=>?_;simp only[sz0,sz1]at hs))
    refine go h (op,de,lk.dropLast) s' (by rw[hnm,hgl,if_pos (by simpa using hc)]) ?_
    rw[List.dropLast_eq_take]
    have:=hs.drop
    simpa using this
 refine aE (fun h7=>?_) (fun h7=>?_)
 ·have h7:=Cq h7
  (refine Sep.aB hs 1 rfl rfl ?_;refine Sep.aB hs 0 rfl rfl ?_;(refine Sep.st hs 1 rfl rfl rfl fun h hs=>?_;simp only[sz0,sz1]at hs))
  exact go h (op,IntKind.i64.wrap (de+o.a),lk) L (by unfold hO;rw[if_neg h3,if_neg h4,if_neg h5,if_neg h6,if_pos h7]) hs.drop
 have h7:=Fs h7
 refine aE (fun h8=>?_) (fun h8=>?_)
 ·have h8:=Cq h8
  (refine Sep.aB hs 1 rfl rfl ?_;refine Sep.aB hs 0 rfl rfl ?_;(refine Sep.st hs 1 rfl rfl rfl fun h hs=>?_;simp only[sz0,sz1]at hs))
  exact go h (op,IntKind.i64.wrap (de-o.a),lk) L (by unfold hO;rw[if_neg h3,if_neg h4,if_neg h5,if_neg h6,if_neg h7,if_pos h8]) hs.drop
 have h8:=Fs h8
 refine aA (XI (by omega)) ?_
 refine aA (XI (by omega)) ?_
 exact go h (op,de,lk) L (by unfold hO;rw[if_neg h3,if_neg h4,if_neg h5,if_neg h6,if_neg h7,if_neg h8]) hs.drop
theorem Qy {s s':rG}{o:dG}(h:eD s o=some s'):s'.2.2.length≤s.2.2.length+1:=by
 unfold eD at h
 cases hm:hO s o with
 |none=>rw[hm]at h;cases h
 |some q=>
  rw[hm]at h
  unfold nok at h
  simp only at h
  split at h
  ·cases h
  ·cases h
   unfold hO at hm
   repeat' split at hm
   all_goals first|(cases hm;done)|(cases hm;simp;try omega)
theorem JH {t:Sl}{ops:List dG}(hr:fK h0.size h0 dM 3 t ops)(bx gr ct ce:Int)(zP:ops.length≤64){r n:Nat}:∀(d k:Nat) (st:rG) (L:Sl) (h:Hp),k+d=ops.length→st.2.2.length≤k→Sep h0 h (nB n st L::aRow dv 1 L st.2.2::aBlk r [.int .i64 bx,.int .i64 gr,.int .i64 ct,.int .i64 ce]::R)→
  a8f ⟨r,0,none⟩ ⟨n,0,none⟩ t (t.n:Int) (k:Int) h (fun v h'=>v= .int .i64 (mZ bx gr ct ce st (ops.drop k))∧Sep h0 h' R)
 |0,k,st,L,h,hk,hl,hs=>by
  have hn:=hr.n
  have mF:=hs.bn 1 rfl
  apply Sz9
  unfold Bz9
  refine aA (by simp;omega) ?_
  rw[List.drop_of_length_le (by omega)]
  (refine Sep.aB hs 0 rfl rfl ?_;simp only[ay,Nat.zero_add,ae])
  unfold mZ
  refine aE (fun hc=>?_) (fun hc=>?_)
  ·(rw[ak];simp only[aq])
   rw[if_pos (by rw[hc];rfl)]
   exact⟨rfl,hs.drop.drop.drop⟩
  ·(refine Sep.bu hs 0 rfl rfl ?_;rw[ak])
   rw[mF]
   refine aE (fun h2=>?_) (fun h2=>?_)
   ·rw[if_pos (by simp at h2 ⊢;omega)]
    exact⟨rfl,hs.drop.drop.drop⟩
   ·rw[if_neg (by simp at h2 hc ⊢;exact⟨hc,h2⟩)]
    exact⟨rfl,hs.drop.drop.drop⟩
 |d+1,k,st,L,h,hk,hl,hs=>by
  have hn:=hr.n
  have eW:k<ops.length:=by omega
  rw[List.drop_eq_getElem_cons eW]
  have hw:=dK k (by omega)
  apply Sz9
  unfold Bz9
  refine aM (by simp;omega) ?_
  refine hr.ix hs eW fun a ha=>?_
  generalize hoe:ops[k]=o at ha ⊢
  (refine Arg.mG ha rfl ?_;refine Arg.aB ha rfl ?_;refine Arg.aB ha rfl ?_;(refine Sep.new hs fun nb h hs=>?_;try simp only[sz2]at hs);(refine Sep.st hs 0 rfl rfl rfl fun h hs=>?_;simp only[sz0,sz1]at hs);(refine Sep.st hs 0 rfl rfl rfl fun h hs=>?_;simp only[sz0,sz1]at hs);(refine Sep.st hs 0 rfl rfl rfl fun h hs=>?_;simp only[sz0,sz1]at hs);refine Sep.aB hs 0 rfl rfl ?_;refine Sep.aB hs 0 rfl rfl ?_;refine Sep.aB hs 0 rfl rfl ?_;refine Sep.aB hs 3 rfl rfl ?_;refine Sep.aB hs 3 rfl rfl ?_;refine Sep.aB hs 3 rfl rfl ?_;refine Sep.aB hs 3 rfl rfl ?_;simp only[ay,Nat.zero_add,ae])
  refine (d6z o bx gr ct ce hs).mono ?_
  rintro v h ⟨rfl,hs⟩
  simp only[az]
  unfold mZ
  refine aE (fun hc=>?_) (fun hc=>?_)
  ·rw[if_pos (by simpa using hc)]
   exact⟨rfl,hs.drop.drop.drop.drop⟩
  ·rw[if_neg (by simpa using hc),hw]
   (refine Sep.aB hs 0 rfl rfl ?_;refine Sep.aB hs 0 rfl rfl ?_;refine Sep.aB hs 0 rfl rfl ?_;simp only[ae])
   refine (a8Q o (by omega) (hs.jN 4 [1,2,0,3] rfl (by simp))).mono ?_
   intro v h hv
   cases hq:eD st o with
   |none=>
    rw[hq]at hv
    obtain⟨rfl,hs⟩:=hv
    exact⟨rfl,hs.drop.drop⟩
   |some q=>
    rw[hq]at hv
    obtain⟨rfl,L',hs⟩:=hv
    simp only[av]
    refine aA rfl ?_
    have hql:=Qy hq
    exact JH hr bx gr ct ce zP d (k+1) q L' h (by omega) (by omega) ((hs.jN 4 [2,0,1,3] rfl (by simp)).drop)
theorem XN {t:Sl}{ops:List dG}(hr:fK h0.size h0 dM 3 t ops)(bx gr ct ce:Int)(hs:Sep h0 h R):Nzw t bx gr ct ce h (fun v h'=>v= .int .i64 (lP ops bx gr ct ce)∧Sep h0 h' R):=by
 have hn:=hr.n
 apply e6w
 unfold d4n lP
 refine Sep.new hs fun r h hs=>?_
 simp only[sz2]at hs
 rw[hn]
 refine aE (fun hc=>?_) (fun hc=>?_)
 ·rw[if_pos (by simpa using hc)];exact⟨rfl,hs.drop⟩
 ·rw[if_neg (by simpa using hc)]
  refine aE (fun hc=>?_) (fun hc=>?_)
  ·rw[if_pos (by simp at hc;omega)];exact⟨rfl,hs.drop⟩
  ·rw[if_neg (by simp at hc;omega)]
   refine Sep.new hs fun n h hs=>?_
   simp only[sz2]at hs
   rw[←hn]
   exact JH hr bx gr ct ce (by simp at hc;omega) ops.length 0 (0,0,[]) ⟨none,0,0⟩ h (Nat.zero_add _) (Nat.le_refl _) ((hs.fw dv 1).swap)
end
end Go.Proofs.YtnpinhahjgbigaaGreatDoor
end
section
namespace Go.Proofs.YtnpinhahjgbigaaGreatDoor
open Go Go.Sb
set_option maxRecDepth 100000
section
variable {h0 h:Hp}{R L:List As}
theorem qR {X:Type}{xs:List X}{p:X→Bool}{j:Nat}(hj:j<xs.length)(hc:(xs.take j).any p=false)(h1:p (xs[j]'hj)=false):(xs.take (j+1)).any p=false:=by
 rw[List.take_succ_eq_append_getElem hj,List.any_append,hc];simp[h1]
theorem qS {X:Type}{xs:List X}{p:X→Bool}{j:Nat}(hj:j<xs.length)(h1:p (xs[j]'hj)=true):xs.any p=true:=List.any_eq_true.2 ⟨_,List.getElem_mem hj,h1⟩
theorem b5N {s:Sl}{xs:List Int}{p:Int→Bool}{g:Nat}{fv cp:Array Value}(hr:fK h0.size h0 dv 1 s xs)(hl:xs.length≤1000)
  (hf:∀n h,n∈xs→Sep h0 h L→Nf Tryz.prog g (fv++ #[.int .i64 n]++cp) h (fun v h'=>v= .bool (p n)∧Sep h0 h' L)):∀(d j:Nat) (h:Hp),j+d=xs.length→(xs.take j).any p=false→Sep h0 h L→
  a8i s g fv cp (s.n:Int) (j:Int) h (fun r h'=>∃z:Int,r= .int .i64 z∧decide (z≥0)=xs.any p∧Sep h0 h' L)
 |0,j,h,hj,hc,hs=>by
  have hn:=hr.n
  rw[List.take_of_length_le (by omega)]at hc
  apply Szc
  unfold Bzc
  refine aA (by simp;omega) ?_
  exact⟨-1,rfl,by rw[hc];rfl,hs⟩
 |d+1,j,h,hj,hc,hs=>by
  have ih:=b5N hr hl hf d (j+1)
  have hn:=hr.n
  have hjl:j<xs.length:=by omega
  apply Szc
  unfold Bzc
  refine aM (by simp;omega) ?_
  refine hr.ix hs hjl fun a ha=>?_
  refine ha.mG rfl ?_
  rw[ae]
  refine (hf _ h (List.getElem_mem hjl) hs).mono ?_
  rintro v h ⟨rfl,hs⟩
  simp only[av]
  refine aE (fun h1=>?_) (fun h1=>?_)
  ·exact⟨j,rfl,by rw[qS hjl h1];simp,hs⟩
  ·rw[dK j (by omega)]
   exact ih h (by omega) (qR hjl hc h1) hs
theorem d6C {s:Sl}{xs:List Int}{p:Int→Bool}{g:Nat}{fv cp:Array Value}(hr:fK h0.size h0 dv 1 s xs)(hl:xs.length≤1000)
  (hf:∀n h,n∈xs→Sep h0 h L→Nf Tryz.prog g (fv++ #[.int .i64 n]++cp) h (fun v h'=>v= .bool (p n)∧Sep h0 h' L)) (hs:Sep h0 h L):b7C s g fv cp h (fun v h'=>v= .bool (xs.any p)∧Sep h0 h' L):=by
 apply e6u
 unfold d4l
 rw[ae]
 apply e6J
 unfold d4E
 refine (b5N hr hl hf xs.length 0 h (Nat.zero_add _) rfl hs).mono ?_
 rintro v h ⟨z,rfl,hz,hs⟩
 simp only[az]
 rw[hz]
 exact⟨rfl,hs⟩
theorem b5O {s:Sl}{xs:List dG}{p:dG→Bool}{g:Nat}{fv cp:Array Value}(hr:fK h0.size h0 dM 3 s xs)(hl:xs.length≤1000)
  (hf:∀o h,o∈xs→Sep h0 h L→Nf Tryz.prog g (fv++ #[.agg #[.int .i64 o.k,.int .i64 o.a,.int .i64 o.b]]++cp) h (fun v h'=>v= .bool (p o)∧Sep h0 h' L)):∀(d j:Nat) (h:Hp),j+d=xs.length→(xs.take j).any p=false→Sep h0 h L→
  a8v s g fv cp (s.n:Int) (j:Int) h (fun r h'=>∃z:Int,r= .int .i64 z∧decide (z≥0)=xs.any p∧Sep h0 h' L)
 |0,j,h,hj,hc,hs=>by
  have hn:=hr.n
  rw[List.take_of_length_le (by omega)]at hc
  apply Szd
  unfold Bzd
  refine aA (by simp;omega) ?_
  exact⟨-1,rfl,by rw[hc];rfl,hs⟩
 |d+1,j,h,hj,hc,hs=>by
  have ih:=b5O hr hl hf d (j+1)
  have hn:=hr.n
  have hjl:j<xs.length:=by omega
  apply Szd
  unfold Bzd
  refine aM (by simp;omega) ?_
  refine hr.ix hs hjl fun a ha=>?_
  (refine Arg.mG ha rfl ?_;refine Arg.aB ha rfl ?_;refine Arg.aB ha rfl ?_;simp only[ae])
  refine (hf _ h (List.getElem_mem hjl) hs).mono ?_
  rintro v h ⟨rfl,hs⟩
  simp only[av]
  refine aE (fun h1=>?_) (fun h1=>?_)
  ·exact⟨j,rfl,by rw[qS hjl h1];simp,hs⟩
  ·rw[dK j (by omega)]
   exact ih h (by omega) (qR hjl hc h1) hs
theorem d6D {s:Sl}{xs:List dG}{p:dG→Bool}{g:Nat}{fv cp:Array Value}(hr:fK h0.size h0 dM 3 s xs)(hl:xs.length≤1000)
  (hf:∀o h,o∈xs→Sep h0 h L→Nf Tryz.prog g (fv++ #[.agg #[.int .i64 o.k,.int .i64 o.a,.int .i64 o.b]]++cp) h (fun v h'=>v= .bool (p o)∧Sep h0 h' L)) (hs:Sep h0 h L):b7D s g fv cp h (fun v h'=>v= .bool (xs.any p)∧Sep h0 h' L):=by
 apply e6z
 unfold d4u
 rw[ae]
 apply e6Q
 unfold d4M
 refine (b5O hr hl hf xs.length 0 h (Nat.zero_add _) rfl hs).mono ?_
 rintro v h ⟨z,rfl,hz,hs⟩
 simp only[az]
 rw[hz]
 exact⟨rfl,hs⟩
theorem b5P {s:Sl}{xs:List (cx×Sl)}{p:cx×Sl→Bool}{g:Nat}{fv cp:Array Value}(hr:fK h0.size h0 lO 7 s xs)(hl:xs.length≤1000)
  (hf:∀o h,o∈xs→Sep h0 h L→Nf Tryz.prog g (fv++ #[.agg #[.int .i64 o.1.pr,.int .i64 o.1.th,.int .i64 o.1.pe,.int .i64 o.1.de,.int .i64 o.1.fr,.int .i64 o.1.fl,.slice o.2.p o.2.n o.2.c]]++cp) h (fun v h'=>v= .bool (p o)∧Sep h0 h' L)):∀(d j:Nat) (h:Hp),j+d=xs.length→(xs.take j).any p=false→Sep h0 h L→
  a8w s g fv cp (s.n:Int) (j:Int) h (fun r h'=>∃z:Int,r= .int .i64 z∧decide (z≥0)=xs.any p∧Sep h0 h' L)
 |0,j,h,hj,hc,hs=>by
  have hn:=hr.n
  rw[List.take_of_length_le (by omega)]at hc
  apply Sze
  unfold Bze
  refine aA (by simp;omega) ?_
  exact⟨-1,rfl,by rw[hc];rfl,hs⟩
 |d+1,j,h,hj,hc,hs=>by
  have ih:=b5P hr hl hf d (j+1)
  have hn:=hr.n
  have hjl:j<xs.length:=by omega
  apply Sze
  unfold Bze
  refine aM (by simp;omega) ?_
  refine hr.ix hs hjl fun a ha=>?_
  (refine Arg.mG ha rfl ?_;refine Arg.aB ha rfl ?_;refine Arg.aB ha rfl ?_;refine Arg.aB ha rfl ?_;refine Arg.aB ha rfl ?_;refine Arg.aB ha rfl ?_;refine Arg.bu ha rfl ?_;simp only[ae])
  refine (hf _ h (List.getElem_mem hjl) hs).mono ?_
  rintro v h ⟨rfl,hs⟩
  simp only[av]
  refine aE (fun h1=>?_) (fun h1=>?_)
  ·exact⟨j,rfl,by rw[qS hjl h1];simp,hs⟩
  ·rw[dK j (by omega)]
   exact ih h (by omega) (qR hjl hc h1) hs
theorem d6E {s:Sl}{xs:List (cx×Sl)}{p:cx×Sl→Bool}{g:Nat}{fv cp:Array Value}(hr:fK h0.size h0 lO 7 s xs)(hl:xs.length≤1000)
  (hf:∀o h,o∈xs→Sep h0 h L→Nf Tryz.prog g (fv++ #[.agg #[.int .i64 o.1.pr,.int .i64 o.1.th,.int .i64 o.1.pe,.int .i64 o.1.de,.int .i64 o.1.fr,.int .i64 o.1.fl,.slice o.2.p o.2.n o.2.c]]++cp) h (fun v h'=>v= .bool (p o)∧Sep h0 h' L)) (hs:Sep h0 h L):b7E s g fv cp h (fun v h'=>v= .bool (xs.any p)∧Sep h0 h' L):=by
 apply e6A
 unfold d4v
 rw[ae]
 apply e6R
 unfold d4N
 refine (b5P hr hl hf xs.length 0 h (Nat.zero_add _) rfl hs).mono ?_
 rintro v h ⟨z,rfl,hz,hs⟩
 simp only[az]
 rw[hz]
 exact⟨rfl,hs⟩
theorem nF {s:Sl}{xs:List Int}(a b:Int)(hr:fK h0.size h0 dv 1 s xs)(hl:xs.length≤1000)(hs:Sep h0 h R):CY a b s h (fun v h'=>v= .bool (lF xs a b)∧Sep h0 h' R):=by
 apply e6p
 unfold d3V
 refine Sep.new hs fun x h hs=>?_
 refine Sep.new hs fun y h hs=>?_
 simp only[sz2]at hs
 rw[ae]
 refine (d6C (p:=fun n=>decide (n<a)||decide (n>b)) hr hl (fun n h _ hs=>?_) hs).mono ?_
 ·have:d3p n (some ⟨x,0,none⟩) (some ⟨y,0,none⟩) h (fun v h'=>v= .bool (decide (n<a)||decide (n>b))∧Sep h0 h' (aBlk y [.int .i64 b]::aBlk x [.int .i64 a]::R)):=by
   apply e6v
   unfold d4m
   (simp only[au];refine Sep.aB hs 1 rfl rfl ?_;simp only[ae])
   refine aE (fun hc=>?_) (fun hc=>?_)
   ·(rw[ak])
    rw[hc]
    exact⟨rfl,hs⟩
   ·(refine Sep.aB hs 0 rfl rfl ?_;rw[ak])
    rw[hc]
    exact⟨rfl,hs⟩
  exact this
 ·rintro v h ⟨rfl,hs⟩
  simp only[av]
  refine⟨?_,hs.drop.drop⟩
  congr 1
  unfold lF gO
  rw[Bool.eq_iff_iff]
  simp only[Bool.not_eq_true',List.any_eq_false,List.all_eq_true,Bool.or_eq_true,Bool.and_eq_true,decide_eq_true_eq,not_or]
  constructor
  ·intro h x hx
   have:=h x hx
   omega
  ·intro h x hx
   have:=h x hx
   omega
theorem fk {b:Nat}{z:Int}(a c:Int)(hs:Sep h0 h (aBlk b [.int .i64 z]::R)):CY a c ⟨some ⟨b,0,none⟩,1,1⟩ h (fun v h'=>v= .bool (gO z a c)∧Sep h0 h' R):=by
 have hs:=kO.row (enc:=dv) (xs:=[z]) (sz:=1) (n:=1) hs 0 rfl rfl rfl
 simp only[sz0]at hs
 refine (nF a c (hs.Us 0 rfl (fun _=>rfl) (by omega)) (by simp) (Sep.init h)).mono ?_
 rintro v h' ⟨rfl,CW⟩
 refine⟨by simp[lF],(hs.more CW.under).drop⟩
theorem Qz (C:bw)(hs:Sep h0 h R):b7A C.sets C.ways C.hit C.bT h (fun v h'=>v= .bool (lQ C)∧Sep h0 h' R):=by
 apply e6o
 unfold d3U lQ
 refine Sep.new hs fun x h hs=>?_
 simp only[sz2]at hs
 (refine Sep.aB hs 0 rfl rfl ?_;(refine Sep.new hs fun nb h hs=>?_;try simp only[sz2]at hs);simp only[ay,Nat.zero_add,ae])
 refine (fk _ _ hs).mono ?_
 rintro v h ⟨rfl,hs⟩
 cases h1:gO C.sets 1 16
 ·(simp only[Bool.false_and,av,aj,ae];rw[ak];simp only[aj];rw[ak];simp only[aj];rw[ak])
  exact⟨rfl,hs.drop⟩
 (simp only[Bool.true_and,av,aq,ae];refine Sep.aB hs 0 rfl rfl ?_;(refine Sep.new hs fun qQ h hs=>?_;try simp only[sz2]at hs);simp only[ae])
 refine (fk _ _ hs).mono ?_
 rintro v h ⟨rfl,hs⟩
 cases h2:gO C.ways 1 4
 ·(simp only[Bool.false_and,av];rw[ak];simp only[aj];rw[ak];simp only[aj];rw[ak])
  exact⟨rfl,hs.drop⟩
 (simp only[Bool.true_and,av];rw[ak];simp only[aq];refine Sep.aB hs 0 rfl rfl ?_;(refine Sep.new hs fun c4z h hs=>?_;try simp only[sz2]at hs);simp only[ae])
 refine (fk _ _ hs).mono ?_
 rintro v h ⟨rfl,hs⟩
 cases h3:gO C.hit 1 100
 ·(simp only[Bool.false_and,av];rw[ak];simp only[aj];rw[ak])
  exact⟨rfl,hs.drop⟩
 (simp only[Bool.true_and,av];rw[ak];simp only[aq];refine Sep.aB hs 0 rfl rfl ?_;refine Sep.aB hs 0 rfl rfl ?_;(refine Sep.new hs fun e7m h hs=>?_;try simp only[sz2]at hs);simp only[ae])
 refine (fk _ _ hs).mono ?_
 rintro v h ⟨rfl,hs⟩
 (simp only[av];rw[ak])
 exact⟨rfl,hs.drop⟩
abbrev A5 (t:cx)(o:Sl):List Value:=lO (t,o)
theorem c4A (C:bw){sm sc se st sl:Sl}(hs:Sep h0 h R):Nzx C.sets C.ways C.hit C.bT sm C.groups sc se st sl h (fun v h'=>v= .agg #[.int .i64 (sm.n:Int),.int .i64 C.groups,.int .i64 (sc.n:Int),.int .i64 (se.n:Int)]∧Sep h0 h' R):=by
 apply e6x
 unfold d4q
 ((refine Sep.new hs fun nb h hs=>?_;try simp only[sz2]at hs);(refine Sep.new hs fun qQ h hs=>?_;try simp only[sz2]at hs);refine Sep.bu hs 1 rfl rfl ?_;refine Sep.aB hs 1 rfl rfl ?_;refine Sep.bu hs 1 rfl rfl ?_;refine Sep.bu hs 1 rfl rfl ?_;(refine Sep.st hs 0 rfl rfl rfl fun h hs=>?_;simp only[sz0,sz1]at hs);(refine Sep.st hs 0 rfl rfl rfl fun h hs=>?_;simp only[sz0,sz1]at hs);(refine Sep.st hs 0 rfl rfl rfl fun h hs=>?_;simp only[sz0,sz1]at hs);(refine Sep.st hs 0 rfl rfl rfl fun h hs=>?_;simp only[sz0,sz1]at hs);refine Sep.aB hs 0 rfl rfl ?_;refine Sep.aB hs 0 rfl rfl ?_;refine Sep.aB hs 0 rfl rfl ?_;refine Sep.aB hs 0 rfl rfl ?_)
 exact⟨rfl,hs.drop.drop⟩
theorem zQ {bx gr ct ce:Int}:∀(l:List dG) (s:rG),mZ bx gr ct ce s l=0→∀o∈l,yd o bx gr ct ce=0
 |[],s,h,o,ho=>by cases ho
 |q::l,s,h,o,ho=>by
  unfold mZ at h
  by_cases hq:yd q bx gr ct ce=0
  ·rw[if_neg (by simpa using hq)]at h
   cases hn:eD s q with
   |none=>rw[hn]at h;cases h
   |some s'=>
    rw[hn]at h
    rcases List.mem_cons.1 ho with rfl|ho
    ·exact hq
    ·exact zQ l s' h o ho
  ·rw[if_pos hq]at h
   exact absurd h hq
theorem vz {l:List dG}{bx gr ct ce:Int}(h:lP l bx gr ct ce=0):l.length≤64∧∀o∈l,yd o bx gr ct ce=0:=by
 unfold lP at h
 split at h
 ·cases h
 ·split at h
  ·cases h
  ·exact⟨by omega,zQ l _ h⟩
theorem JI {o:dG}{bx gr ct:Int}{n:Nat}(hn:n≤1000)(h:yd o bx gr ct (n:Int)=0)(hk:o.k=5):0≤o.a∧o.a<n:=by
 unfold yd at h
 split at h
 ·cases h
 ·split at h
  ·rename_i h2
   rw[Bool.and_eq_true]at h2
   have:=h2.1
   unfold opA gO at this
   rw[hk]at this
   simp only[show ¬(5:Int)=1 by decide,show ¬(5:Int)=2 by decide,show ¬((5:Int)=3∨(5:Int)=4) by decide,show ((5:Int)=5∨(5:Int)=6) by decide,if_true,if_false]at this
   rw[wrap64 _ (by omega)]at this
   simp at this
   omega
  ·cases h
theorem d6F {C:bw}{t:cx}{o:Sl}{sm sc se st sl:Sl}{c3 t4:Nat}{ahs:Sl}{ah:List (cx×Sl)}(hce:mr h0.size h0 .i64 se C.bP)(mC:C.bP.length≤1000)(hop:fK h0.size h0 dM 3 o t.ops)(hah:fK h0.size h0 lO 7 ahs ah)(hal:ah.length≤100)
  (hv:fy t=true) (hs:Sep h0 h (aBlk t4 (A5 t o)::aBlk c3 (cP C sm sc se st sl)::R)):
  Kzu ahs ⟨c3,0,none⟩ ⟨t4,0,none⟩ (lP t.ops C.gi.length C.groups C.counts.length C.bP.length) h (fun v h'=>v= .int .i64 (gH C t (ah.map (·.1)))∧Sep h0 h' R):=by
 apply e6s
 unfold d4g
 unfold gH
 rw[hv]
 simp only[Bool.not_true,Bool.false_eq_true,if_false]
 generalize hpe:lP t.ops C.gi.length C.groups C.counts.length C.bP.length=e
 refine aE (fun hc=>?_) (fun hc=>?_)
 ·rw[if_pos (by simpa using hc)]
  exact⟨rfl,hs.drop.drop⟩
 ·have hz:e=0:=by simpa using hc
  subst hz
  obtain⟨hl,hall⟩:=vz hpe
  rw[if_neg (by simp)]
  (refine Sep.bu hs 0 rfl rfl ?_;simp only[ae])
  refine (d6D (p:=tX C t) hop (by omega) (fun q h hq hs=>?_) hs).mono ?_
  ·have:d3q q.k q.a q.b (some ⟨c3,0,none⟩) (some ⟨t4,0,none⟩) h (fun v h'=>v= .bool (tX C t q)∧Sep h0 h' (aBlk t4 (A5 t o)::aBlk c3 (cP C sm sc se st sl)::R)):=by
    apply e6y
    unfold d4t tX
    refine Sep.new hs fun x h hs=>?_
    simp only[sz2]at hs
    (refine Sep.aB hs 0 rfl rfl ?_;simp only[ay,Nat.zero_add,au,ae])
    refine aE (fun h5=>?_) (fun h5=>?_)
    ·have h5':=Cq h5
     have hin:=JI mC (hall q hq) h5'
     (refine Sep.bu hs 2 rfl rfl ?_;refine Sep.aB hs 0 rfl rfl ?_)
     have e1:(q.a:Int)=((q.a.toNat:Nat):Int):=by omega
     rw[e1]
     refine hs.vp hce (j:=q.a.toNat) (by omega) ?_
     (refine Sep.aB hs 1 rfl rfl ?_;rw[ak])
     rw[h5,Bool.true_and]
     refine⟨?_,hs.drop⟩
     congr 2
     rw[List.getD_eq_getElem?_getD,List.getElem?_eq_getElem (by omega)]
     simp[Int.max_eq_left hin.1]
    ·(rw[ak])
     rw[h5,Bool.false_and]
     exact⟨rfl,hs.drop⟩
   exact this
  ·rintro v h ⟨rfl,hs⟩
   (simp only[av])
   refine aE (fun h1=>?_) (fun h1=>?_)
   ·rw[if_pos h1]
    exact⟨rfl,hs.drop.drop⟩
   ·rw[if_neg (by rw[h1];decide)]
    (simp only[ae])
    refine (d6E (p:=fun x=>x.1.pr == t.pr) hah (by omega) (fun q h hq hs=>?_) hs).mono ?_
    ·have:d3r q.1.pr q.1.th q.1.pe q.1.de q.1.fr q.1.fl q.2 (some ⟨t4,0,none⟩) h (fun v h'=>v= .bool (q.1.pr == t.pr)∧Sep h0 h' (aBlk t4 (A5 t o)::aBlk c3 (cP C sm sc se st sl)::R)):=by
      apply e6B
      unfold d4w
      ((refine Sep.new hs fun nb h hs=>?_;try simp only[sz2]at hs);refine Sep.aB hs 0 rfl rfl ?_;simp only[au];refine Sep.aB hs 1 rfl rfl ?_)
      exact⟨rfl,hs.drop⟩
     exact this
    ·rintro v h ⟨rfl,hs⟩
     (simp only[av])
     have e:(ah.map (·.1)).any (fun x=>x.pr == t.pr)=ah.any (fun x=>x.1.pr == t.pr):=by rw[List.any_map];rfl
     rw[e]
     refine aE (fun h2=>?_) (fun h2=>?_)
     ·rw[if_pos h2]
      exact⟨rfl,hs.drop.drop⟩
     ·rw[if_neg (by rw[h2];decide)]
      exact⟨rfl,hs.drop.drop⟩
theorem a8R {C:bw}{t:cx}{o:Sl}{sm sc se st sl:Sl}{ahs:Sl}{ah:List (cx×Sl)}(hce:mr h0.size h0 .i64 se C.bP)(mC:C.bP.length≤1000)(hop:fK h0.size h0 dM 3 o t.ops)(hah:fK h0.size h0 lO 7 ahs ah)(hal:ah.length≤100)
  (n1:sm.n=C.gi.length) (n2:sc.n=C.counts.length) (n3:se.n=C.bP.length) (hs:Sep h0 h R):
  Nzb C.sets C.ways C.hit C.bT sm C.groups sc se st sl t.pr t.th t.pe t.de t.fr t.fl o ahs h (fun v h'=>v= .int .i64 (gH C t (ah.map (·.1)))∧Sep h0 h' R):=by
 apply e6r
 unfold d3W
 refine Sep.new hs fun c3 h hs=>?_
 refine Sep.new hs fun t4 h hs=>?_
 simp only[sz2]at hs
 have bad:fy t=false→∀h,Sep h0 h (aBlk t4 (A5 t o)::aBlk c3 (cP C sm sc se st sl)::R)→(af (.int .i64 5):M Value) h (fun v h'=>v= .int .i64 (gH C t (ah.map (·.1)))∧Sep h0 h' R):=by
  intro hv h hs
  have:gH C t (ah.map (·.1))=5:=by unfold gH;rw[hv];rfl
  rw[this]
  exact⟨rfl,hs.drop.drop⟩
 (refine Sep.aB hs 0 rfl rfl ?_;(refine Sep.new hs fun nb h hs=>?_;try simp only[sz2]at hs);simp only[ay,Nat.zero_add,ae])
 refine (fk _ _ hs).mono ?_
 rintro v h ⟨rfl,hs⟩
 cases h1:gO t.pr 0 63
 ·(simp only[av,aj,ae];rw[ak];simp only[aj];rw[ak];simp only[aj];rw[ak];simp only[aj];rw[ak];simp only[aj];rw[ak];simp only[Bool.not_false,aq])
  exact bad (by simp[fy,h1]) h hs
 (simp only[av,aq,ae];refine Sep.aB hs 0 rfl rfl ?_;refine Sep.aB hs 0 rfl rfl ?_;(refine Sep.new hs fun qQ h hs=>?_;try simp only[sz2]at hs);simp only[ae])
 refine (fk _ _ hs).mono ?_
 rintro v h ⟨rfl,hs⟩
 cases h2:gO t.th t.pr 63
 ·(simp only[av];rw[ak];simp only[aj];rw[ak];simp only[aj];rw[ak];simp only[aj];rw[ak];simp only[aj];rw[ak];simp only[Bool.not_false,aq])
  exact bad (by simp[fy,h1,h2]) h hs
 (simp only[av];rw[ak];simp only[aq];refine Sep.aB hs 0 rfl rfl ?_;(refine Sep.new hs fun c4z h hs=>?_;try simp only[sz2]at hs);simp only[ae])
 refine (fk _ _ hs).mono ?_
 rintro v h ⟨rfl,hs⟩
 cases h3:gO t.pe 1 1048576
 ·(simp only[av];rw[ak];simp only[aj];rw[ak];simp only[aj];rw[ak];simp only[aj];rw[ak];simp only[Bool.not_false,aq])
  exact bad (by simp[fy,h1,h2,h3]) h hs
 (simp only[av];rw[ak];simp only[aq];refine Sep.aB hs 0 rfl rfl ?_;refine Sep.aB hs 0 rfl rfl ?_;(refine Sep.new hs fun e7m h hs=>?_;try simp only[sz2]at hs);simp only[ae])
 refine (fk _ _ hs).mono ?_
 rintro v h ⟨rfl,hs⟩
 cases h4:gO t.de 1 t.pe
 ·(simp only[av];rw[ak];simp only[aj];rw[ak];simp only[aj];rw[ak];simp only[Bool.not_false,aq])
  exact bad (by simp[fy,h1,h2,h3,h4]) h hs
 (simp only[av];rw[ak];simp only[aq];refine Sep.aB hs 0 rfl rfl ?_;(refine Sep.new hs fun f3j h hs=>?_;try simp only[sz2]at hs);simp only[ae])
 refine (fk _ _ hs).mono ?_
 rintro v h ⟨rfl,hs⟩
 cases h5:gO t.fr 0 4096
 ·(simp only[av];rw[ak];simp only[aj];rw[ak];simp only[Bool.not_false,aq])
  exact bad (by simp[fy,h1,h2,h3,h4,h5]) h hs
 (simp only[av];rw[ak];simp only[aq];refine Sep.aB hs 0 rfl rfl ?_;(refine Sep.new hs fun f3k h hs=>?_;try simp only[sz2]at hs);simp only[ae])
 refine (fk _ _ hs).mono ?_
 rintro v h ⟨rfl,hs⟩
 cases h6:gO t.fl 0 1048576
 ·(simp only[av];rw[ak];simp only[Bool.not_false,aq])
  exact bad (by simp[fy,h1,h2,h3,h4,h5,h6]) h hs
 (simp only[av];rw[ak];simp only[Bool.not_true,aj])
 have hv:fy t=true:=by simp[fy,h1,h2,h3,h4,h5,h6]
 have fin:∀h,Sep h0 h (aBlk t4 (A5 t o)::aBlk c3 (cP C sm sc se st sl)::R)→_:=fun h hs=>d6F hce mC hop hah hal hv hs
 rw[←n1,←n2,←n3]at fin
 repeat' (first|with_reducible refine aK ?_ ?_|(first|(((with_reducible refine jT ?_);refine Sep.bu hs 0 rfl rfl ?_))|(((with_reducible refine cW ?_);refine Sep.aB hs 1 rfl rfl ?_))|(((with_reducible refine jT ?_);refine Sep.bu hs 1 rfl rfl ?_))|((simp only[ae]))|((simp only[cG,bW,cH,az,ae]))|((simp only[az]))|((simp only[cG,bW,cH,az])))|(refine (c4A C hs).mono ?_;rintro v h ⟨rfl,hs⟩)|(refine (XN hop _ _ _ _ hs).mono ?_;rintro v h ⟨rfl,hs⟩))
 all_goals exact fin h hs
end
end Go.Proofs.YtnpinhahjgbigaaGreatDoor
end
section
namespace Go.Proofs.YtnpinhahjgbigaaGreatDoor
open Go Go.Sb
section
variable {h0 h:Hp}{R L:List As}{C:bw}{sm sc se st sl:Sl}{ts:List (cx×Sl)}
theorem qT (hc:hU h0 C sm sc se st sl ts)(k:Nat):(ts.take k).map (·.1)=C.tasks.take k:=by rw[←hc.tasks,List.map_take]
theorem DC (hc:hU h0 C sm sc se st sl ts){k:Nat}(hk:k<ts.length):C.tasks.drop k=(ts[k]'hk).1::C.tasks.drop (k+1):=by
 rw[←hc.tasks,List.drop_eq_getElem_cons (by simpa using hk),List.getElem_map]
theorem DD (hc:hU h0 C sm sc se st sl ts)(hl:ts.length≤8)(mC:C.bP.length≤4){c:Nat}:∀(d k:Nat) (h:Hp),k+d=ts.length→Sep h0 h (aBlk c (cP C sm sc se st sl)::R)→
  Kz6 ⟨c,0,none⟩ st (st.n:Int) (k:Int) h (fun v h'=>v= .int .i64 (gy C k (C.tasks.drop k))∧Sep h0 h' R)
 |0,k,h,hk,hs=>by
  have hn:=hc.rows.n
  apply Sz7
  unfold Bz7
  refine aA (by simp;omega) ?_
  rw[List.drop_of_length_le (by have:=hc.len;omega)]
  exact⟨rfl,hs.drop⟩
 |d+1,k,h,hk,hs=>by
  have ih:=DD hc hl mC (c:=c) d (k+1)
  have hn:=hc.rows.n
  have eW:k<ts.length:=by omega
  obtain⟨n1,n2,n3,n4,n5,n6⟩:=hc.len
  have pG:=hc.ops _ (List.getElem_mem eW)
  have hw:=dK k (by omega)
  rw[DC hc eW]
  apply Sz7
  unfold Bz7
  refine aM (by simp;omega) ?_
  refine hc.rows.ix hs eW fun a ha=>?_
  generalize ts[k]=p at ha pG ⊢
  have fin:∀h x (z:Sl),fK h0.size h0 lO 7 z (ts.take k)→Sep h0 h (aBlk x (A5 p.1 p.2)::aBlk c (cP C sm sc se st sl)::R)→
    Nzb C.sets C.ways C.hit C.bT sm C.groups sc se st sl p.1.pr p.1.th p.1.pe p.1.de p.1.fr p.1.fl p.2 z h (fun v h'=>v= .int .i64 (gH C p.1 (C.tasks.take k))∧Sep h0 h' (aBlk c (cP C sm sc se st sl)::R)):=by
   intro h x z hz hs
   have:=a8R (C:=C) (t:=p.1) (o:=p.2) (st:=st) (sl:=sl) hc.bP (by omega) pG.1 hz (by simp;omega) n1 n2 n3 hs
   rw[qT hc k]at this
   exact this.mono fun v h ⟨e,hs⟩=>⟨e,hs.drop⟩
  have last:∀h,Sep h0 h (aBlk c (cP C sm sc se st sl)::R)→(aI (gH C p.1 (C.tasks.take k) != 0) (af (.int .i64 (gH C p.1 (C.tasks.take k))):M Value) (Kz6 ⟨c,0,none⟩ st (st.n:Int) (IntKind.i64.wrap ((k:Int)+1)))) h (fun v h'=>v= .int .i64 (gy C k (p.1::C.tasks.drop (k+1)))∧Sep h0 h' R):=by
   intro h hs
   unfold gy
   refine aE (fun h1=>?_) (fun h1=>?_)
   ·rw[if_pos (by simpa using h1)]
    exact⟨rfl,hs.drop⟩
   ·rw[if_neg (by simpa using h1),hw]
    exact ih h (by omega) hs
  (refine Arg.mG ha rfl ?_;refine Arg.aB ha rfl ?_;refine Arg.aB ha rfl ?_;refine Arg.aB ha rfl ?_;refine Arg.aB ha rfl ?_;refine Arg.aB ha rfl ?_;refine Arg.bu ha rfl ?_;(refine Sep.new hs fun nb h hs=>?_;try simp only[sz2]at hs);(refine Sep.st hs 0 rfl rfl rfl fun h hs=>?_;simp only[sz0,sz1]at hs);(refine Sep.st hs 0 rfl rfl rfl fun h hs=>?_;simp only[sz0,sz1]at hs);(refine Sep.st hs 0 rfl rfl rfl fun h hs=>?_;simp only[sz0,sz1]at hs);(refine Sep.st hs 0 rfl rfl rfl fun h hs=>?_;simp only[sz0,sz1]at hs);(refine Sep.st hs 0 rfl rfl rfl fun h hs=>?_;simp only[sz0,sz1]at hs);(refine Sep.st hs 0 rfl rfl rfl fun h hs=>?_;simp only[sz0,sz1]at hs);(refine Sep.st hs 0 rfl rfl rfl fun h hs=>?_;simp only[sz0,sz1]at hs);simp only[ay,Nat.zero_add])
  repeat' (first|with_reducible refine aK ?_ ?_|(first|(((with_reducible refine cW ?_);refine Sep.aB hs 1 rfl rfl ?_))|(((with_reducible refine jT ?_);refine Sep.bu hs 1 rfl rfl ?_))|(((with_reducible refine cW ?_);refine Sep.aB hs 0 rfl rfl ?_))|(((with_reducible refine jT ?_);refine Sep.bu hs 0 rfl rfl ?_))|((simp only[ae]))|((simp only[az])))|(with_reducible refine hc.rows.pre hc.cap (by omega) (by omega) rfl fun z hz hzc=>?_;rw[Int.toNat_natCast]at hz)|(refine (fin _ _ _ hz hs).mono ?_;rintro v h ⟨rfl,hs⟩))
  all_goals exact last h hs
theorem e7n (a b c d:Int):decide ((if d>(if c>(if b>a then b else a) then c else (if b>a then b else a)) then d else (if c>(if b>a then b else a) then c else (if b>a then b else a)))>4)=(decide (a>4)||decide (b>4)||decide (c>4)||decide (d>4)):=by
 rw[Bool.eq_iff_iff]
 simp only[Bool.or_eq_true,decide_eq_true_eq]
 repeat' split
 all_goals omega
theorem a8S (hc:hU h0 C sm sc se st sl ts)(hs:Sep h0 h R):b7z C.sets C.ways C.hit C.bT sm C.groups sc se st sl h (fun v h'=>v= .int .i64 (eE C)∧Sep h0 h' R):=by
 obtain⟨n1,n2,n3,n4,n5,n6⟩:=hc.len
 apply e6n
 unfold d3E
 refine Sep.new hs fun c h hs=>?_
 simp only[sz2]at hs
 have hs:Sep h0 h (aBlk c (cP C sm sc se st sl)::R):=hs
 (refine Sep.bu hs 0 rfl rfl ?_;refine Sep.aB hs 0 rfl rfl ?_;refine Sep.bu hs 0 rfl rfl ?_;refine Sep.bu hs 0 rfl rfl ?_;refine Sep.aB hs 0 rfl rfl ?_;refine Sep.aB hs 0 rfl rfl ?_;refine Sep.aB hs 0 rfl rfl ?_;refine Sep.aB hs 0 rfl rfl ?_;simp only[ay,Nat.zero_add,ae])
 refine (Qz C hs).mono ?_
 rintro v h ⟨rfl,hs⟩
 unfold eE
 cases h1:lQ C
 ·(simp only[Bool.not_false,av,aq])
  exact⟨rfl,hs.drop⟩
 (simp only[Bool.not_true,av,aj,ae])
 rw[e7n]
 simp only[Bool.not_true,Bool.false_eq_true,if_false]
 have ye:kq C=(((decide ((sm.n:Int)>4)||decide (C.groups>4)||decide ((sc.n:Int)>4)||decide ((se.n:Int)>4))||decide ((st.n:Int)>8))||decide ((sl.n:Int)>8)):=by
  unfold kq
  rw[n1,n2,n3,n4,n5,Bool.eq_iff_iff]
  simp only[Bool.or_eq_true,decide_eq_true_eq]
  omega
 have many:kq C=true→∀h,Sep h0 h (aBlk c (cP C sm sc se st sl)::R)→(af (.int .i64 4):M Value) h (fun v h'=>v= .int .i64 (if kq C=true then 4 else if C.tasks.length=0∨C.groups<0 then 1 else if (!fC C)=true then 5 else gy C 0 C.tasks)∧Sep h0 h' R):=by
  intro e h hs
  rw[e]
  exact⟨rfl,hs.drop⟩
 generalize h2:(decide ((sm.n:Int)>4)||decide (C.groups>4)||decide ((sc.n:Int)>4)||decide ((se.n:Int)>4))=b2 at ye ⊢
 cases b2
 rotate_left
 ·(simp only[aq];rw[ak];simp only[aq];rw[ak];simp only[aq])
  exact many ye h hs
 (simp only[aj];refine Sep.bu hs 0 rfl rfl ?_;rw[ak])
 generalize h3:decide ((st.n:Int)>8)=b3 at ye ⊢
 cases b3
 rotate_left
 ·(simp only[aq];rw[ak];simp only[aq])
  exact many ye h hs
 (simp only[aj];refine Sep.bu hs 0 rfl rfl ?_;rw[ak])
 generalize h4:decide ((sl.n:Int)>8)=b4 at ye ⊢
 cases b4
 rotate_left
 ·(simp only[aq])
  exact many ye h hs
 (simp only[aj];refine Sep.bu hs 0 rfl rfl ?_;simp only[ae])
 have hmf:kq C=false:=ye
 rw[hmf]
 simp only[Bool.false_eq_true,if_false]
 simp only[Bool.or_eq_false_iff,decide_eq_false_iff_not]at h2 h3 h4
 have XO:∀h,(C.tasks.length=0∨C.groups<0)→Sep h0 h (aBlk c (cP C sm sc se st sl)::R)→(af (.int .i64 1):M Value) h (fun v h'=>v= .int .i64 (if C.tasks.length=0∨C.groups<0 then 1 else if (!fC C)=true then 5 else gy C 0 C.tasks)∧Sep h0 h' R):=by
  intro h e hs
  rw[if_pos e]
  exact⟨rfl,hs.drop⟩
 refine aE (fun h5=>?_) (fun h5=>?_)
 ·(rw[ak];simp only[aq])
  exact XO h (.inl (by have:=Cq h5;omega)) hs
 have h5:=Fs h5
 (refine Sep.aB hs 0 rfl rfl ?_;rw[ak])
 refine aE (fun h6=>?_) (fun h6=>?_)
 ·exact XO h (.inr (by simpa using h6)) hs
 have h6:¬C.groups<0:=by simpa using h6
 rw[if_neg (by omega)]
 have A6:fC C=false→∀h,Sep h0 h (aBlk c (cP C sm sc se st sl)::R)→(af (.int .i64 5):M Value) h (fun v h'=>v= .int .i64 (if (!fC C)=true then 5 else gy C 0 C.tasks)∧Sep h0 h' R):=by
  intro e h hs
  rw[e]
  exact⟨rfl,hs.drop⟩
 (refine Sep.bu hs 0 rfl rfl ?_;simp only[ae])
 refine (nF 1 8 hc.gi.toE (by omega) hs).mono ?_
 rintro v h ⟨rfl,hs⟩
 cases g1:lF C.gi 1 8
 ·(simp only[av,Bool.not_false,aq,ae];rw[ak];simp only[aq])
  exact A6 (by simp[fC,g1]) h hs
 (simp only[av,Bool.not_true,aj,ae];refine Sep.bu hs 0 rfl rfl ?_;simp only[ae])
 refine (nF 1 8 hc.counts.toE (by omega) hs).mono ?_
 rintro v h ⟨rfl,hs⟩
 cases g2:lF C.counts 1 8
 ·(simp only[av,Bool.not_false];rw[ak];simp only[aq])
  exact A6 (by simp[fC,g2]) h hs
 (simp only[av,Bool.not_true];rw[ak];simp only[aj];refine Sep.bu hs 0 rfl rfl ?_;simp only[ae])
 refine (nF 0 63 hc.bP.toE (by omega) hs).mono ?_
 rintro v h ⟨rfl,hs⟩
 cases g3:lF C.bP 0 63
 ·(simp only[av,Bool.not_false,aq,ae];rw[ak];simp only[aq])
  exact A6 (by simp[fC,g3]) h hs
 (simp only[av,Bool.not_true,aj,ae];refine Sep.bu hs 0 rfl rfl ?_;refine Sep.bu hs 0 rfl rfl ?_;simp only[ae])
 refine (nF 0 _ hc.lines.toE (by omega) hs).mono ?_
 rintro v h ⟨rfl,hs⟩
 rw[wrap64 _ (by omega),n5]
 cases g4:lF C.lines 0 ((C.tasks.length:Int)-1)
 ·(simp only[av,Bool.not_false];rw[ak];simp only[aq])
  exact A6 (by simp[fC,g4]) h hs
 (simp only[av,Bool.not_true];rw[ak];simp only[aj];refine Sep.bu hs 0 rfl rfl ?_)
 have hr:fC C=true:=by simp[fC,g1,g2,g3,g4]
 rw[hr,if_neg (by decide)]
 have:=DD hc (by omega) (by omega) ts.length 0 h (Nat.zero_add _) hs
 rw[List.drop_zero]at this
 exact this
end
end Go.Proofs.YtnpinhahjgbigaaGreatDoor
end
section
namespace Go.Proofs.YtnpinhahjgbigaaGreatDoor
open Go Go.Sb
section
variable {h0 h:Hp}{R L:List As}{C:bw}{sm sc se st sl:Sl}{ts:List (cx×Sl)}
theorem nG (n a b:Int):K9 n a b h (fun v h'=>v= .bool (gO n a b)∧h'=h):=by
 apply e6h
 unfold d3w
 exact⟨rfl,rfl⟩
theorem d6G {s:Sl}{xs:List Int}(a b:Int)(hr:mr h0.size h0 .i64 s xs)(hl:xs.length≤1000)(hs:Sep h0 h L):∀(d j:Nat),j+d=xs.length→(xs.take j).all (fun n=>gO n a b)=true→
  a7Y a b s (s.n:Int) (j:Int) h (fun v h'=>v= .bool (lF xs a b)∧h'=h)
 |0,j,hj,hc=>by
  have hn:=hr.n
  rw[List.take_of_length_le (by omega)]at hc
  apply Sz3
  unfold Bz3
  refine aA (by simp;omega) ?_
  exact⟨by unfold lF;rw[hc],rfl⟩
 |d+1,j,hj,hc=>by
  have ih:=d6G a b hr hl hs d (j+1)
  have hn:=hr.n
  have hjl:j<xs.length:=by omega
  apply Sz3
  unfold Bz3
  refine aM (by simp;omega) ?_
  refine hs.vp hr hjl ?_
  rw[ae]
  refine (nG _ _ _).mono ?_
  rintro v h ⟨rfl,rfl⟩
  simp only[av]
  refine aE (fun h1=>?_) (fun h1=>?_)
  ·refine⟨?_,rfl⟩
   congr 1
   symm
   unfold lF
   rw[List.all_eq_false]
   exact⟨_,List.getElem_mem hjl,by simpa using h1⟩
  ·rw[dK j (by omega)]
   refine ih (by omega) ?_
   rw[List.take_succ_eq_append_getElem hjl,List.all_append,hc]
   simpa using h1
theorem JJ {s:Sl}{xs:List Int}(a b:Int)(hr:mr h0.size h0 .i64 s xs)(hl:xs.length≤1000)(hs:Sep h0 h L):Nzm s a b h (fun v h'=>v= .bool (lF xs a b)∧h'=h):=by
 apply e6i
 unfold d3x
 exact d6G a b hr hl hs xs.length 0 (Nat.zero_add _) rfl
theorem JK (hc:hU h0 C sm sc se st sl ts){t:cx}{o:Sl}{c3 t5 i:Nat}(hi:i≤ts.length)(hl:ts.length≤8):∀(d k:Nat) (h:Hp),k+d=i→((ts.take k).map (·.1)).any (fun x=>x.pr == t.pr)=false→Sep h0 h (aBlk t5 (A5 t o)::aBlk c3 (cP C sm sc se st sl)::R)→
  a8a (i:Int) ⟨c3,0,none⟩ ⟨t5,0,none⟩ (k:Int) h (fun v h'=>v= .int .i64 (if ((ts.take i).map (·.1)).any (fun x=>x.pr == t.pr) then 10 else 0)∧Sep h0 h' R)
 |0,k,h,hk,hno,hs=>by
  obtain rfl:k=i:=by omega
  apply Sz5
  unfold Bz5
  refine aA (by simp) ?_
  rw[hno]
  exact⟨rfl,hs.drop.drop⟩
 |d+1,k,h,hk,hno,hs=>by
  have ih:=JK hc (t:=t) (o:=o) (c3:=c3) (t5:=t5) hi hl d (k+1)
  have eW:k<ts.length:=by omega
  have hrw:=hc.rows
  apply Sz5
  unfold Bz5
  refine aM (by simp;omega) ?_
  (refine Sep.bu hs 1 rfl rfl ?_;refine Sep.Ur hs hrw (by first|omega|(simp only[List.length_set,List.length_map,List.length_replicate,List.length_append,List.length_cons,List.length_nil,List.length_reverse,List.length_range];omega)|(simp;omega)) fun aa sV=>?_;refine Arg.mG sV rfl ?_;refine Sep.aB hs 0 rfl rfl ?_;simp only)
  refine aE (fun h1=>?_) (fun h1=>?_)
  ·have:((ts.take i).map (·.1)).any (fun x=>x.pr == t.pr)=true:=by
    refine List.any_eq_true.2 ⟨(ts[k]'eW).1,List.mem_map.2 ⟨_,?_,rfl⟩,h1⟩
    rw[List.mem_take_iff_getElem]
    exact⟨k,by omega,rfl⟩
   rw[this]
   exact⟨rfl,hs.drop.drop⟩
  ·rw[dK k (by omega)]
   refine ih h (by omega) ?_ hs
   rw[List.take_succ_eq_append_getElem eW,List.map_append,List.any_append,hno]
   simpa using h1
theorem XP (hc:hU h0 C sm sc se st sl ts){t:cx}{o:Sl}{c3 t5 i:Nat}(hi:i≤ts.length)(hl:ts.length≤8)(mC:C.bP.length≤1000)(hop:fK h0.size h0 dM 3 o t.ops)(hpe:lP t.ops C.gi.length C.groups C.counts.length C.bP.length=0):∀(d k:Nat) (h:Hp),k+d=t.ops.length→(t.ops.take k).any (tX C t)=false→Sep h0 h (aBlk t5 (A5 t o)::aBlk c3 (cP C sm sc se st sl)::R)→
  a7Z (i:Int) ⟨c3,0,none⟩ ⟨t5,0,none⟩ o (o.n:Int) (k:Int) h (fun v h'=>v= .int .i64 (if t.ops.any (tX C t) then 9 else if ((ts.take i).map (·.1)).any (fun x=>x.pr == t.pr) then 10 else 0)∧Sep h0 h' R)
 |0,k,h,hk,hno,hs=>by
  have hn:=hop.n
  rw[List.take_of_length_le (by omega)]at hno
  apply Sz4
  unfold Bz4
  refine aA (by simp;omega) ?_
  rw[hno]
  exact JK hc hi hl i 0 h (Nat.zero_add _) rfl hs
 |d+1,k,h,hk,hno,hs=>by
  have ih:=XP hc (t:=t) (o:=o) (c3:=c3) (t5:=t5) hi hl mC hop hpe d (k+1)
  have hn:=hop.n
  obtain⟨f3l,hall⟩:=vz hpe
  have eW:k<t.ops.length:=by omega
  have hq:=hall _ (List.getElem_mem eW)
  have kv:=qR (p:=tX C t) eW hno
  have hhr:=qS (p:=tX C t) eW
  apply Sz4
  unfold Bz4
  refine aM (by simp;omega) ?_
  refine hop.ix hs eW fun a ha=>?_
  generalize t.ops[k]=q at ha hq kv hhr ⊢
  (refine Arg.mG ha rfl ?_;refine Arg.aB ha rfl ?_;refine Arg.aB ha rfl ?_;(refine Sep.new hs fun nb h hs=>?_;try simp only[sz2]at hs);(refine Sep.st hs 0 rfl rfl rfl fun h hs=>?_;simp only[sz0,sz1]at hs);(refine Sep.st hs 0 rfl rfl rfl fun h hs=>?_;simp only[sz0,sz1]at hs);(refine Sep.st hs 0 rfl rfl rfl fun h hs=>?_;simp only[sz0,sz1]at hs);refine Sep.aB hs 0 rfl rfl ?_;simp only[ay,Nat.zero_add,ae])
  refine aE (fun h5=>?_) (fun h5=>?_)
  ·have h5':=Cq h5
   have hin:=JI mC hq h5'
   (refine Sep.bu hs 2 rfl rfl ?_;refine Sep.aB hs 0 rfl rfl ?_)
   have e1:(q.a:Int)=((q.a.toNat:Nat):Int):=by omega
   rw[e1]
   refine hs.vp hc.bP (j:=q.a.toNat) (by omega) ?_
   (refine Sep.aB hs 1 rfl rfl ?_;rw[ak];simp only)
   have e2:tX C t q=decide (C.bP[q.a.toNat]'(by omega)<t.pr):=by
    unfold tX
    rw[h5,Bool.true_and,List.getD_eq_getElem?_getD,List.getElem?_eq_getElem (by omega)]
    rfl
   refine aE (fun h1=>?_) (fun h1=>?_)
   ·rw[hhr (e2.trans h1)]
    exact⟨rfl,hs.drop.drop.drop⟩
   ·rw[dK k (by omega)]
    exact ih h (by omega) (kv (e2.trans h1)) hs.drop
  ·(rw[ak];simp only[aj])
   rw[dK k (by omega)]
   refine ih h (by omega) (kv ?_) hs.drop
   unfold tX
   rw[h5];rfl
theorem a8T (hc:hU h0 C sm sc se st sl ts){t:cx}{o:Sl}{i:Nat}(hi:i≤ts.length)(hl:ts.length≤8)(mC:C.bP.length≤1000)(hop:fK h0.size h0 dM 3 o t.ops)(hoc:o.n≤o.c)(hs:Sep h0 h R):
  b7x C.sets C.ways C.hit C.bT sm C.groups sc se st sl (i:Int) t.pr t.th t.pe t.de t.fr t.fl o h (fun v h'=>v= .int .i64 (gH C t (C.tasks.take i))∧Sep h0 h' R):=by
 obtain⟨n1,n2,n3,n4,n5,n6⟩:=hc.len
 rw[←qT hc i]
 apply e6k
 unfold d3y
 refine Sep.new hs fun c3 h hs=>?_
 refine Sep.new hs fun t5 h hs=>?_
 simp only[sz2]at hs
 have bad:fy t=false→∀h,Sep h0 h (aBlk t5 (A5 t o)::aBlk c3 (cP C sm sc se st sl)::R)→(af (.int .i64 5):M Value) h (fun v h'=>v= .int .i64 (gH C t ((ts.take i).map (·.1)))∧Sep h0 h' R):=by
  intro hv h hs
  have:gH C t ((ts.take i).map (·.1))=5:=by unfold gH;rw[hv];rfl
  rw[this]
  exact⟨rfl,hs.drop.drop⟩
 (refine Sep.aB hs 0 rfl rfl ?_;simp only[ay,Nat.zero_add,ae])
 refine (nG _ _ _).mono ?_
 rintro v h ⟨rfl,rfl⟩
 cases h1:gO t.pr 0 63
 ·(simp only[av,Bool.not_false,aq,ae];rw[ak];simp only[aq];rw[ak];simp only[aq];rw[ak];simp only[aq];rw[ak];simp only[aq];rw[ak];simp only[aq])
  exact bad (by simp[fy,h1]) h hs
 (simp only[av,Bool.not_true,aj,ae];refine Sep.aB hs 0 rfl rfl ?_;refine Sep.aB hs 0 rfl rfl ?_;simp only[ae])
 refine (nG _ _ _).mono ?_
 rintro v h ⟨rfl,rfl⟩
 cases h2:gO t.th t.pr 63
 ·(simp only[av,Bool.not_false];rw[ak];simp only[aq];rw[ak];simp only[aq];rw[ak];simp only[aq];rw[ak];simp only[aq];rw[ak];simp only[aq])
  exact bad (by simp[fy,h1,h2]) h hs
 (simp only[av,Bool.not_true];rw[ak];simp only[aj];refine Sep.aB hs 0 rfl rfl ?_;simp only[ae])
 refine (nG _ _ _).mono ?_
 rintro v h ⟨rfl,rfl⟩
 cases h3:gO t.pe 1 1048576
 ·(simp only[av,Bool.not_false];rw[ak];simp only[aq];rw[ak];simp only[aq];rw[ak];simp only[aq];rw[ak];simp only[aq])
  exact bad (by simp[fy,h1,h2,h3]) h hs
 (simp only[av,Bool.not_true];rw[ak];simp only[aj];refine Sep.aB hs 0 rfl rfl ?_;refine Sep.aB hs 0 rfl rfl ?_;simp only[ae])
 refine (nG _ _ _).mono ?_
 rintro v h ⟨rfl,rfl⟩
 cases h4:gO t.de 1 t.pe
 ·(simp only[av,Bool.not_false];rw[ak];simp only[aq];rw[ak];simp only[aq];rw[ak];simp only[aq])
  exact bad (by simp[fy,h1,h2,h3,h4]) h hs
 (simp only[av,Bool.not_true];rw[ak];simp only[aj];refine Sep.aB hs 0 rfl rfl ?_;simp only[ae])
 refine (nG _ _ _).mono ?_
 rintro v h ⟨rfl,rfl⟩
 cases h5:gO t.fr 0 4096
 ·(simp only[av,Bool.not_false];rw[ak];simp only[aq];rw[ak];simp only[aq])
  exact bad (by simp[fy,h1,h2,h3,h4,h5]) h hs
 (simp only[av,Bool.not_true];rw[ak];simp only[aj];refine Sep.aB hs 0 rfl rfl ?_;simp only[ae])
 refine (nG _ _ _).mono ?_
 rintro v h ⟨rfl,rfl⟩
 cases h6:gO t.fl 0 1048576
 ·(simp only[av,Bool.not_false];rw[ak];simp only[aq])
  exact bad (by simp[fy,h1,h2,h3,h4,h5,h6]) h hs
 (simp only[av,Bool.not_true];rw[ak];simp only[aj];refine Sep.bu hs 0 rfl rfl ?_;refine Sep.bu hs 1 rfl rfl ?_;refine Sep.aB hs 1 rfl rfl ?_;refine Sep.bu hs 1 rfl rfl ?_;refine Sep.bu hs 1 rfl rfl ?_;simp only[ae])
 have hv:fy t=true:=by simp[fy,h1,h2,h3,h4,h5,h6]
 refine (XK hop hoc _ _ _ _ hs).mono ?_
 rintro v h ⟨rfl,hs⟩
 rw[n1,n2,n3]
 unfold gH
 rw[hv]
 simp only[Bool.not_true,Bool.false_eq_true,if_false,az]
 refine aE (fun h1=>?_) (fun h1=>?_)
 ·rw[if_pos (by simpa using h1)]
  exact⟨rfl,hs.drop.drop⟩
 ·have hz:lP t.ops C.gi.length C.groups C.counts.length C.bP.length=0:=by simpa using h1
  rw[if_neg (by simpa using h1)]
  (refine Sep.bu hs 0 rfl rfl ?_)
  exact XP hc hi hl mC hop hz t.ops.length 0 h (Nat.zero_add _) rfl hs
theorem DE (hc:hU h0 C sm sc se st sl ts)(hl:ts.length≤8)(mC:C.bP.length≤4){c:Nat}:∀(d k:Nat) (h:Hp),k+d=ts.length→Sep h0 h (aBlk c (cP C sm sc se st sl)::R)→
  a8b ⟨c,0,none⟩ st (st.n:Int) (k:Int) h (fun v h'=>v= .int .i64 (gy C k (C.tasks.drop k))∧Sep h0 h' R)
 |0,k,h,hk,hs=>by
  have hn:=hc.rows.n
  apply Sz6
  unfold Bz6
  refine aA (by simp;omega) ?_
  rw[List.drop_of_length_le (by have:=hc.len;omega)]
  exact⟨rfl,hs.drop⟩
 |d+1,k,h,hk,hs=>by
  have ih:=DE hc hl mC (c:=c) d (k+1)
  have hn:=hc.rows.n
  have eW:k<ts.length:=by omega
  have pG:=hc.ops _ (List.getElem_mem eW)
  have hw:=dK k (by omega)
  rw[DC hc eW]
  apply Sz6
  unfold Bz6
  refine aM (by simp;omega) ?_
  refine hc.rows.ix hs eW fun a ha=>?_
  generalize ts[k]=p at ha pG ⊢
  (refine Arg.mG ha rfl ?_;refine Arg.aB ha rfl ?_;refine Arg.aB ha rfl ?_;refine Arg.aB ha rfl ?_;refine Arg.aB ha rfl ?_;refine Arg.aB ha rfl ?_;refine Arg.bu ha rfl ?_;(refine Sep.new hs fun nb h hs=>?_;try simp only[sz2]at hs);(refine Sep.st hs 0 rfl rfl rfl fun h hs=>?_;simp only[sz0,sz1]at hs);(refine Sep.st hs 0 rfl rfl rfl fun h hs=>?_;simp only[sz0,sz1]at hs);(refine Sep.st hs 0 rfl rfl rfl fun h hs=>?_;simp only[sz0,sz1]at hs);(refine Sep.st hs 0 rfl rfl rfl fun h hs=>?_;simp only[sz0,sz1]at hs);(refine Sep.st hs 0 rfl rfl rfl fun h hs=>?_;simp only[sz0,sz1]at hs);(refine Sep.st hs 0 rfl rfl rfl fun h hs=>?_;simp only[sz0,sz1]at hs);(refine Sep.st hs 0 rfl rfl rfl fun h hs=>?_;simp only[sz0,sz1]at hs);refine Sep.aB hs 1 rfl rfl ?_;refine Sep.aB hs 1 rfl rfl ?_;refine Sep.aB hs 1 rfl rfl ?_;refine Sep.aB hs 1 rfl rfl ?_;refine Sep.bu hs 1 rfl rfl ?_;refine Sep.aB hs 1 rfl rfl ?_;refine Sep.bu hs 1 rfl rfl ?_;refine Sep.bu hs 1 rfl rfl ?_;refine Sep.bu hs 1 rfl rfl ?_;refine Sep.bu hs 1 rfl rfl ?_;refine Sep.aB hs 0 rfl rfl ?_;refine Sep.aB hs 0 rfl rfl ?_;refine Sep.aB hs 0 rfl rfl ?_;refine Sep.aB hs 0 rfl rfl ?_;refine Sep.aB hs 0 rfl rfl ?_;refine Sep.aB hs 0 rfl rfl ?_;refine Sep.bu hs 0 rfl rfl ?_;simp only[ae])
  refine (a8T hc (t:=p.1) (o:=p.2) (i:=k) (by omega) hl (by omega) pG.1 pG.2 hs).mono ?_
  rintro v h ⟨rfl,hs⟩
  simp only[az]
  unfold gy
  refine aE (fun h1=>?_) (fun h1=>?_)
  ·rw[if_pos (by simpa using h1)]
   exact⟨rfl,hs.drop.drop⟩
  ·rw[if_neg (by simpa using h1),hw]
   exact ih h (by omega) hs.drop
theorem a8U (hc:hU h0 C sm sc se st sl ts)(hs:Sep h0 h R):b7y C.sets C.ways C.hit C.bT sm C.groups sc se st sl h (fun v h'=>v= .int .i64 (eE C)∧Sep h0 h' R):=by
 obtain⟨n1,n2,n3,n4,n5,n6⟩:=hc.len
 apply e6m
 unfold d3C
 refine Sep.new hs fun c h hs=>?_
 simp only[sz2]at hs
 have hs:Sep h0 h (aBlk c (cP C sm sc se st sl)::R):=hs
 have a8V:lQ C=false→∀h m,Sep h0 h (m::aBlk c (cP C sm sc se st sl)::R)→(af (.int .i64 5):M Value) h (fun v h'=>v= .int .i64 (eE C)∧Sep h0 h' R):=by
  intro e h m hs
  have:eE C=5:=by unfold eE;rw[e];rfl
  rw[this]
  exact⟨rfl,hs.drop.drop⟩
 (refine Sep.aB hs 0 rfl rfl ?_;refine Sep.aB hs 0 rfl rfl ?_;refine Sep.aB hs 0 rfl rfl ?_;refine Sep.aB hs 0 rfl rfl ?_;(refine Sep.new hs fun nb h hs=>?_;try simp only[sz2]at hs);(refine Sep.st hs 0 rfl rfl rfl fun h hs=>?_;simp only[sz0,sz1]at hs);(refine Sep.st hs 0 rfl rfl rfl fun h hs=>?_;simp only[sz0,sz1]at hs);(refine Sep.st hs 0 rfl rfl rfl fun h hs=>?_;simp only[sz0,sz1]at hs);(refine Sep.st hs 0 rfl rfl rfl fun h hs=>?_;simp only[sz0,sz1]at hs);refine Sep.aB hs 0 rfl rfl ?_;simp only[ay,Nat.zero_add,ae])
 refine (nG _ _ _).mono ?_
 rintro v h ⟨rfl,rfl⟩
 cases h1:gO C.sets 1 16
 ·(simp only[av,Bool.not_false,aq,ae];rw[ak];simp only[aq];rw[ak];simp only[aq];rw[ak];simp only[aq])
  exact a8V (by simp[lQ,h1]) h _ hs
 (simp only[av,Bool.not_true,aj,ae];refine Sep.aB hs 0 rfl rfl ?_;simp only[ae])
 refine (nG _ _ _).mono ?_
 rintro v h ⟨rfl,rfl⟩
 cases h2:gO C.ways 1 4
 ·(simp only[av,Bool.not_false];rw[ak];simp only[aq];rw[ak];simp only[aq];rw[ak];simp only[aq])
  exact a8V (by simp[lQ,h1,h2]) h _ hs
 (simp only[av,Bool.not_true];rw[ak];simp only[aj];refine Sep.aB hs 0 rfl rfl ?_;simp only[ae])
 refine (nG _ _ _).mono ?_
 rintro v h ⟨rfl,rfl⟩
 cases h3:gO C.hit 1 100
 ·(simp only[av,Bool.not_false];rw[ak];simp only[aq];rw[ak];simp only[aq])
  exact a8V (by simp[lQ,h1,h2,h3]) h _ hs
 (simp only[av,Bool.not_true];rw[ak];simp only[aj];refine Sep.aB hs 0 rfl rfl ?_;refine Sep.aB hs 0 rfl rfl ?_;simp only[ae])
 refine (nG _ _ _).mono ?_
 rintro v h ⟨rfl,rfl⟩
 cases h4:gO C.bT C.hit 100
 ·(simp only[av,Bool.not_false];rw[ak];simp only[aq])
  exact a8V (by simp[lQ,h1,h2,h3,h4]) h _ hs
 have hm:lQ C=true:=by simp[lQ,h1,h2,h3,h4]
 (simp only[av,Bool.not_true];rw[ak];simp only[aj];refine Sep.bu hs 1 rfl rfl ?_;simp only[ae])
 have hs:Sep h0 h (aBlk c (cP C sm sc se st sl)::R):=hs.drop
 have e0:eE C=if kq C then 4 else if C.tasks.length=0∨C.groups<0 then 1 else if !fC C then 5 else gy C 0 C.tasks:=by unfold eE;rw[hm];rfl
 rw[e0]
 clear e0
 have ye:kq C=(((((decide ((sm.n:Int)>4)||decide (C.groups>4))||decide ((sc.n:Int)>4))||decide ((se.n:Int)>4))||decide ((st.n:Int)>8))||decide ((sl.n:Int)>8)):=by
  unfold kq
  rw[n1,n2,n3,n4,n5,Bool.eq_iff_iff]
  simp only[Bool.or_eq_true,decide_eq_true_eq]
  omega
 have many:kq C=true→∀h,Sep h0 h (aBlk c (cP C sm sc se st sl)::R)→(af (.int .i64 4):M Value) h (fun v h'=>v= .int .i64 (if kq C=true then 4 else if C.tasks.length=0∨C.groups<0 then 1 else if (!fC C)=true then 5 else gy C 0 C.tasks)∧Sep h0 h' R):=by
  intro e h hs
  rw[e]
  exact⟨rfl,hs.drop⟩
 generalize g1:decide ((sm.n:Int)>4)=b1 at ye ⊢
 cases b1
 rotate_left
 ·(simp only[aq];rw[ak];simp only[aq];rw[ak];simp only[aq];rw[ak];simp only[aq];rw[ak];simp only[aq];rw[ak];simp only[aq])
  exact many ye h hs
 (simp only[aj];refine Sep.aB hs 0 rfl rfl ?_;rw[ak])
 generalize g2:decide (C.groups>4)=b2 at ye ⊢
 cases b2
 rotate_left
 ·(simp only[aq];rw[ak];simp only[aq];rw[ak];simp only[aq];rw[ak];simp only[aq];rw[ak];simp only[aq])
  exact many ye h hs
 (simp only[aj];refine Sep.bu hs 0 rfl rfl ?_;rw[ak])
 generalize g3:decide ((sc.n:Int)>4)=b3 at ye ⊢
 cases b3
 rotate_left
 ·(simp only[aq];rw[ak];simp only[aq];rw[ak];simp only[aq];rw[ak];simp only[aq])
  exact many ye h hs
 (simp only[aj];refine Sep.bu hs 0 rfl rfl ?_;rw[ak])
 generalize g4:decide ((se.n:Int)>4)=b4 at ye ⊢
 cases b4
 rotate_left
 ·(simp only[aq];rw[ak];simp only[aq];rw[ak];simp only[aq])
  exact many ye h hs
 (simp only[aj];refine Sep.bu hs 0 rfl rfl ?_;rw[ak])
 generalize g5:decide ((st.n:Int)>8)=b5 at ye ⊢
 cases b5
 rotate_left
 ·(simp only[aq];rw[ak];simp only[aq])
  exact many ye h hs
 (simp only[aj];refine Sep.bu hs 0 rfl rfl ?_;rw[ak])
 generalize g6:decide ((sl.n:Int)>8)=b6 at ye ⊢
 cases b6
 rotate_left
 ·(simp only[aq])
  exact many ye h hs
 (simp only[aj];refine Sep.bu hs 0 rfl rfl ?_;simp only[ae])
 have hmf:kq C=false:=ye
 rw[hmf]
 simp only[Bool.false_eq_true,if_false]
 simp only[decide_eq_false_iff_not]at g1 g2 g3 g4 g5 g6
 have XO:∀h,(C.tasks.length=0∨C.groups<0)→Sep h0 h (aBlk c (cP C sm sc se st sl)::R)→(af (.int .i64 1):M Value) h (fun v h'=>v= .int .i64 (if C.tasks.length=0∨C.groups<0 then 1 else if (!fC C)=true then 5 else gy C 0 C.tasks)∧Sep h0 h' R):=by
  intro h e hs
  rw[if_pos e]
  exact⟨rfl,hs.drop⟩
 refine aE (fun h5=>?_) (fun h5=>?_)
 ·(rw[ak];simp only[aq])
  exact XO h (.inl (by have:=Cq h5;omega)) hs
 have h5:=Fs h5
 (refine Sep.aB hs 0 rfl rfl ?_;rw[ak])
 refine aE (fun h6=>?_) (fun h6=>?_)
 ·exact XO h (.inr (by simpa using h6)) hs
 have h6:¬C.groups<0:=by simpa using h6
 rw[if_neg (by omega)]
 have A6:fC C=false→∀h,Sep h0 h (aBlk c (cP C sm sc se st sl)::R)→(af (.int .i64 5):M Value) h (fun v h'=>v= .int .i64 (if (!fC C)=true then 5 else gy C 0 C.tasks)∧Sep h0 h' R):=by
  intro e h hs
  rw[e]
  exact⟨rfl,hs.drop⟩
 (refine Sep.bu hs 0 rfl rfl ?_;simp only[ae])
 refine (JJ 1 8 hc.gi (by omega) hs).mono ?_
 rintro v h ⟨rfl,rfl⟩
 cases k1:lF C.gi 1 8
 ·(simp only[av,Bool.not_false,aq,ae];rw[ak];simp only[aq];rw[ak];simp only[aq];rw[ak];simp only[aq])
  exact A6 (by simp[fC,k1]) h hs
 (simp only[av,Bool.not_true,aj,ae];refine Sep.bu hs 0 rfl rfl ?_;simp only[ae])
 refine (JJ 1 8 hc.counts (by omega) hs).mono ?_
 rintro v h ⟨rfl,rfl⟩
 cases k2:lF C.counts 1 8
 ·(simp only[av,Bool.not_false];rw[ak];simp only[aq];rw[ak];simp only[aq];rw[ak];simp only[aq])
  exact A6 (by simp[fC,k2]) h hs
 (simp only[av,Bool.not_true];rw[ak];simp only[aj];refine Sep.bu hs 0 rfl rfl ?_;simp only[ae])
 refine (JJ 0 63 hc.bP (by omega) hs).mono ?_
 rintro v h ⟨rfl,rfl⟩
 cases k3:lF C.bP 0 63
 ·(simp only[av,Bool.not_false];rw[ak];simp only[aq];rw[ak];simp only[aq])
  exact A6 (by simp[fC,k3]) h hs
 (simp only[av,Bool.not_true];rw[ak];simp only[aj];refine Sep.bu hs 0 rfl rfl ?_;refine Sep.bu hs 0 rfl rfl ?_;simp only[ae])
 refine (JJ 0 _ hc.lines (by omega) hs).mono ?_
 rintro v h ⟨rfl,rfl⟩
 rw[wrap64 _ (by omega),n5]
 cases k4:lF C.lines 0 ((C.tasks.length:Int)-1)
 ·(simp only[av,Bool.not_false];rw[ak];simp only[aq])
  exact A6 (by simp[fC,k4]) h hs
 (simp only[av,Bool.not_true];rw[ak];simp only[aj];refine Sep.bu hs 0 rfl rfl ?_)
 have hr:fC C=true:=by simp[fC,k1,k2,k3,k4]
 rw[hr,if_neg (by decide)]
 have:=DE hc (by omega) (by omega) ts.length 0 h (Nat.zero_add _) hs
 rw[List.drop_zero]at this
 exact this
end
end Go.Proofs.YtnpinhahjgbigaaGreatDoor
end
