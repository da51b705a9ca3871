/- What TopFaults stands on, part 6. Conditions: none. -/
import Derived.Test.YtnpinhahjgbigaaGreatDoorQe
set_option linter.unusedSimpArgs false
set_option linter.unusedVariables false
set_option linter.unusedSectionVars false
section
namespace Go.Proofs.YtnpinhahjgbigaaGreatDoor
open Go Go.Sb
def sD (l:List (Nat×Nat)):Option Addr:=match l with
 |[]=>none
 |x::_=>some ⟨x.1,0,none⟩
abbrev kT (c:KC)(b:Nat)(m:KM)(s:KS)(x:Nat×Nat)(xs:List (Nat×Nat))(a:dD)(l:List dD)(R:List As):List As:=
 aBlk x.1 (qg x a)::aBlk x.2 (di c a.j).enc::db (List.zipWith (qh c) xs l)::aBlk b (sC c m s.now)::LAgd.lG m.ag s.ev s.ord::LCache.cq m.ca c.C.ways.toNat s.cache::LMbx.dW m.bx s.boxes::LFlg.aF m.gr s.groups::LCnt.aC m.ct s.counts::LCei.tZ m.lk s.aD::LLin.aL m.ln s.lines::
 cR m.rd s.ready::LFrame.jH m.fr (iJ c.C s.aR) s.cr::aRow yu 1 m.ss m.bc.reverse::aRow dx 11 m.rs s.reps::aPl m.pm s.pl::aMap m.fm .i64 m.ff m.fn::aRow cw 7 m.tr s.tr::R
section
variable {α:Type}{Q:α→Hp→Prop}{h0 h:Hp}{R L:List As}{c:KC}{b:Nat}{m:KM}{s:KS}{x:Nat×Nat}{xs:List (Nat×Nat)}{a:dD}{l:List dD}
theorem II:Sep h0 h (db (List.zipWith (qh c) (x::xs) (a::l))::L)↔Sep h0 h (aBlk x.1 (qg x a)::aBlk x.2 (di c a.j).enc::db (List.zipWith (qh c) xs l)::L):=by
 rw[List.zipWith_cons_cons,Sep.all,show qh c x a=aStar (aBlk x.1 (qg x a)) (aBlk x.2 (di c a.j).enc) from rfl,Sep.star]
theorem uc (hs:Sep h0 h (kL c b m s R))(hm:m.bc=x::xs)(hl:s.aR=a::l):Sep h0 h (kT c b m s x xs a l R):=by
 have hs:Sep h0 h (db (List.zipWith (qh c) m.bc s.aR)::_):=hs.at 15 rfl
 have e:db (List.zipWith (qh c) m.bc s.aR)=db (List.zipWith (qh c) (x::xs) (a::l)):=by rw[hm,hl]
 rw[e]at hs
 exact II.1 hs
theorem e4O (hs:Sep h0 h (kT c b m s x xs a l R))(hm:m.bc=x::xs)(hl:s.aR=a::l):Sep h0 h (kL c b m s R):=by
 have hs:Sep h0 h (db (List.zipWith (qh c) (x::xs) (a::l))::_):=II.2 hs
 have e:db (List.zipWith (qh c) m.bc s.aR)=db (List.zipWith (qh c) (x::xs) (a::l)):=by rw[hm,hl]
 rw[←e]at hs
 exact hs.perm (ml ((kL c b m s []).take 15) _ R)
theorem b6Y (hs:Sep h0 h (kL c b m s R))(hml:m.bc.length≤1000):Nza (some ⟨b,0,none⟩) h (fun v h'=>v= .pointer (sD m.bc)∧h'=h):=by
 have hn:=hs.bn 10 rfl
 rw[List.length_reverse]at hn
 apply f1v
 unfold e1O
 simp only[au,ay,Nat.zero_add]
 refine Sep.bu hs 0 rfl rfl ?_
 cases hm:m.bc with
 |nil=>
  refine aM (by rw[hn,hm];rfl) ?_
  exact⟨rfl,rfl⟩
 |cons x xs=>
  have kv:m.ss.n=xs.length+1:=by rw[hn,hm];rfl
  refine aA (by rw[kv];simp;omega) ?_
  refine Sep.bu hs 0 rfl rfl ?_
  refine Sep.bu hs 0 rfl rfl ?_
  rw[show IntKind.i64.wrap ((m.ss.n:Int)-1)=(xs.length:Int) by rw[kv,wrap64 _ (by rw[hm]at hml;simp at hml;omega)];omega]
  refine Sep.idx hs 10 rfl (by omega) (by rw[hm];simp;omega) fun a ha=>?_
  rw[Int.toNat_natCast]at ha
  refine Sep.b5y hs 10 rfl (fun _=>rfl) ha (x:=x) (by rw[hm];simp) rfl ?_
  exact⟨rfl,rfl⟩
theorem qi (hc:hU h0 c.C c.sm c.sc c.se c.st c.sl c.ts){i:Nat}(hi:i<c.ts.length):bS c.C i=(c.ts[i]'hi).1:=by
 unfold bS
 rw[List.getD_eq_getElem?_getD,hc.at hi];rfl
theorem b4Y (hc:hU h0 c.C c.sm c.sc c.se c.st c.sl c.ts)(hs:Sep h0 h (kL c b m s R))(hm:m.bc=x::xs)(hl:s.aR=a::l)(hk:s.aD.length≤1000){r:nj}(hr:s.reps[a.rep]? =some r)(hrt:r.task=(a.j.t:Int))(ht:a.j.t<c.C.tasks.length):
  c7G (some ⟨b,0,none⟩) (some ⟨x.1,0,none⟩) h (fun v h'=>v= .int .i64 (eT c.C s a)∧Sep h0 h' (kL c b m s R)):=by
 have hlen:=hc.len
 have htl:a.j.t<c.ts.length:=by omega
 apply f1P
 unfold e2i
 simp only[au,ay,Nat.zero_add]
 have ht1:=uc hs hm hl
 refine Sep.kN ht1 0 rfl rfl ?_
 rw[ae]
 refine (LJob.c6U ht1.swap).mono ?_
 rintro v h ⟨rfl,rfl⟩
 simp only[av]
 unfold eT
 refine jS (fun hp=>?_) (fun hp=>?_)
 ·rw[if_pos (show a.j.regions>0 from hp)]
  exact⟨rfl,hs⟩
 ·rw[if_neg (show ¬a.j.regions>0 from hp)]
  refine Sep.kN hs 0 rfl rfl ?_
  refine Sep.aB ht1 0 rfl rfl ?_
  refine Sep.bu hs 0 rfl rfl ?_
  refine Sep.bu hs 0 rfl rfl ?_
  refine Sep.aB ht1 0 rfl rfl ?_
  have hrl:=(List.getElem?_eq_some_iff.1 hr).1
  refine Sep.idx hs 11 rfl (by omega) (by omega) fun p hp=>?_
  rw[Int.toNat_natCast]at hp
  refine Sep.fR hs 11 rfl bA hp hr rfl ?_
  rw[hrt]
  refine hc.rows.ix hs htl fun q hq=>?_
  refine hq.aB rfl ?_
  refine LCei.b4X (LCei.RdK.of hs 6 rfl) hk _ _ ?_
  rw[az,←qi hc htl]
  exact fun h' hu=>⟨rfl,hs.more hu⟩
theorem b6Z (hs:Sep h0 h (kL c b m s R))(hm:m.bc.length=s.aR.length)(held:Bool)(n:Int):b1t (sD m.bc) held n h (fun v h'=>v= .int .i64 (match s.aR with
  |[]=>n
  |a::_=>if held then (if a.j.left<(if a.j.rest<n then a.j.rest else n) then a.j.left else (if a.j.rest<n then a.j.rest else n)) else (if a.j.rest<n then a.j.rest else n))∧h'=h):=by
 apply f0V
 unfold e1x
 cases hl:s.aR with
 |nil=>
  rw[hl]at hm
  have:m.bc=[]:=List.length_eq_zero_iff.1 hm
  rw[this]
  exact⟨rfl,rfl⟩
 |cons a l=>
  cases hx:m.bc with
  |nil=>rw[hx,hl]at hm;simp at hm
  |cons x xs=>
   have ht1:=uc hs hx hl
   simp only[sD,Option.isNone_some,Bool.not_false,aq,au]
   refine Sep.kN ht1 0 rfl rfl ?_
   rw[ae]
   refine (LJob.a1Y ht1.swap).mono ?_
   rintro v h ⟨rfl,rfl⟩
   simp only[az]
   refine Sep.kN ht1 0 rfl rfl ?_
   rw[ae]
   refine (LJob.c6V ht1.swap).mono ?_
   rintro v h ⟨rfl,rfl⟩
   simp only[bD,az,av]
   cases held
   ·exact⟨rfl,rfl⟩
   ·exact⟨rfl,rfl⟩
theorem d2u (hs:Sep h0 h (kL c b m s R))(hm:m.bc.length=s.aR.length)(held:Bool)(u:Int)(hn:0≤s.now∧s.now≤1073741824)(hu:0≤u∧u≤1073741824)(he:∀x∈s.ev,0≤x.e.t∧x.e.t≤1073741824):
  c7E (some ⟨b,0,none⟩) (sD m.bc) u held h (fun v h'=>v= .int .i64 (iP s u held)∧h'=h):=by
 apply f0U
 unfold e1w
 simp only[au,ay,Nat.zero_add]
 refine Sep.aB hs 0 rfl rfl ?_
 refine Sep.kN hs 0 rfl rfl ?_
 rw[ae]
 refine (LAgd.c7p (hs.at 1 rfl)).mono ?_
 rintro v h ⟨rfl,rfl⟩
 unfold iP
 rw[wrap64 (u-s.now) (by omega)]
 cases aH:s.ev with
 |nil=>
  simp only[LAgd.a2f,bD,az,av,aj]
  exact b6Z hs hm held _
 |cons x l=>
  simp only[LAgd.a2f,bD,az,av,aq]
  refine Sep.aB hs 0 rfl rfl ?_
  have hx:=he x (by rw[aH];simp)
  rw[wrap64 (x.e.t-s.now) (by omega)]
  exact b6Z hs hm held _
theorem of6 {e:iO}{n:Nat}(hc:hU h0 c.C c.sm c.sc c.se c.st c.sl c.ts)(hs:Sep h0 h (kL c b m s (aBlk n (LAgd.gp e)::R))):a2G (some ⟨b,0,none⟩) ⟨n,0,none⟩ h (fun v h'=>v= .bool (decide (e.a≥0∧e.a<c.C.lines.length))∧Sep h0 h' (kL c b m s R)):=by
 have hlen:=hc.len
 apply f0I
 unfold e0S
 simp only[au,ay,Nat.zero_add]
 refine Sep.bu hs 0 rfl rfl ?_
 refine Sep.aB hs 16 rfl rfl ?_
 rw[ae,hlen.2.2.2.1]
 by_cases h1:e.a≥0
 ·refine aM (by simpa using h1) ?_
  refine Sep.aB hs 16 rfl rfl ?_
  exact⟨by simp[h1],(dj hs).drop⟩
 ·refine aA (by simpa using h1) ?_
  exact⟨by simp[h1],(dj hs).drop⟩
theorem f2L (e:iO)(hc:hU h0 c.C c.sm c.sc c.se c.st c.sl c.ts)(hs:Sep h0 h (kL c b m s R)):
  c7C (some ⟨b,0,none⟩) e.t e.k e.a e.b e.c h (fun v h'=>v= .bool (decide (e.a≥0∧e.a<(if e.k=2∨e.k=3∨e.k=4 then (c.C.lines.length:Int) else c.C.tasks.length)))∧Sep h0 h' (kL c b m s R)):=by
 have hlen:=hc.len
 apply f0H
 unfold e0R
 refine gz hs fun n h hs=>?_
 simp only[sz2]at hs
 simp only[au,ay,Nat.zero_add]
 refine Sep.bu hs 0 rfl rfl ?_
 refine Sep.aB hs 16 rfl rfl ?_
 by_cases h2:e.k=2
 ·rw[if_pos (.inl h2),show (e.k == 2)=true by simpa using h2]
  simp only[aq]
  exact of6 hc hs
 rw[show (e.k == 2)=false by simpa using h2]
 simp only[aj]
 by_cases h3:e.k=3
 ·rw[if_pos (.inr (.inl h3)),show (e.k == 3)=true by simpa using h3]
  simp only[aq]
  exact of6 hc hs
 rw[show (e.k == 3)=false by simpa using h3]
 simp only[aj]
 by_cases h4:e.k=4
 ·rw[if_pos (.inr (.inr h4)),show (e.k == 4)=true by simpa using h4]
  simp only[aq]
  exact of6 hc hs
 rw[show (e.k == 4)=false by simpa using h4,if_neg (by omega)]
 simp only[aj]
 refine Sep.aB hs 16 rfl rfl ?_
 rw[ae,hlen.2.2.2.2.1]
 by_cases h1:e.a≥0
 ·refine aM (by simpa using h1) ?_
  refine Sep.aB hs 16 rfl rfl ?_
  exact⟨by simp[h1],(dj hs).drop⟩
 ·refine aA (by simpa using h1) ?_
  exact⟨by simp[h1],(dj hs).drop⟩
end
end Go.Proofs.YtnpinhahjgbigaaGreatDoor
end
section
namespace Go.Proofs.YtnpinhahjgbigaaGreatDoor
open Go Go.Sb
section
variable {α:Type}{Q:α→Hp→Prop}{h0 h:Hp}{R L:List As}{c:KC}{b:Nat}{m:KM}{s:KS}
theorem Ti (hs:Sep h0 h (kL c b m s R)){t:Nat}{y:PQ}(hy:s.ready[t]? =some y)(qq:s.tr.length≤900000)(hrp:s.reps.length≤900000)(T4:∀p∈s.pl,¬(p.1.t=(t:Int)∧p.1.n=y.nx∧p.1.a=s.now)):
  Nzl (some ⟨b,0,none⟩) (t:Int) h (fun _ h'=>∃m',m'.bc=m.bc∧Sep h0 h' (kL c b m' (bO s t) R)):=by
 apply f1r
 unfold e1D
 simp only[au,ay,Nat.zero_add]
 have fin:∀(n:Nat) (h:Hp),Sep h0 h (kL c b m { s with ready:=s.ready.set t (jV y t s.now)} (aBlk n (pH ⟨t,y.nx,s.now⟩)::R))→
   Kzb (some ⟨b,0,none⟩) (t:Int) ⟨n,0,none⟩ (if y.q.length=4 then 7 else 0) h (fun _ h'=>∃m',m'.bc=m.bc∧Sep h0 h' (kL c b m' (bO s t) R)):=by
  intro n h hs
  apply f1s
  unfold e1I
  simp only[au,ay,Nat.zero_add]
  by_cases hq:y.q.length=4
  ·rw[if_pos hq]
   refine aM rfl ?_
   have e:bO s t={ s with ready:=s.ready.set t (jV y t s.now),tr:=s.tr++[⟨s.now,2,t,y.nx,0,7,0⟩]}:=by
    unfold bO;rw[hy];simp only[if_pos hq]
   rw[e]
   have Tj:∀(n2:Nat) (h:Hp),Sep h0 h (kL c b m { s with ready:=s.ready.set t (jV y t s.now)} (aBlk n2 (cw ⟨s.now,2,t,y.nx,0,7,0⟩)::aBlk n (pH ⟨t,y.nx,s.now⟩)::R))→
     (bU 64 7 56 #[.int .i64 (0:Int),.int .i64 (0:Int),.int .i64 (0:Int),.int .i64 (0:Int),.int .i64 (0:Int),.int .i64 (0:Int),.int .i64 (0:Int)] m.tr ⟨(some ⟨n2,0,none⟩),1,1⟩ fun qJ=>
      an ⟨b,24,none⟩ (.slice qJ.p qJ.n qJ.c) <| af (Value.tuple #[])) h (fun _ h'=>∃m',m'.bc=m.bc∧Sep h0 h' (kL c b m' { s with ready:=s.ready.set t (jV y t s.now),tr:=s.tr++[⟨s.now,2,t,y.nx,0,7,0⟩]} R)):=by
    intro n2 h hs
    refine Sep.lE hs 14 16 ⟨s.now,2,t,y.nx,0,7,0⟩ rfl rfl (fun _=>rfl) (by simp[Value.oneCell']) rfl (by omega) (by show (2*(s.tr.length+1)+192)*56≤2 ^ 48;omega) fun nU h hn hs=>?_
    refine Sep.st hs 0 rfl rfl rfl fun h hs=>?_
    have hs:Sep h0 h (kL c b { m with tr:=nU} { s with ready:=s.ready.set t (jV y t s.now),tr:=s.tr++[⟨s.now,2,t,y.nx,0,7,0⟩]} (aBlk n2 (cw ⟨s.now,2,t,y.nx,0,7,0⟩)::aBlk n (pH ⟨t,y.nx,s.now⟩)::R)):=hs
    exact⟨{ m with tr:=nU},rfl,(dj (dj hs).drop).drop⟩
   repeat' (first
    |with_reducible refine aK ?_ ?_
    |with_reducible refine Sep.bu hs 0 rfl rfl ?_
    |with_reducible refine Sep.aB hs 0 rfl rfl ?_
    |with_reducible refine Sep.aB hs 16 rfl rfl ?_
    |(with_reducible refine gz hs fun n2 h hs=>?_;simp only[sz2]at hs))
   all_goals exact Tj _ _ hs
  ·rw[if_neg hq]
   refine aA rfl ?_
   refine Sep.bu hs 0 rfl rfl ?_
   refine Sep.ldM hs 0 rfl rfl ?_
   refine Sep.aB hs 16 rfl rfl ?_
   refine Sep.aB hs 16 rfl rfl ?_
   refine Sep.aB hs 16 rfl rfl ?_
   simp only[fS]
   have hrn:m.rs.n=s.reps.length:=hs.bn 11 rfl
   rw[hrn]
   refine e4L hs 12 (x:=⟨t,y.nx,s.now⟩) rfl T4 fun h hs=>?_
   have hs:Sep h0 h (kL c b m { s with ready:=s.ready.set t (jV y t s.now),pl:=s.pl++[(⟨t,y.nx,s.now⟩,s.reps.length)]} (aBlk n (pH ⟨t,y.nx,s.now⟩)::R)):=hs
   have Tj:∀(n2:Nat) (h:Hp),Sep h0 h (kL c b m { s with ready:=s.ready.set t (jV y t s.now),pl:=s.pl++[(⟨t,y.nx,s.now⟩,s.reps.length)]} (aBlk n2 (dx ⟨t,y.nx,s.now,-1,-1,false,0,0,0,0,-1⟩)::aBlk n (pH ⟨t,y.nx,s.now⟩)::R))→
     (bU 66 11 88 #[.int .i64 (0:Int),.int .i64 (0:Int),.int .i64 (0:Int),.int .i64 (0:Int),.int .i64 (0:Int),.bool false,.int .i64 (0:Int),.int .i64 (0:Int),.int .i64 (0:Int),.int .i64 (0:Int),.int .i64 (0:Int)] m.rs ⟨(some ⟨n2,0,none⟩),1,1⟩ fun uk=>
      an ⟨b,21,none⟩ (.slice uk.p uk.n uk.c) <| Kzc (some ⟨b,0,none⟩) (s.reps.length:Int)) h (fun _ h'=>∃m',m'.bc=m.bc∧Sep h0 h' (kL c b m' (bO s t) R)):=by
    intro n2 h hs
    refine Sep.lE hs 11 16 ⟨t,y.nx,s.now,-1,-1,false,0,0,0,0,-1⟩ rfl rfl (fun _=>rfl) (by simp[Value.oneCell']) rfl (by omega) (by show (2*(s.reps.length+1)+192)*88≤2 ^ 48;omega) fun rs' h hn hs=>?_
    refine Sep.st hs 0 rfl rfl rfl fun h hs=>?_
    have hs:Sep h0 h (kL c b { m with rs:=rs'} { s with ready:=s.ready.set t (jV y t s.now),pl:=s.pl++[(⟨t,y.nx,s.now⟩,s.reps.length)],reps:=s.reps++[⟨t,y.nx,s.now,-1,-1,false,0,0,0,0,-1⟩]} (aBlk n2 (dx ⟨t,y.nx,s.now,-1,-1,false,0,0,0,0,-1⟩)::aBlk n (pH ⟨t,y.nx,s.now⟩)::R)):=hs
    have hs:=(dj (dj hs).drop).drop
    apply f1t
    unfold e1M
    simp only[au,ay,Nat.zero_add]
    refine Sep.aB hs 0 rfl rfl ?_
    rw[ae]
    refine (mm hs (by show s.tr.length≤_;omega) 1 s.now (rep:=s.reps.length) (by show _<(s.reps++_).length;simp) 0 0 0 0 0 0 0).mono ?_
    rintro v h ⟨nU,hs⟩
    have e:cV { s with ready:=s.ready.set t (jV y t s.now),pl:=s.pl++[(⟨t,y.nx,s.now⟩,s.reps.length)],reps:=s.reps++[⟨t,y.nx,s.now,-1,-1,false,0,0,0,0,-1⟩]} 1 s.now s.reps.length 0 0 0=bO s t:=by
     unfold cV bO
     rw[hy]
     simp only[if_neg hq]
     rw[List.getElem?_append_right (Nat.le_refl _),Nat.sub_self]
     rfl
    rw[e]at hs
    exact⟨{ m with rs:=rs',tr:=nU},rfl,hs⟩
   repeat' (first
    |with_reducible refine aK ?_ ?_
    |with_reducible refine Sep.bu hs 0 rfl rfl ?_
    |with_reducible refine Sep.aB hs 0 rfl rfl ?_
    |with_reducible refine Sep.aB hs 16 rfl rfl ?_
    |(with_reducible refine gz hs fun n2 h hs=>?_;simp only[sz2]at hs))
   all_goals exact Tj _ _ hs
 have call:∀(R:List As) (h:Hp),Sep h0 h (kL c b m s R)→XS (some ⟨m.rd,0,none⟩) (t:Int) s.now h (fun v h'=>v= .tuple #[gj ⟨t,y.nx,s.now⟩,.int .i64 (if y.q.length=4 then 7 else 0)]∧Sep h0 h' (kL c b m { s with ready:=s.ready.set t (jV y t s.now)} R)):=by
  intro R h hs
  exact via 8 hs rfl fun hs=>QD hs hy s.now
 repeat' (first
  |with_reducible refine aK ?_ ?_
  |with_reducible refine Sep.kN hs 0 rfl rfl ?_
  |with_reducible refine Sep.aB hs 0 rfl rfl ?_
  |(with_reducible refine gz hs fun n2 h hs=>?_;simp only[sz2,ay,Nat.zero_add]at hs ⊢)
  |((with_reducible rw[ae]);refine (call _ _ hs).mono ?_;rintro v h ⟨rfl,hs⟩;simp only[cC,bW,gj,cG,az,cH])
  |(with_reducible refine nt hs 0 rfl rfl rfl fun h hs=>?_;simp only[sz0,sz1]at hs))
 all_goals exact fin _ _ hs
end
end Go.Proofs.YtnpinhahjgbigaaGreatDoor
end
section
namespace Go.Proofs.YtnpinhahjgbigaaGreatDoor
open Go Go.Sb
structure xw (s:KS) (t:Nat):Prop where
 tr:s.tr.length≤900000
 reps:s.reps.length≤900000
 at_:∃y,s.ready[t]? =some y∧∀p∈s.pl,¬(p.1.t=(t:Int)∧p.1.n=y.nx∧p.1.a=s.now)
structure IJ (C:bw) (e:iO):Prop where
 k:1≤e.k∧e.k≤5
 a:0≤e.a
 task:e.k=1∨e.k=5→e.a<C.tasks.length
 line:e.k=2∨e.k=3∨e.k=4→e.a<C.lines.length
 t:0≤e.t∧e.t≤1073741824
 b:e.k=5→1≤e.b∧e.b≤1048576∧1≤e.c∧e.c≤256
structure KP (C:bw) (s:KS):Prop where
 rel:∀t,t<C.tasks.length→xw s t
 lines:s.lines.length=C.lines.length
 of:∀z∈C.lines,0≤z∧z<C.tasks.length
 ev:s.ev.length≤50000
 ord:0≤s.ord∧s.ord≤100000000
section
variable {α:Type}{Q:α→Hp→Prop}{h0 h:Hp}{R L:List As}{c:KC}{b:Nat}{m:KM}{s:KS}
theorem xw.lines {s:KS}{t:Nat}(h:xw s t)(l:List (Bool×Bool)):xw { s with lines:=l} t:=⟨h.tr,h.reps,h.at_⟩
theorem e4P (hs:Sep h0 h (kL c b m s R)){t:Nat}(ht:xw s t):Nzl (some ⟨b,0,none⟩) (t:Int) h (fun _ h'=>∃m',m'.bc=m.bc∧Sep h0 h' (kL c b m' (bO s t) R)):=by
 obtain⟨h1,h2,y,h3,h4⟩:=ht
 exact Ti hs h3 h1 h2 h4
theorem IK (hs:Sep h0 h (kL c b m s R)){z:Int}(hz:0≤z)(ht:xw s z.toNat):Nzl (some ⟨b,0,none⟩) z h (fun _ h'=>∃m',m'.bc=m.bc∧Sep h0 h' (kL c b m' (bO s z.toNat) R)):=by
 obtain⟨t,rfl⟩:∃t:Nat,z=t:=⟨z.toNat,by omega⟩
 exact e4P hs ht
theorem Aw (hc:hU h0 c.C c.sm c.sc c.se c.st c.sl c.ts)(hs:Sep h0 h (kL c b m s R))(ho:KP c.C s){e:Int}(he:0≤e∧e<c.C.lines.length)(is:Bool):
  Nzi (some ⟨b,0,none⟩) e is h (fun _ h'=>∃m',m'.bc=m.bc∧Sep h0 h' (kL c b m' (dV c.C s e is) R)):=by
 apply f1u
 unfold e1N dV
 cases is
 ·simp only[aj,Bool.false_eq_true,if_false]
  exact⟨m,rfl,hs⟩
 ·simp only[aq,if_true,au,ay,Nat.zero_add]
  refine Sep.bu hs 0 rfl rfl ?_
  obtain⟨j,rfl⟩:∃j:Nat,e=j:=⟨e.toNat,by omega⟩
  have hj:j<c.C.lines.length:=by omega
  refine hs.vp hc.lines hj ?_
  have hz:=ho.of c.C.lines[j] (List.getElem_mem hj)
  have e1:c.C.lines.getD (j:Int).toNat 0=c.C.lines[j]:=by
   rw[Int.toNat_natCast,List.getD_eq_getElem?_getD,List.getElem?_eq_getElem hj];rfl
  rw[e1,ae]
  refine (IK hs hz.1 (ho.rel _ (by omega))).mono ?_
  rintro v h ⟨m',hm,hs⟩
  exact⟨m',hm,hs⟩
theorem a7l (hs:Sep h0 h (kL c b m s R))(ho:s.ev.length≤100000∧0≤s.ord∧s.ord≤1000000000)(e:iO):Nzh (some ⟨m.ag,0,none⟩) e.t e.k e.a e.b e.c h (fun _ h'=>Sep h0 h' (kL c b m (a7i s e) R)):=by
 refine (via (Φ:=fun _=>True) 1 hs rfl (a':=LAgd.lG m.ag (oJ ⟨e,s.ord⟩ s.ev) (s.ord+1)) fun hs=>(LAgd.e0m hs ho.1 ho.2 e).mono fun v h hs=>⟨trivial,hs⟩).mono ?_
 rintro v h ⟨_,hs⟩
 exact hs
theorem Ce {l:List (Bool×Bool)}{i:Int}(h:0≤i∧i<l.length):LLin.Bd l i=true:=LLin.ou.2 h
theorem a7m (hc:hU h0 c.C c.sm c.sc c.se c.st c.sl c.ts)(hs:Sep h0 h (kL c b m s R))(ho:KP c.C s){e:iO}(he:IJ c.C e):
  c7D (some ⟨b,0,none⟩) e.t e.k e.a e.b e.c h (fun _ h'=>∃m',m'.bc=m.bc∧Sep h0 h' (kL c b m' (dr c.C s e) R)):=by
 apply f0J
 unfold e0T dr
 refine gz hs fun n h hs=>?_
 simp only[sz2]at hs
 simp only[au,ay,Nat.zero_add]
 refine Sep.aB hs 16 rfl rfl ?_
 by_cases h1:e.k=1
 ·rw[show (e.k == 1)=true by simpa using h1]
  simp only[aq,if_true]
  refine Sep.aB hs 16 rfl rfl ?_
  rw[ae]
  refine (IK hs he.a (ho.rel _ (by have:=he.task (.inl h1);have:=he.a;omega))).mono ?_
  rintro v h ⟨m',hm,hs⟩
  exact⟨m',hm,(dj hs).drop⟩
 rw[show (e.k == 1)=false by simpa using h1]
 simp only[aj,Bool.false_eq_true,if_false]
 by_cases h2:e.k=2
 ·rw[show (e.k == 2)=true by simpa using h2]
  simp only[aq,if_true]
  have hi:0≤e.a∧e.a<s.lines.length:=⟨he.a,by rw[ho.lines];exact he.line (.inl h2)⟩
  have call:YK (some ⟨m.ln,0,none⟩) e.a h (fun v h'=>v= .tuple #[.bool (LLin.Bd s.lines e.a&& !(LLin.gK s.lines e.a).1),.int .i64 (LLin.Bf s.lines e.a)]∧Sep h0 h' (kL c b m { s with lines:=LLin.kP s.lines e.a ((LLin.gK s.lines e.a).1,(LLin.gK s.lines e.a).1)} (aBlk n (LAgd.gp e)::R))):=
   via 7 hs rfl fun hs=>LLin.a1W hs e.a
  rw[Ce hi,Bool.true_and]at call
  have fin:∀h,Sep h0 h (kL c b m { s with lines:=LLin.kP s.lines e.a ((LLin.gK s.lines e.a).1,(LLin.gK s.lines e.a).1)} (aBlk n (LAgd.gp e)::R))→
    (ab .i64 ⟨n,2,none⟩ fun np=>ai (Nzi (some ⟨b,0,none⟩) np (!(LLin.gK s.lines e.a).1)) fun _=>af (Value.tuple #[])) h (fun _ h'=>∃m',m'.bc=m.bc∧Sep h0 h' (kL c b m' (dV c.C { s with lines:=LLin.kP s.lines e.a ((LLin.gK s.lines e.a).1,(LLin.gK s.lines e.a).1)} e.a (!(LLin.gK s.lines e.a).1)) R)):=by
   intro h hs
   refine Sep.aB hs 16 rfl rfl ?_
   rw[ae]
   refine (Aw hc hs ⟨fun t ht=>(ho.rel t ht).lines _,by show (LLin.kP _ _ _).length=_;unfold LLin.kP;rw[Ce hi];simp;exact ho.lines,ho.of,ho.ev,ho.ord⟩ (e:=e.a) ⟨hi.1,by rw[←ho.lines];exact hi.2⟩ _).mono ?_
   rintro v h ⟨m',hm,hs⟩
   exact⟨m',hm,(dj hs).drop⟩
  refine aK ?_ ?_
  ·refine Sep.kN hs 0 rfl rfl ?_
   refine Sep.aB hs 16 rfl rfl ?_
   rw[ae]
   refine call.mono ?_
   rintro v h ⟨rfl,hs⟩
   simp only[bD,av,az]
   exact fin h hs
  ·refine Sep.aB hs 16 rfl rfl ?_
   refine Sep.kN hs 0 rfl rfl ?_
   rw[ae]
   refine call.mono ?_
   rintro v h ⟨rfl,hs⟩
   simp only[bD,av,az]
   exact fin h hs
 rw[show (e.k == 2)=false by simpa using h2]
 simp only[aj,Bool.false_eq_true,if_false]
 by_cases h3:e.k=3
 ·rw[show (e.k == 3)=true by simpa using h3]
  simp only[aq,if_true]
  have call:YM (some ⟨m.ln,0,none⟩) e.a h (fun v h'=>v= .int .i64 (LLin.Bf s.lines e.a)∧Sep h0 h' (kL c b m { s with lines:=LLin.kP s.lines e.a (true,(LLin.gK s.lines e.a).2)} (aBlk n (LAgd.gp e)::R))):=
   via 7 hs rfl fun hs=>LLin.b0q hs e.a
  refine aK ?_ ?_
  ·refine Sep.kN hs 0 rfl rfl ?_
   refine Sep.aB hs 16 rfl rfl ?_
   rw[ae]
   refine call.mono ?_
   rintro v h ⟨rfl,hs⟩
   exact⟨m,rfl,(dj hs).drop⟩
  ·refine Sep.aB hs 16 rfl rfl ?_
   refine Sep.kN hs 0 rfl rfl ?_
   rw[ae]
   refine call.mono ?_
   rintro v h ⟨rfl,hs⟩
   exact⟨m,rfl,(dj hs).drop⟩
 rw[show (e.k == 3)=false by simpa using h3]
 simp only[aj,Bool.false_eq_true,if_false]
 by_cases h4:e.k=4
 ·rw[show (e.k == 4)=true by simpa using h4]
  simp only[aq,if_true]
  have hi:0≤e.a∧e.a<s.lines.length:=⟨he.a,by rw[ho.lines];exact he.line (.inr (.inr h4))⟩
  have call:YL (some ⟨m.ln,0,none⟩) e.a h (fun v h'=>v= .tuple #[.bool (LLin.Bd s.lines e.a&&(LLin.gK s.lines e.a).2),.int .i64 (LLin.Bf s.lines e.a)]∧Sep h0 h' (kL c b m { s with lines:=LLin.kP s.lines e.a (false,false)} (aBlk n (LAgd.gp e)::R))):=
   via 7 hs rfl fun hs=>LLin.Rx hs e.a
  rw[Ce hi,Bool.true_and]at call
  have fin:∀h,Sep h0 h (kL c b m { s with lines:=LLin.kP s.lines e.a (false,false)} (aBlk n (LAgd.gp e)::R))→
    (ab .i64 ⟨n,2,none⟩ fun np=>ai (Nzi (some ⟨b,0,none⟩) np (LLin.gK s.lines e.a).2) fun _=>af (Value.tuple #[])) h (fun _ h'=>∃m',m'.bc=m.bc∧Sep h0 h' (kL c b m' (dV c.C { s with lines:=LLin.kP s.lines e.a (false,false)} e.a (LLin.gK s.lines e.a).2) R)):=by
   intro h hs
   refine Sep.aB hs 16 rfl rfl ?_
   rw[ae]
   refine (Aw hc hs ⟨fun t ht=>(ho.rel t ht).lines _,by show (LLin.kP _ _ _).length=_;unfold LLin.kP;rw[Ce hi];simp;exact ho.lines,ho.of,ho.ev,ho.ord⟩ (e:=e.a) ⟨hi.1,by rw[←ho.lines];exact hi.2⟩ _).mono ?_
   rintro v h ⟨m',hm,hs⟩
   exact⟨m',hm,(dj hs).drop⟩
  refine aK ?_ ?_
  ·refine Sep.kN hs 0 rfl rfl ?_
   refine Sep.aB hs 16 rfl rfl ?_
   rw[ae]
   refine call.mono ?_
   rintro v h ⟨rfl,hs⟩
   simp only[bD,av,az]
   exact fin h hs
  ·refine Sep.aB hs 16 rfl rfl ?_
   refine Sep.kN hs 0 rfl rfl ?_
   rw[ae]
   refine call.mono ?_
   rintro v h ⟨rfl,hs⟩
   simp only[bD,av,az]
   exact fin h hs
 rw[show (e.k == 4)=false by simpa using h4]
 simp only[aj,Bool.false_eq_true,if_false]
 have h5:e.k=5:=by have:=he.k;omega
 rw[show (e.k == 5)=true by simpa using h5]
 simp only[aq,if_true]
 refine Sep.aB hs 16 rfl rfl ?_
 rw[ae]
 have hrel:=ho.rel e.a.toNat (by have:=he.task (.inr h5);have:=he.a;omega)
 refine (IK hs he.a hrel).mono ?_
 rintro v h ⟨m',hm,hs⟩
 refine Sep.aB hs 16 rfl rfl ?_
 have hb:=he.b h5
 have ht:=he.t
 refine jS (fun hcc=>?_) (fun hcc=>?_)
 ·rw[if_pos hcc]
  refine Sep.aB hs 16 rfl rfl ?_
  refine Sep.aB hs 16 rfl rfl ?_
  refine nt hs 0 rfl rfl rfl fun h hs=>?_
  simp only[sz0,sz1]at hs
  refine Sep.aB hs 16 rfl rfl ?_
  refine nt hs 0 rfl rfl rfl fun h hs=>?_
  simp only[sz0,sz1]at hs
  rw[wrap64 (e.t+e.b) (by omega),wrap64 (e.c-1) (by omega)]at hs
  have aH:(bO s e.a.toNat).ev=s.ev∧(bO s e.a.toNat).ord=s.ord:=by
   unfold bO
   split
   ·exact⟨rfl,rfl⟩
   ·split<;>exact⟨rfl,rfl⟩
  have call:=a7l hs (by rw[aH.1,aH.2];have:=ho.ev;have:=ho.ord;omega) ⟨e.t+e.b,e.k,e.a,e.b,e.c-1⟩
  refine aK ?_ ?_
  ·refine Sep.kN hs 0 rfl rfl ?_
   refine LAgd.jX (x:=⟨e.t+e.b,e.k,e.a,e.b,e.c-1⟩) hs 16 rfl rfl ?_
   rw[ae]
   refine call.mono ?_
   rintro v h hs
   exact⟨m',hm,(dj hs).drop⟩
  ·refine LAgd.jX (x:=⟨e.t+e.b,e.k,e.a,e.b,e.c-1⟩) hs 16 rfl rfl ?_
   refine Sep.kN hs 0 rfl rfl ?_
   rw[ae]
   refine call.mono ?_
   rintro v h hs
   exact⟨m',hm,(dj hs).drop⟩
 ·rw[if_neg hcc]
  exact⟨m',hm,(dj hs).drop⟩
theorem mS {β:Type}{g:Bool}{kd:IntKind}{a:Addr}{n:Int}{f:Int→Bool}{K:Bool→M β}{Q:β→Hp→Prop}(ha:hcell h a=some (.int kd n))(hK:K (g&&f n) h Q):ai (aI g (ab kd a fun x=>af (f x)) (af false)) K h Q:=by
 cases g
 ·exact hK
 ·exact⟨n,ha,hK⟩
theorem sE {β:Type}{g:Bool}{kd:IntKind}{a:Addr}{n:Int}{f:Int→Bool}{K:Bool→M β}{Q:β→Hp→Prop}(ha:hcell h a=some (.int kd n))(hK:K (g||f n) h Q):ai (aI g (af true) (ab kd a fun x=>af (f x))) K h Q:=by
 cases g
 ·exact⟨n,ha,hK⟩
 ·exact hK
theorem b4Z (e:iO)(hc:hU h0 c.C c.sm c.sc c.se c.st c.sl c.ts)(hs:Sep h0 h (kL c b m s R))(ho:s.ev.length≤100000∧0≤s.ord∧s.ord≤1000000000):
  Nzv (some ⟨b,0,none⟩) e.t e.k e.a e.b e.c h (fun v h'=>v= .int .i64 (Th c.C s e)∧Sep h0 h' (kL c b m (bK c.C s e) R)):=by
 apply f0x
 unfold e0t
 refine gz hs fun n h hs=>?_
 simp only[sz2]at hs
 simp only[au,ay,Nat.zero_add]
 have cell:∀o v,(LAgd.gp e)[o]? =some v→hcell h ⟨n,o,none⟩=some v:=fun o v hv=>by rw[(hs.mD 16 rfl).cell];exact hv
 have c0:=cell 0 _ rfl
 have c1:=cell 1 _ rfl
 have c3:=cell 3 _ rfl
 have c4:=cell 4 _ rfl
 refine Sep.aB hs 16 rfl rfl ?_
 refine mS c3 ?_
 refine mS c4 ?_
 refine mS c4 ?_
 simp only[Option.isNone_some]
 refine sE c1 ?_
 refine sE c1 ?_
 unfold bK Th
 by_cases g1:e.k<1∨e.k>5
 ·rw[if_pos g1]
  refine aM (by simpa using g1) ?_
  exact⟨rfl,by simpa using (dj hs).drop⟩
 rw[if_neg g1]
 refine aA (by simp;omega) ?_
 refine Sep.aB hs 16 rfl rfl ?_
 refine Sep.aB hs 0 rfl rfl ?_
 refine sE c0 ?_
 refine sE c1 ?_
 by_cases g2:e.t<s.now∨e.t>16777216∨(e.k=5∧¬(e.b≥1∧e.b≤1048576∧e.c≥1∧e.c≤256))
 ·rw[if_pos g2]
  refine aM (by simp;omega) ?_
  exact⟨rfl,by simpa using (dj hs).drop⟩
 rw[if_neg g2]
 refine aA (by simp;omega) ?_
 refine LAgd.jX (x:=e) hs 16 rfl rfl ?_
 rw[ae]
 refine (f2L e hc hs).mono ?_
 rintro v h ⟨rfl,hs⟩
 simp only[av]
 by_cases g3:e.a≥0∧e.a<(if e.k=2∨e.k=3∨e.k=4 then (c.C.lines.length:Int) else c.C.tasks.length)
 ·rw[decide_eq_true g3,if_neg (not_not_intro g3)]
  refine aA rfl ?_
  refine Sep.kN hs 0 rfl rfl ?_
  rw[ae]
  refine (LAgd.Ki (hs.at 1 rfl)).mono ?_
  rintro v h ⟨rfl,rfl⟩
  simp only[az]
  by_cases g4:(s.ev.length:Int)≥256
  ·rw[if_pos g4,decide_eq_true g4]
   exact⟨rfl,by simpa using (dj hs).drop⟩
  ·rw[if_neg g4,decide_eq_false g4]
   simp only[aj,if_true]
   refine aK ?_ ?_
   ·refine Sep.kN hs 0 rfl rfl ?_
    refine LAgd.jX (x:=e) hs 16 rfl rfl ?_
    rw[ae]
    refine (a7l hs ho e).mono ?_
    rintro v h hs
    exact⟨rfl,(dj hs).drop⟩
   ·refine LAgd.jX (x:=e) hs 16 rfl rfl ?_
    refine Sep.kN hs 0 rfl rfl ?_
    rw[ae]
    refine (a7l hs ho e).mono ?_
    rintro v h hs
    exact⟨rfl,(dj hs).drop⟩
 ·rw[decide_eq_false g3,if_pos g3]
  refine aM rfl ?_
  exact⟨rfl,by simpa using (dj hs).drop⟩
end
end Go.Proofs.YtnpinhahjgbigaaGreatDoor
end
section
namespace Go.Proofs.YtnpinhahjgbigaaGreatDoor
open Go Go.Sb
structure yw {X:Type} (h0:Hp) (enc:X→List Value) (x:X) (a:Addr):Prop where
 at_:∀j v,(enc x)[j]? =some v→hcell h0 (a.add j)=some v
 lt:a.block<h0.size
section
variable {α:Type}{Q:α→Hp→Prop}{h0 h:Hp}{L:List As}{X:Type}{enc:X→List Value}{x:X}{a:Addr}{j:Nat}
theorem ixB {s:Sl}{sz:Nat}{xs:List X}{K:Addr→M α}(hs:Sep h0 h L)(hr:fK h0.size h0 enc sz s xs)(hj:j<xs.length)(hk:∀a,yw h0 enc (xs[j]'hj) a→K a h Q):bd s (j:Int) sz K h Q:=by
 obtain⟨a,h1,h2,h3⟩:=hr.at_ j _ (List.getElem?_eq_getElem hj)
 have hn:=hr.n
 refine⟨a,h1,by omega,by omega,hk _ ⟨?_,by rw[fj];exact h2⟩⟩
 rw[Int.toNat_natCast]
 exact h3
theorem yw.cell (ha:yw h0 enc x a)(hs:Sep h0 h L){v:Value}(hc:(enc x)[j]? =some v):hcell h (a.add j)=some v:=by
 rw[hs.under.cell (by rw[fj];exact ha.lt)]
 exact ha.at_ _ _ hc
theorem yw.aB (ha:yw h0 enc x a)(hs:Sep h0 h L){kd:IntKind}{n:Int}{K:Int→M α}(hc:(enc x)[j]? =some (.int kd n))(hK:K n h Q):ab kd (a.add j) K h Q:=qH (ha.cell hs hc) hK
theorem yw.mG (ha:yw h0 enc x a)(hs:Sep h0 h L){kd:IntKind}{n:Int}{K:Int→M α}(hc:(enc x)[0]? =some (.int kd n))(hK:K n h Q):ab kd a K h Q:=by
 rw[←Addr.add_zero' a];exact ha.aB hs hc hK
theorem yw.bu (ha:yw h0 enc x a)(hs:Sep h0 h L){p:Option Addr}{n c:Nat}{K:Sl→M α}(hc:(enc x)[j]? =some (.slice p n c))(hK:K ⟨p,n,c⟩ h Q):aw (a.add j) K h Q:=om (ha.cell hs hc) hK
end
structure Tk (C:bw) (s:KS):Prop where
 inj:∀(i j:Nat) (y z:PQ),s.ready[i]? =some y→s.ready[j]? =some z→y.pr=z.pr→i=j
 len:s.ready.length=C.tasks.length
 pr:∀(i:Nat) (y:PQ),s.ready[i]? =some y→y.pr=(bS C i).pr
 pl:∀(i:Nat) (y:PQ) (x:cA) (q:List cA),s.ready[i]? =some y→y.q=x::q→x.t=(i:Int)∧(∃p∈s.pl,p.1.t=x.t∧p.1.n=x.n∧p.1.a=x.a)∧jC x s.pl<s.reps.length
 fr:∀i,i<C.tasks.length→0≤(bS C i).fr∧(bS C i).fr≤4096
 iJ:LFrame.Fu (iJ C s.aR)
 aR:s.aR.length≤200
 cr:depth C s.aR≤s.cr
 cache:LCache.Cs C.ways.toNat s.cache
 tr:s.tr.length≤950000
theorem KQ {ys:List PQ}(f2M:∀(i j:Nat) (y z:PQ),ys[i]? =some y→ys[j]? =some z→y.pr=z.pr→i=j){i:Nat}{y:PQ}(ht:YC ys i y):o6 ys=some i:=by
 have hil:=(List.getElem?_eq_some_iff.1 ht.at_).1
 have hp:sA ys i=true:=by
  unfold sA
  rw[ht.at_]
  simp only[Bool.and_eq_true,Bool.not_eq_true',List.all_eq_true,Bool.or_eq_true,decide_eq_true_eq,List.isEmpty_iff]
  refine⟨by simpa using ht.ne,fun z hz=>?_⟩
  obtain⟨j,hj⟩:=List.getElem?_of_mem hz
  by_cases he:z.q=[]
  ·exact .inl he
  ·exact .inr (ht.top j z hj he)
 unfold o6
 rw[List.find?_range_eq_some]
 refine⟨hp,by simpa using hil,fun j hj=>?_⟩
 cases hpj:sA ys j
 ·rfl
 ·exfalso
  unfold sA at hpj
  split at hpj
  ·rename_i z hz
   simp only[Bool.and_eq_true,Bool.not_eq_true',List.all_eq_true,Bool.or_eq_true,decide_eq_true_eq,List.isEmpty_iff]at hpj
   have h1:=hpj.2 y (List.mem_of_getElem? ht.at_)
   rcases h1 with h1|h1
   ·exact ht.ne h1
   ·have h2:=ht.top j z hz (by simpa using hpj.1)
    have:=f2M i j y z ht.at_ hz (by omega)
    omega
  ·cases hpj
theorem Ax {ys:List PQ}(h:∀y∈ys,y.q=[]):o6 ys=none:=by
 unfold o6
 rw[List.find?_eq_none]
 intro i hi hp
 unfold sA at hp
 split at hp
 ·rename_i y hy
  rw[h y (List.mem_of_getElem? hy)]at hp
  simp at hp
 ·cases hp
theorem kJ (C:bw)(a:dD)(l:List dD):iJ C (a::l)=iJ C l++[((a.rep:Int),(bS C a.j.t).fr)]:=by
 unfold iJ;rw[List.reverse_cons,List.map_append];rfl
section
variable {α:Type}{Q:α→Hp→Prop}{h0 h:Hp}{R L:List As}{c:KC}{b:Nat}{m:KM}{s:KS}
theorem d2v (hs:Sep h0 h (kL c b m s R))(hl:s.tr.length≤1000000){n:Nat}(hn:n<s.reps.length)(base:Int):Kzh (some ⟨b,0,none⟩) (n:Int) base h (fun _ h'=>∃nU:Sl,Sep h0 h' (kL c b { m with tr:=nU} (cV s 3 s.now n 0 0 base) R)):=by
 apply f1O
 unfold e2h
 simp only[au,ay,Nat.zero_add]
 refine Sep.aB hs 0 rfl rfl ?_
 rw[ae]
 refine (mm hs hl 3 s.now hn 0 0 0 0 0 0 base).mono ?_
 rintro v h ⟨nU,hs⟩
 exact⟨nU,hs⟩
theorem b5a (hc:hU h0 c.C c.sm c.sc c.se c.st c.sl c.ts){i:Nat}(hi:i<c.ts.length):LJob.c6T ⟨(c.ts[i]'hi).1.pr,(c.ts[i]'hi).1.th,(c.ts[i]'hi).1.pe,(c.ts[i]'hi).1.de,(c.ts[i]'hi).1.fr,(c.ts[i]'hi).1.fl,(c.ts[i]'hi).2⟩=di c (iI c.C i):=by
 have h1:=qi hc hi
 have h2:(c.ts.getD i (⟨0,0,0,0,0,0,[]⟩,⟨none,0,0⟩)).2=(c.ts[i]'hi).2:=by rw[List.getD_eq_getElem?_getD,List.getElem?_eq_getElem hi];rfl
 have h3:=(hc.ops (c.ts[i]'hi) (List.getElem_mem hi)).1.n
 unfold LJob.c6T di iI
 simp only[h1,h2]
 congr 1
 simp only[h3]
 rw[Bool.eq_iff_iff];simp
theorem grow {n1 n2 jb:Nat}{ss':Sl}{X5:As}{a:dD}{F:List (Int×Int)}(hs:Sep h0 h (aBlk b (sC c { m with ss:=ss'} s.now)::LAgd.lG m.ag s.ev s.ord::LCache.cq m.ca c.C.ways.toNat s.cache::LMbx.dW m.bx s.boxes::LFlg.aF m.gr s.groups::LCnt.aC m.ct s.counts::LCei.tZ m.lk s.aD::LLin.aL m.ln s.lines::
  cR m.rd s.ready::LFrame.jH m.fr F s.cr::aRow yu 1 ss' (m.bc.reverse++[(n1,jb)])::aRow dx 11 m.rs s.reps::aPl m.pm s.pl::aMap m.fm .i64 m.ff m.fn::aRow cw 7 m.tr s.tr::db (List.zipWith (qh c) m.bc s.aR)::
  aBlk n2 (yu (n1,jb))::aBlk n1 (qg (n1,jb) a)::aBlk jb (di c a.j).enc::X5::R)) (hF:F=iJ c.C (a::s.aR)):
  Sep h0 h (kL c b { m with ss:=ss',bc:=(n1,jb)::m.bc} { s with aR:=a::s.aR} R):=by
 have hs:=hs.jN 20 [16,19,17,18,15,0,1,2,3,4,5,6,7,8,9,10,11,12,13,14] rfl (by simp)
 have hs:Sep h0 h (aBlk n2 (yu (n1,jb))::X5::aBlk n1 (qg (n1,jb) a)::aBlk jb (di c a.j).enc::db (List.zipWith (qh c) m.bc s.aR)::aBlk b (sC c { m with ss:=ss'} s.now)::LAgd.lG m.ag s.ev s.ord::LCache.cq m.ca c.C.ways.toNat s.cache::LMbx.dW m.bx s.boxes::LFlg.aF m.gr s.groups::LCnt.aC m.ct s.counts::LCei.tZ m.lk s.aD::LLin.aL m.ln s.lines::
  cR m.rd s.ready::LFrame.jH m.fr F s.cr::aRow yu 1 ss' (m.bc.reverse++[(n1,jb)])::aRow dx 11 m.rs s.reps::aPl m.pm s.pl::aMap m.fm .i64 m.ff m.fn::aRow cw 7 m.tr s.tr::R):=hs
 have hs:=(II (x:=(n1,jb)) (a:=a)).2 hs.drop.drop
 rw[←List.reverse_cons]at hs
 subst hF
 exact hs.perm (ml ((kL c b { m with ss:=ss',bc:=(n1,jb)::m.bc} { s with aR:=a::s.aR} []).take 15) _ R)
theorem d2w (hc:hU h0 c.C c.sm c.sc c.se c.st c.sl c.ts){i n n5:Nat}(hi:i<c.ts.length){F:List (Int×Int)}(hF:F=iJ c.C (⟨iI c.C i,n,false⟩::s.aR))(hs:Sep h0 h (kG c b m s F (aBlk n5 (lO (c.ts[i]'hi))::R)))(hl:s.tr.length≤1000000)(hm:m.bc.length=s.aR.length)(hk:s.aR.length≤200)(hn':n<s.reps.length)(base:Int):
  Kzt (some ⟨b,0,none⟩) (n:Int) ⟨n5,0,none⟩ base h (fun _ h'=>∃m',m'.bc.length=s.aR.length+1∧Sep h0 h' (kL c b m' (cV { s with aR:=⟨iI c.C i,n,false⟩::s.aR} 3 s.now n 0 0 base) R)):=by
 apply f1N
 unfold e2g
 simp only[au,ay,Nat.zero_add]
 have call:∀(R:List As) (h:Hp),Sep h0 h (kG c b m s F R)→Nzs (c.ts[i]'hi).1.pr (c.ts[i]'hi).1.th (c.ts[i]'hi).1.pe (c.ts[i]'hi).1.de (c.ts[i]'hi).1.fr (c.ts[i]'hi).1.fl (c.ts[i]'hi).2 h (fun v h'=>∃jb,v= .pointer (some ⟨jb,0,none⟩)∧Sep h0 h' (kG c b m s F (aBlk jb (di c (iI c.C i)).enc::R))):=by
  intro R h hs
  refine (LJob.qX hs ⟨(c.ts[i]'hi).1.pr,(c.ts[i]'hi).1.th,(c.ts[i]'hi).1.pe,(c.ts[i]'hi).1.de,(c.ts[i]'hi).1.fr,(c.ts[i]'hi).1.fl,(c.ts[i]'hi).2⟩).mono ?_
  rintro v h ⟨jb,rfl,hs⟩
  rw[b5a hc hi]at hs
  exact⟨jb,rfl,kIn hs⟩
 have fin:∀(n2 n1 jb:Nat) (h:Hp),Sep h0 h (kG c b m s F (aBlk n2 (yu (n1,jb))::aBlk n1 (qg (n1,jb) ⟨iI c.C i,n,false⟩)::aBlk jb (di c (iI c.C i)).enc::aBlk n5 (lO (c.ts[i]'hi))::R))→
   (bU 169 1 8 #[.pointer none] m.ss ⟨(some ⟨n2,0,none⟩),1,1⟩ fun TD=>an ⟨b,20,none⟩ (.slice TD.p TD.n TD.c) <| Kzh (some ⟨b,0,none⟩) (n:Int) base) h (fun _ h'=>∃m',m'.bc.length=s.aR.length+1∧Sep h0 h' (kL c b m' (cV { s with aR:=⟨iI c.C i,n,false⟩::s.aR} 3 s.now n 0 0 base) R)):=by
  intro n2 n1 jb h hs
  refine Sep.lE hs 10 16 (n1,jb) rfl rfl (fun _=>rfl) (by simp[Value.oneCell']) rfl (by omega) (by rw[List.length_reverse,hm];omega) fun ss' h hn hs=>?_
  refine Sep.st hs 0 rfl rfl rfl fun h hs=>?_
  have hs:=grow (m:=m) (s:=s) (ss':=ss') (n1:=n1) (n2:=n2) (jb:=jb) (a:=⟨iI c.C i,n,false⟩) hs hF
  refine (d2v hs (by show s.tr.length≤1000000;exact hl) hn' base).mono ?_
  rintro v h ⟨nU,hs⟩
  exact⟨_,by show m.bc.length+1=_;rw[hm],hs⟩
 repeat' (first
  |with_reducible refine aK ?_ ?_
  |with_reducible refine Sep.bu hs 0 rfl rfl ?_
  |with_reducible refine Sep.aB hs 16 rfl rfl ?_
  |with_reducible refine Sep.e5Y hs 16 rfl rfl ?_
  |with_reducible refine Sep.aB hs 17 rfl rfl ?_
  |((with_reducible rw[ae]);refine (call _ _ hs).mono ?_;rintro v h ⟨jb,rfl,hs⟩;simp only[aS])
  |(with_reducible refine gz hs fun n2 h hs=>?_;simp only[sz2,ay,Nat.zero_add]at hs ⊢))
 all_goals exact fin _ _ _ _ hs
theorem dY {X:Type}(l:List X)(n:Nat)(f:X→X){x:X}(hx:l[n]? =some x):l.modify n f=l.set n (f x):=by
 apply List.ext_getElem?
 intro i
 rw[List.getElem?_modify,List.getElem?_set]
 by_cases h:n=i
 ·subst h
  obtain⟨hl,he⟩:=List.getElem?_eq_some_iff.1 hx
  simp[hl,he]
 ·simp[h]
theorem d2x (hc:hU h0 c.C c.sm c.sc c.se c.st c.sl c.ts){i n n5:Nat}(hi:i<c.ts.length){F:List (Int×Int)}(hF:F=iJ c.C (⟨iI c.C i,n,false⟩::s.aR))(hs:Sep h0 h (kG c b m s F (aBlk n5 (lO (c.ts[i]'hi))::R)))(hl:s.tr.length≤1000000)(hm:m.bc.length=s.aR.length)(hk:s.aR.length≤200)(hn:n<s.reps.length)(Kz:LCache.Cs c.C.ways.toNat s.cache)(base:Int):
  Kzd (some ⟨b,0,none⟩) (n:Int) ⟨n5,0,none⟩ base h (fun _ h'=>∃m',m'.bc.length=s.aR.length+1∧Sep h0 h' (kL c b m' (cV { s with aR:=⟨iI c.C i,n,false⟩::s.aR} 3 s.now n 0 0 base) R)):=by
 apply f1M
 unfold e2e
 simp only[au,ay,Nat.zero_add]
 have call:Nzr (some ⟨m.ca,0,none⟩) h (fun v h'=>∃b',v= .pointer (some ⟨b',0,none⟩)∧Sep h0 h' (kG c b m s F (aBlk n5 (lO (c.ts[i]'hi))::R))):=by
  refine (LCache.c7r (hs.at 2 rfl) Kz).mono ?_
  rintro v h ⟨b',rfl,hs⟩
  exact⟨b',rfl,hs.drop.perm (set_perm 2 (kG c b m s F (aBlk n5 (lO (c.ts[i]'hi))::R)) (by simp))⟩
 have fin:∀(h:Hp) (b':Nat),Sep h0 h (kG c b m s F (aBlk n5 (lO (c.ts[i]'hi))::R))→(gb .i64 m.fm (n:Int) (.pointer (some ⟨b',0,none⟩)) <| Kzt (some ⟨b,0,none⟩) (n:Int) ⟨n5,0,none⟩ base) h
   (fun _ h'=>∃m',m'.bc.length=s.aR.length+1∧Sep h0 h' (kL c b m' (cV { s with aR:=⟨iI c.C i,n,false⟩::s.aR} 3 s.now n 0 0 base) R)):=by
  intro h b' hs
  refine Sep.AZ hs 13 rfl fun h hs=>?_
  exact d2w hc (m:={ m with ff:=fun j=>if j=(n:Int) then some (.pointer (some ⟨b',0,none⟩)) else m.ff j,fn:=if (m.ff (n:Int)).isSome then m.fn else m.fn+1}) hi hF hs hl hm hk hn base
 repeat' (first
  |with_reducible refine aK ?_ ?_
  |with_reducible refine Sep.ldM hs 0 rfl rfl ?_
  |with_reducible refine Sep.kN hs 0 rfl rfl ?_
  |((with_reducible rw[ae]);refine call.mono ?_;rintro v h ⟨b',rfl,hs⟩;simp only[aS])
  |(with_reducible simp only[fS]))
 all_goals exact fin _ _ hs
theorem d2y (hc:hU h0 c.C c.sm c.sc c.se c.st c.sl c.ts){i n n5:Nat}(hi:i<c.ts.length){F:List (Int×Int)}(hF:F=iJ c.C (⟨iI c.C i,n,false⟩::s.aR))(hs:Sep h0 h (kG c b m s F (aBlk n5 (lO (c.ts[i]'hi))::R)))(hl:s.tr.length≤1000000)(hm:m.bc.length=s.aR.length)(hk:s.aR.length≤200)(hn:n<s.reps.length)(Kz:LCache.Cs c.C.ways.toNat s.cache)(base:Int):
  a3T (some ⟨b,0,none⟩) (n:Int) ⟨n5,0,none⟩ base h (fun _ h'=>∃m',m'.bc.length=s.aR.length+1∧Sep h0 h' (kL c b m' (cV { s with reps:=s.reps.modify n (fun r=>{ r with start:=s.now,base:=base}),aR:=⟨iI c.C i,n,false⟩::s.aR} 3 s.now n 0 0 base) R)):=by
 have hx:=List.getElem?_eq_getElem hn
 rw[dY s.reps n _ hx]
 generalize s.reps[n]=x at hx
 apply f1L
 unfold e2d
 simp only[au,ay,Nat.zero_add]
 have fin:(bd m.rs (n:Int) 11 fun yc=>an (yc.add 3) (.int .i64 s.now) <| bd m.rs (n:Int) 11 fun x66=>an (x66.add 10) (.int .i64 base) <| Kzd (some ⟨b,0,none⟩) (n:Int) ⟨n5,0,none⟩ base) h
   (fun _ h'=>∃m',m'.bc.length=s.aR.length+1∧Sep h0 h' (kL c b m' (cV { s with reps:=s.reps.set n { x with start:=s.now,base:=base},aR:=⟨iI c.C i,n,false⟩::s.aR} 3 s.now n 0 0 base) R)):=by
  refine Sep.idx hs 11 rfl (by omega) (by omega) fun p hp=>?_
  rw[Int.toNat_natCast]at hp
  refine Sep.sR hs 11 { x with start:=s.now} rfl bA hp hx (by omega) rfl rfl fun h hs=>?_
  have hs:Sep h0 h (kG c b m { s with reps:=s.reps.set n { x with start:=s.now}} F (aBlk n5 (lO (c.ts[i]'hi))::R)):=hs
  refine Sep.idx hs 11 rfl (by omega) (by simp;omega) fun p hp=>?_
  rw[Int.toNat_natCast]at hp
  refine Sep.sR hs 11 { x with start:=s.now,base:=base} rfl bA hp (List.getElem?_set_self hn) (by omega) rfl rfl fun h hs=>?_
  rw[show ({ s with reps:=s.reps.set n { x with start:=s.now}}:KS).reps.set n { x with start:=s.now,base:=base}=s.reps.set n { x with start:=s.now,base:=base} from List.set_set _]at hs
  exact d2x hc (s:={ s with reps:=s.reps.set n { x with start:=s.now,base:=base}}) hi hF hs hl hm hk (by simpa using hn) Kz base
 repeat' (first
  |with_reducible refine aK ?_ ?_
  |with_reducible refine Sep.bu hs 0 rfl rfl ?_
  |with_reducible refine Sep.aB hs 0 rfl rfl ?_)
 all_goals exact fin
theorem d2z (hc:hU h0 c.C c.sm c.sc c.se c.st c.sl c.ts){i n n5:Nat}(hi:i<c.ts.length)(hs:Sep h0 h (kL c b m s (aBlk n5 (lO (c.ts[i]'hi))::R)))(hl:s.tr.length≤1000000)(hm:m.bc.length=s.aR.length)(hk:s.aR.length≤200)(hn:n<s.reps.length)(Kz:LCache.Cs c.C.ways.toNat s.cache)
  (hfo:LFrame.Fu (iJ c.C s.aR)) (hfr:0≤(bS c.C i).fr∧(bS c.C i).fr≤4096) (hpk:depth c.C s.aR≤s.cr):
  Kz4 (some ⟨b,0,none⟩) (n:Int) ⟨n5,0,none⟩ h (fun _ h'=>∃m',m'.bc.length=s.aR.length+1∧Sep h0 h' (kL c b m' (cV { s with cr:=max s.cr (depth c.C s.aR+(bS c.C i).fr),reps:=s.reps.modify n (fun r=>{ r with start:=s.now,base:=depth c.C s.aR}),aR:=⟨iI c.C i,n,false⟩::s.aR} 3 s.now n 0 0 (depth c.C s.aR)) R)):=by
 apply f1K
 unfold e2c
 simp only[au,ay,Nat.zero_add]
 have he:=qi hc hi
 have call:Nzo (some ⟨m.fr,0,none⟩) (n:Int) (c.ts[i]'hi).1.fr h (fun v h'=>v= .tuple #[.int .i64 (depth c.C s.aR),.int .i64 0]∧Sep h0 h' (kG c b m { s with cr:=max s.cr (depth c.C s.aR+(bS c.C i).fr)} (iJ c.C (⟨iI c.C i,n,false⟩::s.aR)) (aBlk n5 (lO (c.ts[i]'hi))::R))):=by
  have hz:LFrame.uo (c.ts[i]'hi).1.fr=false:=by
   rw[←he];unfold LFrame.uo
   rw[decide_eq_false (by omega),decide_eq_false (by omega)];rfl
  have hlt:(iJ c.C s.aR).length<256:=by unfold iJ;rw[List.length_map,List.length_reverse];omega
  have q:∀{R:List As},Sep h0 h (LFrame.jH m.fr (iJ c.C s.aR) s.cr::R)→Nzo (some ⟨m.fr,0,none⟩) (n:Int) (c.ts[i]'hi).1.fr h (fun v h'=>v= .tuple #[.int .i64 (LFrame.du (iJ c.C s.aR)),.int .i64 0]∧Sep h0 h' (LFrame.jH m.fr (iJ c.C s.aR++[((n:Int),(c.ts[i]'hi).1.fr)]) (max s.cr (LFrame.du (iJ c.C s.aR)+(c.ts[i]'hi).1.fr))::R)):=by
   intro R hs
   exact LFrame.c6R hs hfo (n:Int) (c.ts[i]'hi).1.fr hz hlt hpk
  refine (via 9 hs rfl fun hs=>q hs).mono ?_
  rintro v h ⟨rfl,hs⟩
  rw[kJ]
  refine⟨rfl,?_⟩
  rw[←he]at hs
  exact hs
 have fin:∀h,Sep h0 h (kG c b m { s with cr:=max s.cr (depth c.C s.aR+(bS c.C i).fr)} (iJ c.C (⟨iI c.C i,n,false⟩::s.aR)) (aBlk n5 (lO (c.ts[i]'hi))::R))→a3T (some ⟨b,0,none⟩) (n:Int) ⟨n5,0,none⟩ (depth c.C s.aR) h (fun _ h'=>∃m',m'.bc.length=s.aR.length+1∧Sep h0 h' (kL c b m' (cV { s with cr:=max s.cr (depth c.C s.aR+(bS c.C i).fr),reps:=s.reps.modify n (fun r=>{ r with start:=s.now,base:=depth c.C s.aR}),aR:=⟨iI c.C i,n,false⟩::s.aR} 3 s.now n 0 0 (depth c.C s.aR)) R)):=by
  intro h hs
  exact d2y hc (s:={ s with cr:=max s.cr (depth c.C s.aR+(bS c.C i).fr)}) hi rfl hs hl hm hk hn Kz _
 repeat' (first
  |with_reducible refine aK ?_ ?_
  |with_reducible refine Sep.kN hs 0 rfl rfl ?_
  |with_reducible refine Sep.aB hs 16 rfl rfl ?_
  |((with_reducible rw[ae]);refine call.mono ?_;rintro v h ⟨rfl,hs⟩;simp only[bD,az]))
 all_goals exact fin _ hs
theorem d2A (hc:hU h0 c.C c.sm c.sc c.se c.st c.sl c.ts){i n n2:Nat}{x:cA}(hx:x.t=(i:Int))(hi:i<c.ts.length)(hs:Sep h0 h (kL c b m s (aBlk n2 (pH x)::R)))(hl:s.tr.length≤1000000)(hm:m.bc.length=s.aR.length)(hk:s.aR.length≤200)(hn:n<s.reps.length)(Kz:LCache.Cs c.C.ways.toNat s.cache)
  (hfo:LFrame.Fu (iJ c.C s.aR)) (hfr:0≤(bS c.C i).fr∧(bS c.C i).fr≤4096) (hpk:depth c.C s.aR≤s.cr):
  a3S (some ⟨b,0,none⟩) ⟨n2,0,none⟩ (n:Int) h (fun _ h'=>∃m',m'.bc.length=s.aR.length+1∧Sep h0 h' (kL c b m' (cV { s with cr:=max s.cr (depth c.C s.aR+(bS c.C i).fr),reps:=s.reps.modify n (fun r=>{ r with start:=s.now,base:=depth c.C s.aR}),aR:=⟨iI c.C i,n,false⟩::s.aR} 3 s.now n 0 0 (depth c.C s.aR)) R)):=by
 apply f1J
 unfold e1V
 simp only[au,ay,Nat.zero_add]
 have fin:∀(n5:Nat) (h:Hp),Sep h0 h (kL c b m s (aBlk n5 (lO (c.ts[i]'hi))::aBlk n2 (pH x)::R))→Kz4 (some ⟨b,0,none⟩) (n:Int) ⟨n5,0,none⟩ h (fun _ h'=>∃m',m'.bc.length=s.aR.length+1∧Sep h0 h' (kL c b m' (cV { s with cr:=max s.cr (depth c.C s.aR+(bS c.C i).fr),reps:=s.reps.modify n (fun r=>{ r with start:=s.now,base:=depth c.C s.aR}),aR:=⟨iI c.C i,n,false⟩::s.aR} 3 s.now n 0 0 (depth c.C s.aR)) R)):=by
  intro n5 h hs
  refine (d2z hc hi hs hl hm hk hn Kz hfo hfr hpk).mono ?_
  rintro v h ⟨m',h1,hs⟩
  exact⟨m',h1,(dj hs).drop⟩
 rw[show (⟨n2,0,none⟩:Addr)=⟨n2,0,none⟩ from rfl]
 repeat' (first
  |with_reducible refine aK ?_ ?_
  |with_reducible refine Sep.bu hs 0 rfl rfl ?_
  |(with_reducible refine Sep.aB hs 16 rfl rfl ?_;try rw[hx])
  |with_reducible refine ixB hs hc.rows hi fun p hp=>?_
  |(with_reducible refine gz hs fun n5 h hs=>?_;simp only[sz2,ay,Nat.zero_add]at hs ⊢)
  |(with_reducible refine Sep.aB hs 17 rfl rfl ?_;try rw[hx])
  |with_reducible refine hp.mG hs rfl ?_
  |with_reducible refine hp.aB hs rfl ?_
  |with_reducible refine hp.bu hs rfl ?_
  |(with_reducible refine nt hs 0 rfl rfl rfl fun h hs=>?_;simp only[sz0,sz1]at hs))
 all_goals exact fin _ _ hs
theorem kK (s:KS)(k a:Int)(n:Nat)(o e v:Int):(cV s k a n o e v).aR=s.aR:=by unfold cV;split<;>rfl
theorem b5b (hc:hU h0 c.C c.sm c.sc c.se c.st c.sl c.ts)(ho:Tk c.C s)(hs:Sep h0 h (kL c b m s R))(hm:m.bc.length=s.aR.length):
  Nzg (some ⟨b,0,none⟩) h (fun _ h'=>∃m',m'.bc.length=(eU c.C s).aR.length∧Sep h0 h' (kL c b m' (eU c.C s) R)):=by
 have hlen:=hc.len
 apply f1I
 unfold e1P
 simp only[au,ay,Nat.zero_add]
 refine Sep.kN hs 0 rfl rfl ?_
 rw[ae]
 refine (Gq (hs.at 8 rfl)).mono ?_
 rintro v h ⟨zs,hv,hs⟩
 have hs:Sep h0 h (kL c b m { s with ready:=zs} R):=hs.perm (set_perm 8 (kL c b m s R) (by simp))
 rcases hv with ⟨h1,rfl,rfl⟩|⟨i,y,x,q,ht,hq,rfl,rfl⟩
 ·have e:eU c.C s=s:=by unfold eU;rw[Ax h1]
  rw[e]
  simp only[cC,bW,gj,cG,az,cH,av]
  refine gz hs fun n2 h hs=>?_
  simp only[sz2,ay,Nat.zero_add]at hs ⊢
  refine nt hs 0 rfl rfl rfl fun h hs=>?_
  simp only[sz0,sz1]at hs
  refine nt hs 0 rfl rfl rfl fun h hs=>?_
  simp only[sz0,sz1]at hs
  refine nt hs 0 rfl rfl rfl fun h hs=>?_
  simp only[sz0,sz1]at hs
  exact⟨m,hm,(dj hs).drop⟩
 ·obtain⟨g1,g2,g3⟩:=ho.pl i y x q ht.at_ hq
  have hil:i<c.C.tasks.length:=by rw[←ho.len];exact (List.getElem?_eq_some_iff.1 ht.at_).1
  have e:eU c.C s=cV { s with ready:=s.ready.set i ⟨y.pr,y.nx,q⟩,pl:=g8 x s.pl,cr:=max s.cr (depth c.C s.aR+(bS c.C i).fr),reps:=s.reps.modify (jC x s.pl) (fun r=>{ r with start:=s.now,base:=depth c.C s.aR}),aR:=⟨iI c.C i,jC x s.pl,false⟩::s.aR} 3 s.now (jC x s.pl) 0 0 (depth c.C s.aR):=by
   unfold eU;rw[KQ ho.inj ht];simp only[ht.at_,hq]
  rw[e]
  simp only[cC,bW,gj,cG,az,cH,av]
  refine gz hs fun n2 h hs=>?_
  simp only[sz2,ay,Nat.zero_add]at hs ⊢
  refine nt hs 0 rfl rfl rfl fun h hs=>?_
  simp only[sz0,sz1]at hs
  refine nt hs 0 rfl rfl rfl fun h hs=>?_
  simp only[sz0,sz1]at hs
  refine nt hs 0 rfl rfl rfl fun h hs=>?_
  simp only[sz0,sz1]at hs
  refine aA rfl ?_
  refine Sep.ldM hs 0 rfl rfl ?_
  refine Sep.aB hs 16 rfl rfl ?_
  refine Sep.aB hs 16 rfl rfl ?_
  refine Sep.aB hs 16 rfl rfl ?_
  simp only[fS]
  refine d2t hs 12 (x:=x) rfl g2 ?_
  simp only[az]
  have fin:∀h,Sep h0 h (kL c b m { s with ready:=s.ready.set i ⟨y.pr,y.nx,q⟩} (aBlk n2 (pH x)::R))→(Cv Tryz.prog (Builtin.delete_ #[135,225] 0 #[.map (some m.pm),gj x]) fun u25=>cD (u25=undef) <| a3S (some ⟨b,0,none⟩) ⟨n2,0,none⟩ (jC x s.pl:Int)) h
    (fun _ h'=>∃m',m'.bc.length=s.aR.length+1∧Sep h0 h' (kL c b m' (cV { s with ready:=s.ready.set i ⟨y.pr,y.nx,q⟩,pl:=g8 x s.pl,cr:=max s.cr (depth c.C s.aR+(bS c.C i).fr),reps:=s.reps.modify (jC x s.pl) (fun r=>{ r with start:=s.now,base:=depth c.C s.aR}),aR:=⟨iI c.C i,jC x s.pl,false⟩::s.aR} 3 s.now (jC x s.pl) 0 0 (depth c.C s.aR)) R)):=by
   intro h hs
   refine e4M hs 12 (x:=x) rfl g2 fun h hs=>⟨rfl,?_⟩
   have hs:Sep h0 h (kL c b m { s with ready:=s.ready.set i ⟨y.pr,y.nx,q⟩,pl:=g8 x s.pl} (aBlk n2 (pH x)::R)):=hs
   refine (d2A hc (s:={ s with ready:=s.ready.set i ⟨y.pr,y.nx,q⟩,pl:=g8 x s.pl}) g1 (by omega) hs (by have:=ho.tr;show s.tr.length≤_;omega) hm ho.aR g3 ho.cache ho.iJ (ho.fr i hil) ho.cr).mono ?_
   rintro v h ⟨m',h1,hs⟩
   exact⟨m',h1,hs⟩
  rw[kK]
  refine aK ?_ ?_
  ·refine Sep.ldM hs 0 rfl rfl ?_
   refine Sep.aB hs 16 rfl rfl ?_
   refine Sep.aB hs 16 rfl rfl ?_
   refine Sep.aB hs 16 rfl rfl ?_
   simp only[fS]
   exact fin h hs
  ·refine Sep.aB hs 16 rfl rfl ?_
   refine Sep.aB hs 16 rfl rfl ?_
   refine Sep.aB hs 16 rfl rfl ?_
   refine Sep.ldM hs 0 rfl rfl ?_
   simp only[fS]
   exact fin h hs
end
end Go.Proofs.YtnpinhahjgbigaaGreatDoor
end
section
namespace Go.Proofs.YtnpinhahjgbigaaGreatDoor
open Go Go.Sb
structure d2B (C:bw) (s:KS):Prop extends Tk C s where
 top:∀a l,s.aR=a::l→a.j.t<C.tasks.length∧∃r,s.reps[a.rep]? =some r∧r.task=(a.j.t:Int)
 aD:s.aD.length≤1000
 tr2:s.tr.length≤900000
section
variable {α:Type}{Q:α→Hp→Prop}{h0 h:Hp}{R L:List As}{c:KC}{b:Nat}{m:KM}{s:KS}{x:Nat×Nat}{xs:List (Nat×Nat)}{a a':dD}{l:List dD}
theorem ry (C:bw)(l:List dD)(hr:a'.rep=a.rep)(ht:a'.j.t=a.j.t):iJ C (a'::l)=iJ C (a::l):=by
 rw[kJ,kJ,hr,ht]
theorem E5 (hs:Sep h0 h (kT c b m s x xs a' l R))(hm:m.bc=x::xs)(hl:s.aR=a::l)(hr:a'.rep=a.rep)(ht:a'.j.t=a.j.t):Sep h0 h (kL c b m { s with aR:=a'::l} R):=by
 have e:=ry c.C l hr ht
 rw[←hl]at e
 refine e4O (s:={ s with aR:=a'::l}) ?_ hm rfl
 show Sep h0 h (aBlk x.1 (qg x a')::aBlk x.2 (di c a'.j).enc::db (List.zipWith (qh c) xs l)::aBlk b (sC c m s.now)::LAgd.lG m.ag s.ev s.ord::LCache.cq m.ca c.C.ways.toNat s.cache::LMbx.dW m.bx s.boxes::LFlg.aF m.gr s.groups::LCnt.aC m.ct s.counts::LCei.tZ m.lk s.aD::LLin.aL m.ln s.lines::
  cR m.rd s.ready::LFrame.jH m.fr (iJ c.C (a'::l)) s.cr::aRow yu 1 m.ss m.bc.reverse::aRow dx 11 m.rs s.reps::aPl m.pm s.pl::aMap m.fm .i64 m.ff m.fn::aRow cw 7 m.tr s.tr::R)
 rw[e]
 exact hs
theorem Cf {X:Type}{l:List X}{n:Nat}(h:l.length=n+1):∃x xs,l=x::xs:=by
 cases l with
 |nil=>simp at h
 |cons x xs=>exact⟨x,xs,rfl⟩
theorem mT (s:KS)(k a:Int)(n:Nat)(o e v:Int):∃t,cV s k a n o e v={ s with tr:=t}∧t.length≤s.tr.length+1:=by
 unfold cV
 split
 ·exact⟨_,rfl,by simp⟩
 ·exact⟨s.tr,rfl,by omega⟩
theorem b5c {C:bw}(h:Tk C s)(hl:s.aR=a::l)(hr:a'.rep=a.rep)(ht:a'.j.t=a.j.t)(qq:s.tr.length≤900000)(f:nj):Tk C (cV { s with aR:=a'::l,reps:=s.reps.set a.rep f} 4 s.now a.rep 0 0 0):=by
 obtain⟨t,e,hle⟩:=mT { s with aR:=a'::l,reps:=s.reps.set a.rep f} 4 s.now a.rep 0 0 0
 rw[e]
 have ef:=ry C l hr ht
 rw[←hl]at ef
 refine⟨h.inj,h.len,h.pr,fun i y x q h1 h2=>?_,h.fr,?_,?_,?_,h.cache,?_⟩
 ·have:=h.pl i y x q h1 h2
  exact⟨this.1,this.2.1,by simpa using this.2.2⟩
 ·show LFrame.Fu (iJ C (a'::l));rw[ef];exact h.iJ
 ·have:=h.aR;rw[hl]at this;exact this
 ·show LFrame.du (iJ C (a'::l))≤s.cr;rw[ef];exact h.cr
 ·have:t.length≤s.tr.length+1:=hle
  show t.length≤_;omega
def ChQ (c:KC)(h0:Hp)(b:Nat)(R:List As)(r:KS×Bool):Value→Hp→Prop:=fun v h'=>∃m':KM,m'.bc.length=r.1.aR.length∧v= .tuple #[.pointer (sD m'.bc),.bool r.2]∧Sep h0 h' (kL c b m' r.1 R)
theorem E6 (hs:Sep h0 h (kL c b m s R))(hm:m.bc=x::xs)(hl:s.aR=a::l)(hml:m.bc.length=s.aR.length)(qq:s.tr.length≤1000000)(hr:a.rep<s.reps.length)(held:Bool):
  Kzr (some ⟨b,0,none⟩) (some ⟨x.1,0,none⟩) held h (ChQ c h0 b R (fE s,held)):=by
 have ht:=uc hs hm hl
 apply f0M
 unfold e1c
 simp only[au,ay,Nat.zero_add]
 refine Sep.Tz ht 0 rfl rfl ?_
 cases hb:a.kR
 ·have e:fE s=s:=by unfold fE;rw[hl];simp[hb]
  rw[e]
  exact⟨m,hml,by rw[hm];rfl,hs⟩
 ·have e:fE s=cV { s with aR:={ a with kR:=false}::l} 5 s.now a.rep 0 0 0:=by unfold fE;rw[hl];simp[hb]
  rw[e]
  simp only[aq]
  refine Sep.st ht 0 rfl rfl rfl fun h hs=>?_
  have hs:Sep h0 h (kT c b m s x xs { a with kR:=false} l R):=hs
  have fin:(ai (uu (some ⟨b,0,none⟩) 5 s.now (a.rep:Int) 0 0 0 0 0 0 0) fun _=>af (Value.tuple #[.pointer (some ⟨x.1,0,none⟩),.bool held])) h (ChQ c h0 b R (cV { s with aR:={ a with kR:=false}::l} 5 s.now a.rep 0 0 0,held)):=by
   rw[ae]
   refine (mm (E5 hs hm hl rfl rfl) qq 5 s.now hr 0 0 0 0 0 0 0).mono ?_
   rintro v h ⟨nU,hs⟩
   refine⟨{ m with tr:=nU},?_,?_,hs⟩
   ·rw[kK];show m.bc.length=l.length+1;rw[hml,hl];rfl
   ·show Value.tuple #[.pointer (some ⟨x.1,0,none⟩),.bool held]= .tuple #[.pointer (sD m.bc),.bool held]
    rw[hm];rfl
  refine aK ?_ ?_
  ·refine Sep.aB hs 3 rfl rfl ?_
   refine Sep.aB hs 0 rfl rfl ?_
   exact fin
  ·refine Sep.aB hs 0 rfl rfl ?_
   refine Sep.aB hs 3 rfl rfl ?_
   exact fin
theorem E7 (hc:hU h0 c.C c.sm c.sc c.se c.st c.sl c.ts)(ho:Tk c.C s)(hs:Sep h0 h (kL c b m s R))(hm:m.bc.length=s.aR.length):
  (ai (Nzg (some ⟨b,0,none⟩)) fun _=>ai (Nza (some ⟨b,0,none⟩)) fun r33=>gx r33 fun rV=>af (Value.tuple #[.pointer rV,.bool false])) h (ChQ c h0 b R (eU c.C s,false)):=by
 rw[ae]
 refine (b5b hc ho hs hm).mono ?_
 rintro v h ⟨m',h1,hs⟩
 rw[ae]
 have hle:m'.bc.length≤1000:=by
  have h2:(eU c.C s).aR.length≤s.aR.length+1:=by
   unfold eU
   split
   ·omega
   ·split
    ·omega
    ·split
     ·omega
     ·rw[kK];exact Nat.le_refl _
  have:=ho.aR
  omega
 refine (b6Y hs hle).mono ?_
 rintro v h ⟨rfl,rfl⟩
 exact⟨m',h1,rfl,hs⟩
theorem a7n (hc:hU h0 c.C c.sm c.sc c.se c.st c.sl c.ts)(ho:d2B c.C s)(hs:Sep h0 h (kL c b m s R))(hm:m.bc.length=s.aR.length):
  b0F (some ⟨b,0,none⟩) h (ChQ c h0 b R (bt c.C s)):=by
 have hlen:=hc.len
 apply f0L
 unfold e0U
 simp only[au,ay,Nat.zero_add]
 refine Sep.kN hs 0 rfl rfl ?_
 rw[ae]
 refine (JP (hs.at 8 rfl)).mono ?_
 rintro v h ⟨hv,hs⟩
 have hs:Sep h0 h (kL c b m s R):=hs.perm (set_perm 8 (kL c b m s R) (by simp))
 obtain⟨v0,v1,v2,p,w,rfl,hw⟩:∃v0 v1 v2 p w,v= .tuple #[.agg #[.int .i64 v0,.int .i64 v1,.int .i64 v2],.int .i64 p,.bool w]∧((w=false∧o6 s.ready=none)∨(w=true∧∃i,o6 s.ready=some i∧p=(bS c.C i).pr)):=by
  rcases hv with ⟨h1,rfl⟩|⟨i,y,x,q,ht,hq,hx,rfl⟩
  ·exact⟨_,_,_,_,_,rfl,.inl ⟨rfl,Ax h1⟩⟩
  ·exact⟨_,_,_,_,_,rfl,.inr ⟨rfl,i,KQ ho.inj ht,ho.pr i y ht.at_⟩⟩
 simp only[cC,bW,cG,az,cH,av]
 refine gz hs fun n h hs=>?_
 simp only[sz2,ay,Nat.zero_add]at hs ⊢
 refine nt hs 0 rfl rfl rfl fun h hs=>?_
 refine nt hs 0 rfl rfl rfl fun h hs=>?_
 refine nt hs 0 rfl rfl rfl fun h hs=>?_
 have hs:Sep h0 h (kL c b m s R):=(dj hs).drop
 rw[ae]
 refine (b6Y hs (by have:=ho.aR;omega)).mono ?_
 rintro v h ⟨rfl,rfl⟩
 simp only[aS]
 unfold bt
 cases hl:s.aR with
 |nil=>
  have hma:m.bc=[]:=List.length_eq_zero_iff.1 (by rw[hm,hl];rfl)
  rw[hma]
  simp only[sD,Option.isNone_none,Bool.true_and]
  rcases hw with ⟨rfl,hp⟩|⟨rfl,i,hp,rfl⟩
  ·refine aM rfl ?_
   have e:eU c.C s=s:=by unfold eU;rw[hp]
   rw[e]
   exact⟨m,hm,by rw[hma];rfl,hs⟩
  ·refine aA rfl ?_
   refine aM rfl ?_
   exact E7 hc ho.toTk hs hm
 |cons a l=>
  obtain⟨x,xs,hx⟩:=Cf (show m.bc.length=l.length+1 by rw[hm,hl];rfl)
  rw[hx]
  simp only[sD,Option.isNone_some,Bool.false_and,aj,au,ay,Nat.zero_add]
  obtain⟨fG,r,hr,hrt⟩:=ho.top a l hl
  have hrl:=(List.getElem?_eq_some_iff.1 hr).1
  have qq:=ho.tr2
  have fin:∀(w:Bool) (h:Hp),w=qd c.C s a→Sep h0 h (kL c b m s R)→
    (aI w (bz ⟨x.1,0,none⟩ fun qo=>ai (a9S qo) fun LF=>da LF fun FU=>aI (!FU) (
     an ⟨x.1,2,none⟩ (.bool true) <| aw ⟨b,21,none⟩ fun ui=>ab .i64 ⟨x.1,1,none⟩ fun x59=>bd ui x59 11 fun FW=>ab .i64 (FW.add 6) fun qp=>bd ui x59 11 fun yc=>an (yc.add 6) (.int .i64 (IntKind.i64.wrap (qp+(1:Int)))) <|
     aG (
      ab .i64 ⟨b,10,none⟩ fun GL=>
      ab .i64 ⟨x.1,1,none⟩ fun GM=>
      ai (uu (some ⟨b,0,none⟩) (4:Int) GL GM (0:Int) (0:Int) (0:Int) (0:Int) (0:Int) (0:Int) (0:Int)) fun b0R=>
      ai (Nzg (some ⟨b,0,none⟩)) fun b0S=>
      ai (Nza (some ⟨b,0,none⟩)) fun GN=>
      gx GN fun GO=>
      af (Value.tuple #[.pointer GO,.bool false])) (
      ab .i64 ⟨x.1,1,none⟩ fun Uz=>
      ab .i64 ⟨b,10,none⟩ fun x70=>
      ai (uu (some ⟨b,0,none⟩) (4:Int) x70 Uz (0:Int) (0:Int) (0:Int) (0:Int) (0:Int) (0:Int) (0:Int)) fun c7N=>
      ai (Nzg (some ⟨b,0,none⟩)) fun e1b=>
      ai (Nza (some ⟨b,0,none⟩)) fun r80=>
      gx r80 fun Jl=>
      af (Value.tuple #[.pointer Jl,.bool false]))) (
     Kzr (some ⟨b,0,none⟩) (some ⟨x.1,0,none⟩) FU)) (
    Kzr (some ⟨b,0,none⟩) (some ⟨x.1,0,none⟩) false)) h (ChQ c h0 b R (if qd c.C s a then
     (if a.j.over||a.j.left == 0 then (eU c.C (cV { s with aR:={ a with kR:=true}::l,reps:=s.reps.modify a.rep fun r=>{ r with nT:=IntKind.i64.wrap (r.nT+1)}} 4 s.now a.rep 0 0 0),false)
      else (fE { s with aR:={ a with j:={ a.j with dL:=true}}::l},true))
    else (fE s,false))):=by
   intro w h hw hs
   rw[←hw]
   cases w
   ·simp only[aj,Bool.false_eq_true,if_false]
    exact E6 hs hx hl hm (by omega) hrl false
   ·simp only[aq,if_true]
    have ht:=uc hs hx hl
    refine Sep.kN ht 0 rfl rfl ?_
    rw[ae]
    refine (via 1 ht rfl fun hs=>LJob.GB hs).mono ?_
    rintro v h ⟨rfl,ht⟩
    simp only[av]
    have ew:LJob.Kb (di c a.j)=if a.j.over||a.j.left == 0 then (false,di c a.j) else (true,di c { a.j with dL:=true}):=rfl
    rw[ew]at ht ⊢
    cases zP:(a.j.over||a.j.left == 0)
    ·simp only[zP,Bool.false_eq_true,if_false,Bool.not_true,aj]at ht ⊢
     have ht:Sep h0 h (kT c b m s x xs { a with j:={ a.j with dL:=true}} l R):=ht
     have hs:=E5 ht hx hl rfl rfl
     exact E6 (s:={ s with aR:={ a with j:={ a.j with dL:=true}}::l}) hs hx rfl (by rw[hm,hl];rfl) (by show s.tr.length≤_;omega) hrl true
    ·simp only[zP,if_true,Bool.not_false,aq]at ht ⊢
     refine Sep.st ht 0 rfl rfl rfl fun h ht=>?_
     have ht:Sep h0 h (kT c b m s x xs { a with kR:=true} l R):=ht
     refine Sep.bu ht 3 rfl rfl ?_
     refine Sep.aB ht 0 rfl rfl ?_
     refine Sep.idx ht 14 rfl (by omega) (by show (a.rep:Int)<s.reps.length;omega) fun p hp=>?_
     rw[Int.toNat_natCast]at hp
     refine Sep.iu ht 14 rfl bA hp hr rfl ?_
     refine Sep.idx ht 14 rfl (by omega) (by show (a.rep:Int)<s.reps.length;omega) fun p hp=>?_
     rw[Int.toNat_natCast]at hp
     refine Sep.sR ht 14 { r with nT:=IntKind.i64.wrap (r.nT+1)} rfl bA hp hr (by omega) rfl rfl fun h ht=>?_
     have ht:Sep h0 h (kT c b m { s with reps:=s.reps.set a.rep { r with nT:=IntKind.i64.wrap (r.nT+1)}} x xs { a with kR:=true} l R):=ht
     rw[dY s.reps a.rep _ hr]
     have Tj:(ai (uu (some ⟨b,0,none⟩) (4:Int) s.now (a.rep:Int) (0:Int) (0:Int) (0:Int) (0:Int) (0:Int) (0:Int) (0:Int)) fun c7N=>
       ai (Nzg (some ⟨b,0,none⟩)) fun e1b=>ai (Nza (some ⟨b,0,none⟩)) fun r80=>gx r80 fun Jl=>af (Value.tuple #[.pointer Jl,.bool false])) h
       (ChQ c h0 b R (eU c.C (cV { s with aR:={ a with kR:=true}::l,reps:=s.reps.set a.rep { r with nT:=IntKind.i64.wrap (r.nT+1)}} 4 s.now a.rep 0 0 0),false)):=by
      have hs:=E5 (s:={ s with reps:=s.reps.set a.rep { r with nT:=IntKind.i64.wrap (r.nT+1)}}) ht hx hl rfl rfl
      rw[ae]
      refine (mm hs (by show s.tr.length≤_;omega) 4 s.now (rep:=a.rep) (by simpa using hrl) 0 0 0 0 0 0 0).mono ?_
      rintro v h ⟨nU,hs⟩
      refine E7 hc ?_ hs (by rw[kK];show m.bc.length=l.length+1;rw[hm,hl];rfl)
      exact b5c (a':={ a with kR:=true}) ho.toTk hl rfl rfl qq _
     refine aK ?_ ?_
     ·refine Sep.aB ht 3 rfl rfl ?_
      refine Sep.aB ht 0 rfl rfl ?_
      exact Tj
     ·refine Sep.aB ht 0 rfl rfl ?_
      refine Sep.aB ht 3 rfl rfl ?_
      exact Tj
  rw[ae]
  rcases hw with ⟨rfl,hp⟩|⟨rfl,i,hp,rfl⟩
  ·refine aA rfl ?_
   rw[ak]
   exact fin false h (by unfold qd;rw[hp]) hs
  ·refine aM rfl ?_
   rw[ae]
   refine (b4Y hc hs hx hl ho.aD hr hrt fG).mono ?_
   rintro v h ⟨rfl,hs⟩
   simp only[az,ak]
   exact fin _ h (by unfold qd;rw[hp]) hs
end
end Go.Proofs.YtnpinhahjgbigaaGreatDoor
end
section
namespace Go.Proofs.YtnpinhahjgbigaaGreatDoor
open Go Go.Sb
structure Tl (s:KS) (o:dG):Prop where
 a:0≤o.a
 lock:o.k=5∨o.k=6→o.a<s.aD.length
 box:o.k=9∨o.k=10→o.a<s.boxes.length
 group:o.k=11∨o.k=12∨o.k=13→o.a<s.groups.length
 flags:∀x∈s.groups,0≤x∧x≤255
 count:o.k=14∨o.k=15→o.a<s.counts.length
 Tm:∀x∈s.counts,0≤x.1∧x.1≤8
section
variable {α:Type}{Q:α→Hp→Prop}{h0 h:Hp}{R L:List As}{c:KC}{b:Nat}{m:KM}{s:KS}
abbrev CaQ (c:KC)(h0:Hp)(b:Nat)(m:KM)(R:List As)(r:Int×Int×Bool×KS):Value→Hp→Prop:=fun v h'=>v= .tuple #[.int .i64 r.1,.int .i64 r.2.1,.bool r.2.2.1]∧Sep h0 h' (kL c b m r.2.2.2 R)
theorem tJ (s:KS)(who:Nat)(o:dG):(bX s who o).2.2.2.aR=s.aR∧(bX s who o).2.2.2.reps=s.reps∧(bX s who o).2.2.2.tr=s.tr∧(bX s who o).2.2.2.now=s.now∧(bX s who o).2.2.2.ev=s.ev:=by
 unfold bX
 by_cases h5:(o.k == 5)=true
 ·rw[if_pos h5]
  exact⟨rfl,rfl,rfl,rfl,rfl⟩
 rw[if_neg h5]
 by_cases h6:(o.k == 6)=true
 ·rw[if_pos h6]
  exact⟨rfl,rfl,rfl,rfl,rfl⟩
 rw[if_neg h6]
 by_cases h9:(o.k == 9)=true
 ·rw[if_pos h9]
  split<;>exact⟨rfl,rfl,rfl,rfl,rfl⟩
 rw[if_neg h9]
 by_cases h10:(o.k == 10)=true
 ·rw[if_pos h10]
  split
  ·split<;>exact⟨rfl,rfl,rfl,rfl,rfl⟩
  ·exact⟨rfl,rfl,rfl,rfl,rfl⟩
 rw[if_neg h10]
 by_cases h11:(o.k == 11)=true
 ·rw[if_pos h11]
  exact⟨rfl,rfl,rfl,rfl,rfl⟩
 rw[if_neg h11]
 by_cases h12:(o.k == 12)=true
 ·rw[if_pos h12]
  exact⟨rfl,rfl,rfl,rfl,rfl⟩
 rw[if_neg h12]
 by_cases h13:(o.k == 13)=true
 ·rw[if_pos h13]
  exact⟨rfl,rfl,rfl,rfl,rfl⟩
 rw[if_neg h13]
 by_cases h14:(o.k == 14)=true
 ·rw[if_pos h14]
  split<;>exact⟨rfl,rfl,rfl,rfl,rfl⟩
 rw[if_neg h14]
 by_cases h15:(o.k == 15)=true
 ·rw[if_pos h15]
  split<;>exact⟨rfl,rfl,rfl,rfl,rfl⟩
 rw[if_neg h15]
 exact⟨rfl,rfl,rfl,rfl,rfl⟩
theorem d2D (hs:Sep h0 h (kL c b m s R))(who:Nat){o:dG}(ho:Tl s o):a2u (some ⟨b,0,none⟩) (who:Int) o.k o.a o.b h (CaQ c h0 b m R (bX s who o)):=by
 apply f2b
 unfold e2o
 refine gz hs fun n h hs=>?_
 simp only[sz2]at hs
 have hs:Sep h0 h (kL c b m s (aBlk n (dM o)::R)):=hs
 simp only[au,ay,Nat.zero_add]
 refine Sep.aB hs 16 rfl rfl ?_
 have ha:=ho.a
 obtain⟨ok,oa,ob⟩:=o
 simp only at ha
 obtain⟨i,rfl⟩:∃i:Nat,oa=i:=⟨oa.toNat,by omega⟩
 by_cases h5:ok=5
 ·subst h5
  have hi:i<s.aD.length:=by have:=ho.lock (.inl rfl);simpa using this
  have e:bX s who ⟨5,i,ob⟩=((LCei.ld s.aD i who).1,0,true,{ s with aD:=(LCei.ld s.aD i who).2}):=rfl
  rw[e]
  have call:YU (some ⟨m.lk,0,none⟩) (i:Int) (who:Int) h (fun v h'=>v= .int .i64 (LCei.ld s.aD i who).1∧Sep h0 h' (kL c b m { s with aD:=(LCei.ld s.aD i who).2} (aBlk n (dM ⟨5,i,ob⟩)::R))):=via 6 hs rfl fun hs=>LCei.c7c hs hi who
  refine aM rfl ?_
  repeat' (first
   |with_reducible refine aK ?_ ?_
   |with_reducible refine Sep.kN hs 0 rfl rfl ?_
   |with_reducible refine Sep.aB hs 16 rfl rfl ?_
   |((with_reducible rw[ae]);refine call.mono ?_;rintro v h ⟨rfl,hs⟩;simp only[az,bD,av,fi]))
  all_goals exact⟨rfl,(dj hs).drop⟩
 rw[show ((⟨ok,i,ob⟩:dG).k == 5)=false by simpa using h5]
 simp only[aj]
 by_cases h6:ok=6
 ·subst h6
  have hi:i<s.aD.length:=by have:=ho.lock (.inr rfl);simpa using this
  have e:bX s who ⟨6,i,ob⟩=((LCei.cO s.aD i who).1,0,true,{ s with aD:=(LCei.cO s.aD i who).2}):=rfl
  rw[e]
  have call:Nzu (some ⟨m.lk,0,none⟩) (i:Int) (who:Int) h (fun v h'=>v= .int .i64 (LCei.cO s.aD i who).1∧Sep h0 h' (kL c b m { s with aD:=(LCei.cO s.aD i who).2} (aBlk n (dM ⟨6,i,ob⟩)::R))):=via 6 hs rfl fun hs=>LCei.El hs hi who
  refine aM rfl ?_
  repeat' (first
   |with_reducible refine aK ?_ ?_
   |with_reducible refine Sep.kN hs 0 rfl rfl ?_
   |with_reducible refine Sep.aB hs 16 rfl rfl ?_
   |((with_reducible rw[ae]);refine call.mono ?_;rintro v h ⟨rfl,hs⟩;simp only[az,bD,av,fi]))
  all_goals exact⟨rfl,(dj hs).drop⟩
 rw[show ((⟨ok,i,ob⟩:dG).k == 6)=false by simpa using h6]
 simp only[aj]
 by_cases h9:ok=9
 ·subst h9
  have hi:i<s.boxes.length:=by have:=ho.box (.inl rfl);simpa using this
  have e:bX s who ⟨9,i,ob⟩=(if s.boxes[i].2.length=s.boxes[i].1 then 7 else 0,0,true,{ s with boxes:=s.boxes.set i (s.boxes[i].1,if s.boxes[i].2.length=s.boxes[i].1 then s.boxes[i].2 else s.boxes[i].2++[ob])}):=by
   have e1:s.boxes[((i:Int)).toNat]? =some s.boxes[i]:=by rw[Int.toNat_natCast];exact List.getElem?_eq_getElem hi
   unfold bX;rw[if_neg (by simp),if_neg (by simp),if_pos (by simp)];simp only[e1];rfl
  rw[e]
  have call:Nzf (some ⟨m.bx,0,none⟩) (i:Int) ob h (fun v h'=>v= .int .i64 (if s.boxes[i].2.length=s.boxes[i].1 then 7 else 0)∧Sep h0 h' (kL c b m { s with boxes:=s.boxes.set i (s.boxes[i].1,if s.boxes[i].2.length=s.boxes[i].1 then s.boxes[i].2 else s.boxes[i].2++[ob])} (aBlk n (dM ⟨9,i,ob⟩)::R))):=via 3 hs rfl fun hs=>LMbx.c7t hs hi ob
  refine aM rfl ?_
  repeat' (first
   |with_reducible refine aK ?_ ?_
   |with_reducible refine Sep.kN hs 0 rfl rfl ?_
   |with_reducible refine Sep.aB hs 16 rfl rfl ?_
   |((with_reducible rw[ae]);refine call.mono ?_;rintro v h ⟨rfl,hs⟩;simp only[az,bD,av,fi]))
  all_goals exact⟨rfl,(dj hs).drop⟩
 rw[show ((⟨ok,i,ob⟩:dG).k == 9)=false by simpa using h9]
 simp only[aj]
 by_cases h10:ok=10
 ·subst h10
  have hi:i<s.boxes.length:=by have:=ho.box (.inr rfl);simpa using this
  have e1:s.boxes[((i:Int)).toNat]? =some s.boxes[i]:=by rw[Int.toNat_natCast];exact List.getElem?_eq_getElem hi
  have call:YS (some ⟨m.bx,0,none⟩) (i:Int) h (fun v h'=>v=LMbx.Ac s.boxes[i].2∧Sep h0 h' (kL c b m { s with boxes:=s.boxes.set i (s.boxes[i].1,s.boxes[i].2.tail)} (aBlk n (dM ⟨10,i,ob⟩)::R))):=via 3 hs rfl fun hs=>LMbx.c7u hs hi
  obtain⟨e0,e2,e3,e4⟩:∃e0 v0,LMbx.Ac s.boxes[i].2= .tuple #[.int .i64 v0,.int .i64 e0]∧bX s who ⟨10,i,ob⟩=(e0,v0,true,{ s with boxes:=s.boxes.set i (s.boxes[i].1,s.boxes[i].2.tail)}):=by
   cases hq:s.boxes[i].2 with
   |nil=>
    refine⟨8,0,rfl,?_⟩
    have hse:s.boxes.set i (s.boxes[i].1,[])=s.boxes:=by
     have:(s.boxes[i].1,([]:List Int))=s.boxes[i]:=by rw[←hq]
     rw[this];exact List.set_getElem_self hi
    unfold bX;rw[if_neg (by simp),if_neg (by simp),if_neg (by simp),if_pos (by simp)];simp only[e1,hq,List.tail_nil,hse]
   |cons z q=>
    refine⟨0,z,rfl,?_⟩
    unfold bX;rw[if_neg (by simp),if_neg (by simp),if_neg (by simp),if_pos (by simp)];simp only[e1,hq];rfl
  rw[e3]at call
  rw[e4]
  refine aM rfl ?_
  repeat' (first
   |with_reducible refine aK ?_ ?_
   |with_reducible refine Sep.kN hs 0 rfl rfl ?_
   |with_reducible refine Sep.aB hs 16 rfl rfl ?_
   |((with_reducible rw[ae]);refine call.mono ?_;rintro v h ⟨rfl,hs⟩;simp only[az,bD,av,fi]))
  all_goals exact⟨rfl,(dj hs).drop⟩
 rw[show ((⟨ok,i,ob⟩:dG).k == 10)=false by simpa using h10]
 simp only[aj]
 by_cases h11:ok=11
 ·subst h11
  have hi:i<s.groups.length:=by have:=ho.group (.inl rfl);simpa using this
  have hx:=List.getElem?_eq_getElem hi
  have e:bX s who ⟨11,i,ob⟩=(0,s.groups[i],true,{ s with groups:=s.groups.set i (LFlg.Em s.groups[i] ob)}):=by
   have e1:s.groups.getD ((i:Int)).toNat 0=s.groups[i]:=by rw[Int.toNat_natCast,List.getD_eq_getElem?_getD,hx];rfl
   unfold bX;rw[if_neg (by simp),if_neg (by simp),if_neg (by simp),if_neg (by simp),if_pos (by simp)];simp only[e1];rfl
  rw[e]
  have call:Nzd (some ⟨m.gr,0,none⟩) (i:Int) ob h (fun v h'=>v= .tuple #[.int .i64 s.groups[i],.int .i64 0]∧Sep h0 h' (kL c b m { s with groups:=s.groups.set i (LFlg.Em s.groups[i] ob)} (aBlk n (dM ⟨11,i,ob⟩)::R))):=via 4 hs rfl fun hs=>LFlg.c7i hs hx (ho.flags _ (List.getElem_mem hi)) ob
  refine aM rfl ?_
  repeat' (first
   |with_reducible refine aK ?_ ?_
   |with_reducible refine Sep.kN hs 0 rfl rfl ?_
   |with_reducible refine Sep.aB hs 16 rfl rfl ?_
   |((with_reducible rw[ae]);refine call.mono ?_;rintro v h ⟨rfl,hs⟩;simp only[az,bD,av,fi]))
  all_goals exact⟨rfl,(dj hs).drop⟩
 rw[show ((⟨ok,i,ob⟩:dG).k == 11)=false by simpa using h11]
 simp only[aj]
 by_cases h12:ok=12
 ·subst h12
  have hi:i<s.groups.length:=by have:=ho.group (.inr (.inl rfl));simpa using this
  have hx:=List.getElem?_eq_getElem hi
  have e:bX s who ⟨12,i,ob⟩=(0,s.groups[i],true,{ s with groups:=s.groups.set i (LFlg.En s.groups[i] ob)}):=by
   have e1:s.groups.getD ((i:Int)).toNat 0=s.groups[i]:=by rw[Int.toNat_natCast,List.getD_eq_getElem?_getD,hx];rfl
   unfold bX;rw[if_neg (by simp),if_neg (by simp),if_neg (by simp),if_neg (by simp),if_neg (by simp),if_pos (by simp)];simp only[e1];rfl
  rw[e]
  have call:Nze (some ⟨m.gr,0,none⟩) (i:Int) ob h (fun v h'=>v= .tuple #[.int .i64 s.groups[i],.int .i64 0]∧Sep h0 h' (kL c b m { s with groups:=s.groups.set i (LFlg.En s.groups[i] ob)} (aBlk n (dM ⟨12,i,ob⟩)::R))):=via 4 hs rfl fun hs=>LFlg.c7j hs hx (ho.flags _ (List.getElem_mem hi)) ob
  refine aM rfl ?_
  repeat' (first
   |with_reducible refine aK ?_ ?_
   |with_reducible refine Sep.kN hs 0 rfl rfl ?_
   |with_reducible refine Sep.aB hs 16 rfl rfl ?_
   |((with_reducible rw[ae]);refine call.mono ?_;rintro v h ⟨rfl,hs⟩;simp only[az,bD,av,fi]))
  all_goals exact⟨rfl,(dj hs).drop⟩
 rw[show ((⟨ok,i,ob⟩:dG).k == 12)=false by simpa using h12]
 simp only[aj]
 by_cases h13:ok=13
 ·subst h13
  have hi:i<s.groups.length:=by have:=ho.group (.inr (.inr rfl));simpa using this
  have hx:=List.getElem?_eq_getElem hi
  have e:bX s who ⟨13,i,ob⟩=(0,if LFlg.GF s.groups[i] ob then 1 else 0,true,s):=by
   have e1:s.groups.getD ((i:Int)).toNat 0=s.groups[i]:=by rw[Int.toNat_natCast,List.getD_eq_getElem?_getD,hx];rfl
   unfold bX;rw[if_neg (by simp),if_neg (by simp),if_neg (by simp),if_neg (by simp),if_neg (by simp),if_neg (by simp),if_pos (by simp)];simp only[e1]
  rw[e]
  have k19:∀h,Sep h0 h (kL c b m s (aBlk n (dM ⟨13,i,ob⟩)::R))→Kzi 0 0 true (LFlg.GF s.groups[i] ob) h (CaQ c h0 b m R (0,if LFlg.GF s.groups[i] ob then 1 else 0,true,s)):=by
   intro h hs
   apply f2c
   unfold e2v
   cases LFlg.GF s.groups[i] ob
   ·exact⟨rfl,(dj hs).drop⟩
   ·exact⟨rfl,(dj hs).drop⟩
  have call:Nzc (some ⟨m.gr,0,none⟩) (i:Int) ob true h (fun v h'=>v= .tuple #[.bool (LFlg.GF s.groups[i] ob),.int .i64 0]∧Sep h0 h' (kL c b m s (aBlk n (dM ⟨13,i,ob⟩)::R))):=via 4 hs rfl fun hs=>LFlg.c7l hs hx (ho.flags _ (List.getElem_mem hi)) ob
  refine aM rfl ?_
  repeat' (first
   |with_reducible refine aK ?_ ?_
   |with_reducible refine Sep.kN hs 0 rfl rfl ?_
   |with_reducible refine Sep.aB hs 16 rfl rfl ?_
   |((with_reducible rw[ae]);refine call.mono ?_;rintro v h ⟨rfl,hs⟩;simp only[az,bD,av,fi]))
  all_goals exact k19 _ hs
 rw[show ((⟨ok,i,ob⟩:dG).k == 13)=false by simpa using h13]
 simp only[aj]
 by_cases h14:ok=14
 ·subst h14
  have hi:i<s.counts.length:=by have:=ho.count (.inl rfl);simpa using this
  have hx:=List.getElem?_eq_getElem hi
  have e:bX s who ⟨14,i,ob⟩=(if LCnt.fJ s.counts[i] 1 then 7 else 0,if LCnt.fJ s.counts[i] 1 then s.counts[i].1 else s.counts[i].1+1,true,{ s with counts:=if LCnt.fJ s.counts[i] 1 then s.counts else s.counts.set i (s.counts[i].1+1,s.counts[i].2)}):=by
   have e1:s.counts[((i:Int)).toNat]? =some s.counts[i]:=by rw[Int.toNat_natCast];exact hx
   unfold bX;rw[if_neg (by simp),if_neg (by simp),if_neg (by simp),if_neg (by simp),if_neg (by simp),if_neg (by simp),if_neg (by simp),if_pos (by simp)];simp only[e1];rfl
  rw[e]
  have call:YH (some ⟨m.ct,0,none⟩) (i:Int) h (fun v h'=>v= .tuple #[.int .i64 (if LCnt.fJ s.counts[i] 1 then s.counts[i].1 else s.counts[i].1+1),.int .i64 (if LCnt.fJ s.counts[i] 1 then 7 else 0)]∧Sep h0 h' (kL c b m { s with counts:=if LCnt.fJ s.counts[i] 1 then s.counts else s.counts.set i (s.counts[i].1+1,s.counts[i].2)} (aBlk n (dM ⟨14,i,ob⟩)::R))):=via 5 hs rfl fun hs=>LCnt.c7a hs hx (ho.Tm _ (List.getElem_mem hi))
  refine aM rfl ?_
  repeat' (first
   |with_reducible refine aK ?_ ?_
   |with_reducible refine Sep.kN hs 0 rfl rfl ?_
   |with_reducible refine Sep.aB hs 16 rfl rfl ?_
   |((with_reducible rw[ae]);refine call.mono ?_;rintro v h ⟨rfl,hs⟩;simp only[az,bD,av,fi]))
  all_goals exact⟨rfl,(dj hs).drop⟩
 rw[show ((⟨ok,i,ob⟩:dG).k == 14)=false by simpa using h14]
 simp only[aj]
 by_cases h15:ok=15
 ·subst h15
  have hi:i<s.counts.length:=by have:=ho.count (.inr rfl);simpa using this
  have hx:=List.getElem?_eq_getElem hi
  have e:bX s who ⟨15,i,ob⟩=(if LCnt.fJ s.counts[i] (-1) then 8 else 0,if LCnt.fJ s.counts[i] (-1) then s.counts[i].1 else s.counts[i].1+ -1,true,{ s with counts:=if LCnt.fJ s.counts[i] (-1) then s.counts else s.counts.set i (s.counts[i].1+ -1,s.counts[i].2)}):=by
   have e1:s.counts[((i:Int)).toNat]? =some s.counts[i]:=by rw[Int.toNat_natCast];exact hx
   unfold bX;rw[if_neg (by simp),if_neg (by simp),if_neg (by simp),if_neg (by simp),if_neg (by simp),if_neg (by simp),if_neg (by simp),if_neg (by simp),if_pos (by simp)];simp only[e1];rfl
  rw[e]
  have call:YI (some ⟨m.ct,0,none⟩) (i:Int) h (fun v h'=>v= .tuple #[.int .i64 (if LCnt.fJ s.counts[i] (-1) then s.counts[i].1 else s.counts[i].1+ -1),.int .i64 (if LCnt.fJ s.counts[i] (-1) then 8 else 0)]∧Sep h0 h' (kL c b m { s with counts:=if LCnt.fJ s.counts[i] (-1) then s.counts else s.counts.set i (s.counts[i].1+ -1,s.counts[i].2)} (aBlk n (dM ⟨15,i,ob⟩)::R))):=via 5 hs rfl fun hs=>LCnt.b0A hs hx (ho.Tm _ (List.getElem_mem hi))
  refine aM rfl ?_
  repeat' (first
   |with_reducible refine aK ?_ ?_
   |with_reducible refine Sep.kN hs 0 rfl rfl ?_
   |with_reducible refine Sep.aB hs 16 rfl rfl ?_
   |((with_reducible rw[ae]);refine call.mono ?_;rintro v h ⟨rfl,hs⟩;simp only[az,bD,av,fi]))
  all_goals exact⟨rfl,(dj hs).drop⟩
 rw[show ((⟨ok,i,ob⟩:dG).k == 15)=false by simpa using h15]
 simp only[aj]
 have e:bX s who ⟨ok,i,ob⟩=(0,0,false,s):=by
  unfold bX
  simp[h5,h6,h9,h10,h11,h12,h13,h14,h15]
 rw[e]
 exact⟨rfl,(dj hs).drop⟩
end
end Go.Proofs.YtnpinhahjgbigaaGreatDoor
end
section
namespace Go.Proofs.YtnpinhahjgbigaaGreatDoor
open Go Go.Sb
structure d2E (C:bw) (s:KS) (a:dD):Prop where
 t:a.j.t<C.tasks.length
 rep:a.rep<s.reps.length
 tr:s.tr.length≤940000
 at_:a.j.over=false→a.j.at_<(bS C a.j.t).ops.length
 cache:LCache.Cs C.ways.toNat s.cache
 hit:0≤C.hit∧C.hit≤1073741824
 bT:0≤C.bT∧C.bT≤1073741824
 regions:0≤a.j.regions∧a.j.regions≤1000000
 aU:0≤a.j.aU∧a.j.aU≤1000000
 op:∀o,Fv C a.j=some o→Tl s o∧o.a≤1000000∧(o.k=2→o.a≤255)
section
variable {α:Type}{Q:α→Hp→Prop}{h0 h:Hp}{R L:List As}{c:KC}{b:Nat}{m:KM}{s:KS}{x:Nat×Nat}{xs:List (Nat×Nat)}{a a':dD}{l:List dD}
theorem Cg (hc:hU h0 c.C c.sm c.sc c.se c.st c.sl c.ts){j:PJ}(hj:j.t<c.ts.length):fK h0.size h0 dM 3 (di c j).t.program (bS c.C j.t).ops:=by
 have h2:(c.ts.getD j.t (⟨0,0,0,0,0,0,[]⟩,⟨none,0,0⟩)).2=(c.ts[j.t]'hj).2:=by rw[List.getD_eq_getElem?_getD,List.getElem?_eq_getElem hj];rfl
 show fK h0.size h0 dM 3 (c.ts.getD j.t (⟨0,0,0,0,0,0,[]⟩,⟨none,0,0⟩)).2 _
 rw[h2,qi hc hj]
 exact (hc.ops _ (List.getElem_mem hj)).1
theorem a7o {j:PJ}(fG:j.over=false→j.at_<(bS c.C j.t).ops.length):Fv c.C j=if LJob.Ek (di c j) then some (LJob.Ry (bS c.C j.t).ops (di c j)) else none:=by
 unfold Fv LJob.Ek LJob.Ry
 show (if (j.over||decide (j.rest>0))=true then _ else _)=if (!(j.over||decide (j.rest>0)))=true then some (if (j.over||decide (j.rest>0))=true then _ else _) else none
 cases hb:(j.over||decide (j.rest>0))
 ·simp only[Bool.false_eq_true,if_false,Bool.not_false,if_true]
  have ho:j.over=false:=by cases h:j.over<;>simp[h]at hb ⊢
  have hl:=fG ho
  show (bS c.C j.t).ops[j.at_]? =some ((bS c.C j.t).ops.getD (j.at_:Int).toNat _)
  rw[Int.toNat_natCast,List.getD_eq_getElem?_getD,List.getElem?_eq_getElem hl];rfl
 ·simp
theorem b5d (j:PJ)(n:Int)(hb: -1000000000≤j.aU+n∧j.aU+n≤1000000000):(LJob.Ab (di c j) n).2=di c (if j.aU+n>(bS c.C j.t).fr then { j with fault:=true,rest:=1} else { j with aU:=j.aU+n}):=by
 unfold LJob.Ab
 have e:IntKind.i64.wrap ((di c j).aU+n)=j.aU+n:=wrap64 (j.aU+n) (by omega)
 rw[e]
 show (if j.aU+n>(bS c.C j.t).fr then _ else _:Int×LJob.Jb).2=_
 by_cases hg:j.aU+n>(bS c.C j.t).fr
 ·rw[if_pos hg,if_pos hg];rfl
 ·rw[if_neg hg,if_neg hg];rfl
theorem a7p {j:PJ}{o:dG}(fG:j.over=false→j.at_<(bS c.C j.t).ops.length)(ho:Fv c.C j=some o)(cost:Int)(h1:0≤j.regions∧j.regions≤1000000)(h2:0≤j.aU∧j.aU≤1000000)(h3:0≤o.a∧o.a≤1000000):
  (LJob.pL (bS c.C j.t).ops (di c j) cost).2=di c (cU c.C j o cost):=by
 rw[a7o fG]at ho
 split at ho
 ·rename_i hok
  cases ho
  unfold LJob.pL
  rw[if_pos hok]
  generalize LJob.Ry (bS c.C j.t).ops (di c j)=o at*
  unfold LJob.doJ cU jDo LJob.GC
  obtain⟨t,at_,rest,regions,aU,left,dL,fault,over⟩:=j
  simp only at h1 h2
  by_cases e3:(o.k == 3)=true
  ·rw[if_pos e3,if_pos e3]
   show LJob.Jb.mk _ _ _ (IntKind.i64.wrap (regions+1)) _ _ _ _ _=_
   rw[wrap64 _ (by omega)];rfl
  rw[if_neg e3,if_neg e3]
  by_cases e4:(o.k == 4)=true
  ·rw[if_pos e4,if_pos e4]
   show LJob.Jb.mk _ _ _ (if (0:Int)>IntKind.i64.wrap (regions-1) then 0 else IntKind.i64.wrap (regions-1)) _ _ _ _ _=_
   rw[wrap64 _ (by omega)];rfl
  rw[if_neg e4,if_neg e4]
  by_cases e7:(o.k == 7)=true
  ·rw[if_pos e7,if_pos e7]
   exact b5d ⟨t,at_,if (1:Int)>cost then 1 else cost,regions,aU,left,dL,fault,over⟩ o.a (by show -1000000000≤aU+o.a∧aU+o.a≤1000000000;omega)
  rw[if_neg e7,if_neg e7]
  by_cases e8:(o.k == 8)=true
  ·rw[if_pos e8,if_pos e8]
   show LJob.Jb.mk _ _ _ _ (if (0:Int)>IntKind.i64.wrap (aU-o.a) then 0 else IntKind.i64.wrap (aU-o.a)) _ _ _ _=_
   rw[wrap64 _ (by omega)];rfl
  rw[if_neg e8,if_neg e8]
  rfl
 ·cases ho
theorem KR (hc:hU h0 c.C c.sm c.sc c.se c.st c.sl c.ts){n:Nat}{o:dG}(hs:Sep h0 h (kL c b m s (aBlk n (dM o)::R)))(hm:m.bc=x::xs)(hl:s.aR=a::l)(hj:a.j.t<c.ts.length)(fG:a.j.over=false→a.j.at_<(bS c.C a.j.t).ops.length)(ho:Fv c.C a.j=some o)
  (h1:0≤a.j.regions∧a.j.regions≤1000000) (h2:0≤a.j.aU∧a.j.aU≤1000000) (h3:0≤o.a∧o.a≤1000000) (hh:0≤c.C.hit∧c.C.hit≤1073741824) (hmi:0≤c.C.bT∧c.C.bT≤1073741824) (hit:Bool):
  Kza (some ⟨b,0,none⟩) (some ⟨x.1,0,none⟩) ⟨n,0,none⟩ hit h (fun _ h'=>Sep h0 h' (kL c b m { s with aR:={ a with j:=cU c.C a.j o (LFlg.fD o c.C.hit c.C.bT hit)}::l} R)):=by
 have ht:=uc hs hm hl
 apply f0T
 unfold e1q
 simp only[au,ay,Nat.zero_add]
 have call:∀{K:Value→M Value} {Q:Value→Hp→Prop},(∀h,Sep h0 h (kT c b m s x xs a l (aBlk n (dM o)::R))→K (.int .i64 (LFlg.fD o c.C.hit c.C.bT hit)) h Q)→ai (YX o.k o.a o.b c.C.sets c.C.ways c.C.hit c.C.bT hit) K h Q:=by
  intro K Q hK
  rw[ae]
  refine (LFlg.f0s ht o c.C.sets c.C.ways c.C.hit c.C.bT hit ⟨h3.1,by omega⟩ hh hmi).mono ?_
  rintro v h ⟨rfl,ht⟩
  exact hK h ht
 have jt:(cU c.C a.j o (LFlg.fD o c.C.hit c.C.bT hit)).t=a.j.t:=by
  unfold cU jDo
  repeat' split
  all_goals rfl
 have fin:∀h,Sep h0 h (kT c b m s x xs a l (aBlk n (dM o)::R))→(ai (TI (some ⟨x.2,0,none⟩) (LFlg.fD o c.C.hit c.C.bT hit)) fun r=>aP .i64 r fun _=>af (Value.tuple #[])) h (fun _ h'=>Sep h0 h' (kL c b m { s with aR:={ a with j:=cU c.C a.j o (LFlg.fD o c.C.hit c.C.bT hit)}::l} R)):=by
  intro h ht
  rw[ae]
  have q:∀{R:List As},Sep h0 h (aBlk x.2 (di c a.j).enc::R)→TI (some ⟨x.2,0,none⟩) (LFlg.fD o c.C.hit c.C.bT hit) h (fun v h'=>v= .int .i64 (LJob.pL (bS c.C a.j.t).ops (di c a.j) (LFlg.fD o c.C.hit c.C.bT hit)).1∧Sep h0 h' (aBlk x.2 (LJob.pL (bS c.C a.j.t).ops (di c a.j) (LFlg.fD o c.C.hit c.C.bT hit)).2.enc::R)):=by
   intro R hs
   have d2F:(di c a.j).over=false→0≤(di c a.j).at_∧(di c a.j).at_<((bS c.C a.j.t).ops.length:Int):=fun ho=>⟨Int.natCast_nonneg _,Int.ofNat_lt.2 (fG ho)⟩
   exact LJob.b0w hs (Cg hc hj) d2F (LFlg.fD o c.C.hit c.C.bT hit)
  refine (via 1 ht rfl fun hs=>q hs).mono ?_
  rintro v h ⟨rfl,ht⟩
  rw[a7p fG ho _ h1 h2 h3]at ht
  simp only[az]
  have ht:Sep h0 h (kT c b m s x xs { a with j:=cU c.C a.j o (LFlg.fD o c.C.hit c.C.bT hit)} l (aBlk n (dM o)::R)):=ht
  exact (dj (E5 (a':={ a with j:=cU c.C a.j o (LFlg.fD o c.C.hit c.C.bT hit)}) ht hm hl rfl jt)).drop
 repeat' (first
  |with_reducible refine aK ?_ ?_
  |with_reducible refine Sep.kN ht 0 rfl rfl ?_
  |with_reducible refine Sep.aB ht 3 rfl rfl ?_
  |with_reducible refine Sep.aB ht 18 rfl rfl ?_
  |(with_reducible refine call fun h ht=>?_;simp only[az]))
 all_goals exact fin _ ht
structure b5e (C:bw) (a:dD) (o:dG):Prop where
 t:a.j.t<C.tasks.length
 at_:a.j.over=false→a.j.at_<(bS C a.j.t).ops.length
 op:Fv C a.j=some o
 regions:0≤a.j.regions∧a.j.regions≤1000000
 aU:0≤a.j.aU∧a.j.aU≤1000000
 oa:0≤o.a∧o.a≤1000000
 hit:0≤C.hit∧C.hit≤1073741824
 bT:0≤C.bT∧C.bT≤1073741824
theorem b5f (hc:hU h0 c.C c.sm c.sc c.se c.st c.sl c.ts){n:Nat}{o:dG}(hs:Sep h0 h (kL c b m s (aBlk n (dM o)::R)))(hm:m.bc=x::xs)(hl:s.aR=a::l)(hj:b5e c.C a o)(hr:a.rep<s.reps.length)(qq:s.tr.length≤1000000)(hit is:Bool)(e v':Int):
  a2P (some ⟨b,0,none⟩) (some ⟨x.1,0,none⟩) ⟨n,0,none⟩ hit e v' is h (fun _ h'=>∃m',m'.bc=m.bc∧Sep h0 h' (kL c b m' { (if is then cV s 8 s.now a.rep o.k e v' else s) with aR:={ a with j:=cU c.C a.j o (LFlg.fD o c.C.hit c.C.bT hit)}::l} R)):=by
 have hlen:=hc.len
 apply f0S
 unfold e1p
 cases is
 ·simp only[aj,Bool.false_eq_true,if_false]
  refine (KR hc hs hm hl (by have:=hj.t;omega) hj.at_ hj.op hj.regions hj.aU hj.oa hj.hit hj.bT hit).mono ?_
  rintro v h hs
  exact⟨m,rfl,hs⟩
 ·simp only[aq,if_true,au,ay,Nat.zero_add]
  have ht:=uc hs hm hl
  have call:∀{K:Value→M Value} {Q:Value→Hp→Prop},(∀v h nU,Sep h0 h (kL c b { m with tr:=nU} (cV s 8 s.now a.rep o.k e v') (aBlk n (dM o)::R))→K v h Q)→ai (uu (some ⟨b,0,none⟩) 8 s.now (a.rep:Int) 0 0 0 0 o.k e v') K h Q:=by
   intro K Q hK
   rw[ae]
   refine (mm hs qq 8 s.now hr 0 0 0 0 o.k e v').mono ?_
   rintro v h ⟨nU,hs⟩
   exact hK v h nU hs
  have fin:∀h nU,Sep h0 h (kL c b { m with tr:=nU} (cV s 8 s.now a.rep o.k e v') (aBlk n (dM o)::R))→Kza (some ⟨b,0,none⟩) (some ⟨x.1,0,none⟩) ⟨n,0,none⟩ hit h (fun _ h'=>∃m',m'.bc=m.bc∧Sep h0 h' (kL c b m' { cV s 8 s.now a.rep o.k e v' with aR:={ a with j:=cU c.C a.j o (LFlg.fD o c.C.hit c.C.bT hit)}::l} R)):=by
   intro h nU hs
   refine (KR hc hs (show ({ m with tr:=nU}:KM).bc=x::xs from hm) (by rw[kK];exact hl) (by have:=hj.t;omega) hj.at_ hj.op hj.regions hj.aU hj.oa hj.hit hj.bT hit).mono ?_
   rintro v h hs
   exact⟨{ m with tr:=nU},rfl,hs⟩
  repeat' (first
   |with_reducible refine aK ?_ ?_
   |with_reducible refine Sep.aB ht 0 rfl rfl ?_
   |with_reducible refine Sep.aB ht 3 rfl rfl ?_
   |with_reducible refine Sep.aB ht 18 rfl rfl ?_
   |with_reducible refine call fun v h nU hs=>?_)
  all_goals exact fin _ _ hs
def rz (s:KS)(a:dD)(o:dG):KS:=if (bX s a.rep o).2.2.1 then cV (bX s a.rep o).2.2.2 8 s.now a.rep o.k (bX s a.rep o).1 (bX s a.rep o).2.1 else (bX s a.rep o).2.2.2
theorem IL (hc:hU h0 c.C c.sm c.sc c.se c.st c.sl c.ts){n:Nat}{o:dG}(hs:Sep h0 h (kL c b m s (aBlk n (dM o)::R)))(hm:m.bc=x::xs)(hl:s.aR=a::l)(hj:b5e c.C a o)(ho:Tl s o)(hr:a.rep<s.reps.length)(qq:s.tr.length≤1000000)(hit:Bool):
  a2O (some ⟨b,0,none⟩) (some ⟨x.1,0,none⟩) ⟨n,0,none⟩ hit h (fun _ h'=>∃m',m'.bc=m.bc∧Sep h0 h' (kL c b m' { rz s a o with aR:={ a with j:=cU c.C a.j o (LFlg.fD o c.C.hit c.C.bT hit)}::l} R)):=by
 apply f0R
 unfold e1j
 simp only[au,ay,Nat.zero_add]
 have ht:=uc hs hm hl
 obtain⟨k1,k2,k3,k4,_⟩:=tJ s a.rep o
 have call:∀{K:Value→M Value} {Q:Value→Hp→Prop},(∀h,Sep h0 h (kL c b m (bX s a.rep o).2.2.2 (aBlk n (dM o)::R))→K (.tuple #[.int .i64 (bX s a.rep o).1,.int .i64 (bX s a.rep o).2.1,.bool (bX s a.rep o).2.2.1]) h Q)→ai (a2u (some ⟨b,0,none⟩) (a.rep:Int) o.k o.a o.b) K h Q:=by
  intro K Q hK
  rw[ae]
  refine (d2D hs a.rep ho).mono ?_
  rintro v h ⟨rfl,hs⟩
  exact hK h hs
 have fin:∀h,Sep h0 h (kL c b m (bX s a.rep o).2.2.2 (aBlk n (dM o)::R))→a2P (some ⟨b,0,none⟩) (some ⟨x.1,0,none⟩) ⟨n,0,none⟩ hit (bX s a.rep o).1 (bX s a.rep o).2.1 (bX s a.rep o).2.2.1 h (fun _ h'=>∃m',m'.bc=m.bc∧Sep h0 h' (kL c b m' { rz s a o with aR:={ a with j:=cU c.C a.j o (LFlg.fD o c.C.hit c.C.bT hit)}::l} R)):=by
  intro h hs
  have:=b5f hc hs hm (by rw[k1];exact hl) hj (by rw[k2];exact hr) (by rw[k3];exact qq) hit (bX s a.rep o).2.2.1 (bX s a.rep o).1 (bX s a.rep o).2.1
  rw[k4]at this
  exact this
 repeat' (first
  |with_reducible refine aK ?_ ?_
  |with_reducible refine Sep.aB ht 0 rfl rfl ?_
  |with_reducible refine Sep.aB ht 18 rfl rfl ?_
  |(with_reducible refine call fun h hs=>?_;simp only[fi,az,av]))
 all_goals exact fin _ hs
theorem d2G (hc:hU h0 c.C c.sm c.sc c.se c.st c.sl c.ts){n:Nat}{o:dG}(hs:Sep h0 h (kL c b m s (aBlk n (dM o)::R)))(hm:m.bc=x::xs)(hl:s.aR=a::l)(hj:b5e c.C a o)(ho:Tl s o)(hr:a.rep<s.reps.length)(qq:s.tr.length≤1000000){p:Addr}(hp:At m.rs p a.rep 11)(hit:Bool):
  b0T (some ⟨b,0,none⟩) (some ⟨x.1,0,none⟩) ⟨n,0,none⟩ hit p h (fun _ h'=>∃m',m'.bc=m.bc∧Sep h0 h' (kL c b m' { rz { s with reps:=s.reps.modify a.rep fun r=>if hit then { r with xq:=IntKind.i64.wrap (r.xq+1)} else { r with bT:=IntKind.i64.wrap (r.bT+1)}} a o with aR:={ a with j:=cU c.C a.j o (LFlg.fD o c.C.hit c.C.bT hit)}::l} R)):=by
 have hx:=List.getElem?_eq_getElem hr
 rw[dY s.reps a.rep _ hx]
 generalize s.reps[a.rep]=r at hx
 apply f0Q
 unfold e1i
 have AP:∀f:List nj,Tl { s with reps:=f} o:=fun f=>⟨ho.a,ho.lock,ho.box,ho.group,ho.flags,ho.count,ho.Tm⟩
 cases hit
 ·simp only[aj,Bool.false_eq_true,if_false]
  refine Sep.iu hs 11 rfl bA hp hx rfl ?_
  refine Sep.sR hs 11 { r with bT:=IntKind.i64.wrap (r.bT+1)} rfl bA hp hx (by omega) rfl rfl fun h hs=>?_
  exact IL (s:={ s with reps:=s.reps.set a.rep { r with bT:=IntKind.i64.wrap (r.bT+1)}}) hc hs hm hl hj (AP _) (by simpa using hr) qq false
 ·simp only[aq,if_true]
  refine Sep.iu hs 11 rfl bA hp hx rfl ?_
  refine Sep.sR hs 11 { r with xq:=IntKind.i64.wrap (r.xq+1)} rfl bA hp hx (by omega) rfl rfl fun h hs=>?_
  exact IL (s:={ s with reps:=s.reps.set a.rep { r with xq:=IntKind.i64.wrap (r.xq+1)}}) hc hs hm hl hj (AP _) (by simpa using hr) qq true
theorem Tn {o:dG}(hl:s.aR=a::l)(ho:Fv c.C a.j=some o):cv c.C s={ rz (oK c.C s a.rep o) a o with aR:={ a with j:=cU c.C a.j o (LFlg.fD o c.C.hit c.C.bT (yp c.C s o))}::l}:=by
 unfold cv rz
 rw[hl]
 simp only[ho]
 have:(oK c.C s a.rep o).now=s.now:=by unfold oK;split<;>rfl
 rw[this]
theorem b5g (hc:hU h0 c.C c.sm c.sc c.se c.st c.sl c.ts)(hb:d2E c.C s a)(hs:Sep h0 h (kL c b m s R))(hm:m.bc=x::xs)(hl:s.aR=a::l):
  b0G (some ⟨b,0,none⟩) (some ⟨x.1,0,none⟩) h (fun _ h'=>∃m',m'.bc=m.bc∧Sep h0 h' (kL c b m' (cv c.C s) R)):=by
 have hlen:=hc.len
 have IM:a.j.t<c.ts.length:=by have:=hb.t;omega
 have ht:=uc hs hm hl
 apply f0P
 unfold e1d
 simp only[au,ay,Nat.zero_add]
 refine Sep.kN ht 0 rfl rfl ?_
 rw[ae]
 have d2F:(di c a.j).over=false→0≤(di c a.j).at_∧(di c a.j).at_<((bS c.C a.j.t).ops.length:Int):=fun ho=>⟨Int.natCast_nonneg _,Int.ofNat_lt.2 (hb.at_ ho)⟩
 have q:∀{R:List As},Sep h0 h (aBlk x.2 (di c a.j).enc::R)→YQ (some ⟨x.2,0,none⟩) h (fun v h'=>v= .tuple #[.agg #[.int .i64 (LJob.Ry (bS c.C a.j.t).ops (di c a.j)).k,.int .i64 (LJob.Ry (bS c.C a.j.t).ops (di c a.j)).a,.int .i64 (LJob.Ry (bS c.C a.j.t).ops (di c a.j)).b],.bool (LJob.Ek (di c a.j))]∧Sep h0 h' (aBlk x.2 (di c a.j).enc::R)):=by
  intro R hs
  exact LJob.e0j hs (Cg hc IM) d2F
 refine (via 1 ht rfl fun hs=>q hs).mono ?_
 rintro v h ⟨rfl,ht⟩
 have hs:Sep h0 h (kL c b m s R):=e4O ht hm hl
 have hjo:=a7o (c:=c) hb.at_
 cases hok:LJob.Ek (di c a.j)
 ·rw[hok]at hjo
  simp only[Bool.false_eq_true,if_false]at hjo
  have e:cv c.C s=s:=by unfold cv;rw[hl];simp only[hjo]
  rw[e]
  simp only[cC,bW,cG,az,cH,av]
  refine gz hs fun n h hs=>?_
  simp only[sz2,ay,Nat.zero_add]at hs ⊢
  refine nt hs 0 rfl rfl rfl fun h hs=>?_
  refine nt hs 0 rfl rfl rfl fun h hs=>?_
  refine nt hs 0 rfl rfl rfl fun h hs=>?_
  exact⟨m,rfl,(dj hs).drop⟩
 ·rw[hok]at hjo
  simp only[if_true]at hjo
  generalize LJob.Ry (bS c.C a.j.t).ops (di c a.j)=o at hjo
  rw[Tn hl hjo]
  obtain⟨o1,o2,o3⟩:=hb.op o hjo
  have hj:b5e c.C a o:=⟨hb.t,hb.at_,hjo,hb.regions,hb.aU,⟨o1.a,o2⟩,hb.hit,hb.bT⟩
  have qq:=hb.tr
  simp only[cC,bW,cG,az,cH,av]
  refine gz hs fun n h hs=>?_
  simp only[sz2,ay,Nat.zero_add]at hs ⊢
  refine nt hs 0 rfl rfl rfl fun h hs=>?_
  refine nt hs 0 rfl rfl rfl fun h hs=>?_
  refine nt hs 0 rfl rfl rfl fun h hs=>?_
  have hs:Sep h0 h (kL c b m s (aBlk n (dM o)::R)):=hs
  refine aA rfl ?_
  refine Sep.aB hs 16 rfl rfl ?_
  by_cases h2:o.k=2
  ·refine aM (by simpa using h2) ?_
   have ht:=uc hs hm hl
   refine Sep.bu hs 0 rfl rfl ?_
   refine Sep.aB ht 0 rfl rfl ?_
   refine Sep.idx hs 11 rfl (by omega) (by have:=hb.rep;omega) fun p hp=>?_
   rw[Int.toNat_natCast]at hp
   have hk2:(o.k == 2)=true:=by simpa using h2
   have ec:oK c.C s a.rep o={ s with cache:=LCache.cst c.C.ways.toNat s.cache o.a,reps:=s.reps.modify a.rep fun r=>if yp c.C s o then { r with xq:=IntKind.i64.wrap (r.xq+1)} else { r with bT:=IntKind.i64.wrap (r.bT+1)}}:=by
    unfold oK yp
    rw[if_pos hk2,hk2]
    simp
   have eh:yp c.C s o=decide (o.a∈LCache.rof s.cache o.a):=by unfold yp;rw[hk2,Bool.true_and]
   rw[ec,eh]
   have call:∀{K:Value→M Value} {Q:Value→Hp→Prop},(∀h,Sep h0 h (kL c b m { s with cache:=LCache.cst c.C.ways.toNat s.cache o.a} (aBlk n (dM o)::R))→K (.tuple #[.bool (decide (o.a∈LCache.rof s.cache o.a)),.int .i64 0]) h Q)→ai (Nzq (some ⟨m.ca,0,none⟩) o.a) K h Q:=by
    intro K Q hK
    rw[ae]
    refine (via 2 hs rfl fun hs=>LCache.e0o hs hb.cache ⟨o1.a,o3 h2⟩).mono ?_
    rintro v h ⟨rfl,hs⟩
    exact hK h hs
   have AP:Tl { s with cache:=LCache.cst c.C.ways.toNat s.cache o.a} o:=⟨o1.a,o1.lock,o1.box,o1.group,o1.flags,o1.count,o1.Tm⟩
   repeat' (first
    |with_reducible refine aK ?_ ?_
    |with_reducible refine Sep.kN hs 0 rfl rfl ?_
    |with_reducible refine Sep.aB hs 16 rfl rfl ?_
    |(with_reducible refine call fun h hs=>?_;simp only[bD,az,av]))
   all_goals exact d2G (s:={ s with cache:=LCache.cst c.C.ways.toNat s.cache o.a}) hc hs hm hl hj AP hb.rep (by show s.tr.length≤_;omega) hp _
  ·refine aA (by simpa using h2) ?_
   have hk2:(o.k == 2)=false:=by simpa using h2
   have ec:oK c.C s a.rep o=s:=by unfold oK;rw[hk2];rfl
   have eh:yp c.C s o=false:=by unfold yp;rw[hk2,Bool.false_and]
   rw[ec,eh]
   exact IL hc hs hm hl hj o1 hb.rep (by omega) false
end
end Go.Proofs.YtnpinhahjgbigaaGreatDoor
end
section
namespace Go.Proofs.YtnpinhahjgbigaaGreatDoor
open Go Go.Sb
abbrev kX (c:KC)(b:Nat)(m:KM)(s:KS)(F:List (Int×Int))(A Z:List (Nat×Nat))(l:List dD)(R:List As):List As:=
 aBlk b (sC c m s.now)::LAgd.lG m.ag s.ev s.ord::LCache.cq m.ca c.C.ways.toNat s.cache::LMbx.dW m.bx s.boxes::LFlg.aF m.gr s.groups::LCnt.aC m.ct s.counts::LCei.tZ m.lk s.aD::LLin.aL m.ln s.lines::
 cR m.rd s.ready::LFrame.jH m.fr F s.cr::aRow yu 1 m.ss A.reverse::aRow dx 11 m.rs s.reps::aPl m.pm s.pl::aMap m.fm .i64 m.ff m.fn::aRow cw 7 m.tr s.tr::db (List.zipWith (qh c) Z l)::R
section
variable {α:Type}{Q:α→Hp→Prop}{h0 h:Hp}{R L:List As}{c:KC}{b:Nat}{m:KM}{s:KS}{x:Nat×Nat}{xs:List (Nat×Nat)}{a a':dD}{l:List dD}{F:List (Int×Int)}
theorem f2N (hs:Sep h0 h (kL c b m s R))(hm:m.bc=x::xs)(hl:s.aR=a::l):Sep h0 h (kX c b m s (iJ c.C l++[((a.rep:Int),(bS c.C a.j.t).fr)]) (x::xs) xs l (aBlk x.1 (qg x a)::aBlk x.2 (di c a.j).enc::R)):=by
 have ht:=uc hs hm hl
 have ht:=ht.jN 18 [3,4,5,6,7,8,9,10,11,12,13,14,15,16,17,2,0,1] rfl (by simp)
 have e:iJ c.C s.aR=iJ c.C l++[((a.rep:Int),(bS c.C a.j.t).fr)]:=by rw[hl,kJ]
 rw[←e,←hm]
 exact ht
theorem f2O {X:As}(hs:Sep h0 h (kX c b m s (iJ c.C l) (x::xs) xs l (aBlk x.1 (qg x a)::X::R)))(hx:xs.length≤1000)(qq:s.tr.length≤1000000){r:nj}(hr:s.reps[a.rep]? =some r){p:Addr}(hp:At m.rs p a.rep 11):
  b1v (some ⟨b,0,none⟩) (some ⟨x.1,0,none⟩) p h (fun _ h'=>∃m',m'.bc=xs∧Sep h0 h' (kL c b m' (if r.fault then cV { s with aR:=l} 7 s.now a.rep 0 11 0 else cV { s with aR:=l} 6 s.now a.rep 0 0 0) R)):=by
 have hn:=hs.bn 10 rfl
 simp only[List.length_reverse,List.length_cons]at hn
 have hrl:=(List.getElem?_eq_some_iff.1 hr).1
 apply f1a
 unfold e1B
 simp only[au,ay,Nat.zero_add]
 refine Sep.bu hs 0 rfl rfl ?_
 refine Sep.bu hs 0 rfl rfl ?_
 have e:IntKind.i64.wrap ((m.ss.n:Int)-1)=(xs.length:Int):=by rw[hn,wrap64 _ (by omega)];omega
 rw[e]
 refine Sep.slc hs 10 rfl (fun _=>rfl) (by omega) (by omega) (by simp;omega) rfl fun ss' hn' hs=>?_
 have ev:((x::xs).reverse.take (xs.length:Int).toNat).drop (0:Int).toNat=xs.reverse:=by simp
 rw[ev]at hs
 refine Sep.st hs 0 rfl rfl rfl fun h hs=>?_
 have hs:Sep h0 h (kL c b { m with ss:=ss',bc:=xs} { s with aR:=l} (aBlk x.1 (qg x a)::X::R)):=hs
 refine Sep.AW hs 11 rfl bA hp hr rfl ?_
 have fin:∀(k e:Int),(ai (uu (some ⟨b,0,none⟩) k s.now (a.rep:Int) 0 0 0 0 0 e 0) fun _=>af (Value.tuple #[])) h (fun _ h'=>∃m',m'.bc=xs∧Sep h0 h' (kL c b m' (cV { s with aR:=l} k s.now a.rep 0 e 0) R)):=by
  intro k e
  rw[ae]
  refine (mm hs qq k s.now (rep:=a.rep) hrl 0 0 0 0 0 e 0).mono ?_
  rintro v h ⟨nU,hs⟩
  exact⟨{ m with ss:=ss',bc:=xs,tr:=nU},rfl,(dj (dj hs).drop).drop⟩
 cases r.fault
 ·simp only[aj,Bool.false_eq_true,if_false]
  refine aK ?_ ?_
  ·refine Sep.aB hs 0 rfl rfl ?_
   refine Sep.aB hs 16 rfl rfl ?_
   exact fin 6 0
  ·refine Sep.aB hs 16 rfl rfl ?_
   refine Sep.aB hs 0 rfl rfl ?_
   exact fin 6 0
 ·simp only[aq,if_true]
  refine aK ?_ ?_
  ·refine Sep.aB hs 0 rfl rfl ?_
   refine Sep.aB hs 16 rfl rfl ?_
   exact fin 7 11
  ·refine Sep.aB hs 16 rfl rfl ?_
   refine Sep.aB hs 0 rfl rfl ?_
   exact fin 7 11
theorem f2P {X:As}{f:Int}(hs:Sep h0 h (kX c b m s (iJ c.C l++[((a.rep:Int),f)]) (x::xs) xs l (aBlk x.1 (qg x a)::X::R)))(hfo:LFrame.Fu (iJ c.C l++[((a.rep:Int),f)]))(hx:xs.length≤1000)(qq:s.tr.length≤1000000){r:nj}(hr:s.reps[a.rep]? =some r){p:Addr}(hp:At m.rs p a.rep 11):
  b1u (some ⟨b,0,none⟩) (some ⟨x.1,0,none⟩) p h (fun _ h'=>∃m',m'.bc=xs∧Sep h0 h' (kL c b m' (if r.fault then cV { s with aR:=l} 7 s.now a.rep 0 11 0 else cV { s with aR:=l} 6 s.now a.rep 0 0 0) R)):=by
 apply f0Z
 unfold e1A
 simp only[au,ay,Nat.zero_add]
 have call:∀{K:Value→M Value} {Q:Value→Hp→Prop},(∀e h,Sep h0 h (kX c b m s (iJ c.C l) (x::xs) xs l (aBlk x.1 (qg x a)::X::R))→K (.int .i64 e) h Q)→ai (YO (some ⟨m.fr,0,none⟩) (a.rep:Int)) K h Q:=by
  intro K Q hK
  rw[ae]
  refine (via 9 hs rfl fun hs=>LFrame.e0f hs hfo (a.rep:Int)).mono ?_
  rintro v h ⟨rfl,hs⟩
  have e:LFrame.b0t (iJ c.C l++[((a.rep:Int),f)]) (a.rep:Int)=iJ c.C l:=by
   unfold LFrame.b0t
   rw[if_neg (by simp),if_pos (by rw[LFrame.z9]),List.dropLast_concat]
  rw[e]at hs
  exact hK _ h hs
 repeat' (first
  |with_reducible refine aK ?_ ?_
  |with_reducible refine Sep.kN hs 0 rfl rfl ?_
  |with_reducible refine Sep.aB hs 16 rfl rfl ?_
  |(with_reducible refine call fun e h hs=>?_;simp only[az]))
 all_goals exact f2O hs hx qq hr hp
theorem f2Q {X:As}{f:Int}(hs:Sep h0 h (kX c b m s (iJ c.C l++[((a.rep:Int),f)]) (x::xs) xs l (aBlk x.1 (qg x a)::X::R)))(hfo:LFrame.Fu (iJ c.C l++[((a.rep:Int),f)]))(hx:xs.length≤1000)(qq:s.tr.length≤1000000){r:nj}(hr:s.reps[a.rep]? =some r){p:Addr}(hp:At m.rs p a.rep 11)(hk:s.aD.length≤1000):
  Kzs (some ⟨b,0,none⟩) (some ⟨x.1,0,none⟩) p h (fun _ h'=>∃m',m'.bc=xs∧Sep h0 h' (kL c b m' (if r.fault then cV { s with aD:=LCei.eF a.rep s.aD (LCei.bL s.aD a.rep s.aD.length),aR:=l} 7 s.now a.rep 0 11 0 else cV { s with aD:=LCei.eF a.rep s.aD (LCei.bL s.aD a.rep s.aD.length),aR:=l} 6 s.now a.rep 0 0 0) R)):=by
 apply f0Y
 unfold e1z
 simp only[au,ay,Nat.zero_add]
 have call:∀{K:Value→M Value} {Q:Value→Hp→Prop},(∀e h,Sep h0 h (kX c b m { s with aD:=LCei.eF a.rep s.aD (LCei.bL s.aD a.rep s.aD.length)} (iJ c.C l++[((a.rep:Int),f)]) (x::xs) xs l (aBlk x.1 (qg x a)::X::R))→K (.int .i64 e) h Q)→ai (YV (some ⟨m.lk,0,none⟩) (a.rep:Int)) K h Q:=by
  intro K Q hK
  rw[ae]
  refine (via 6 hs rfl fun hs=>LCei.c7e hk (a.rep:Int) hs).mono ?_
  rintro v h ⟨rfl,hs⟩
  exact hK _ h hs
 repeat' (first
  |with_reducible refine aK ?_ ?_
  |with_reducible refine Sep.kN hs 0 rfl rfl ?_
  |with_reducible refine Sep.aB hs 16 rfl rfl ?_
  |(with_reducible refine call fun e h hs=>?_;simp only[az]))
 all_goals exact f2P (s:={ s with aD:=LCei.eF a.rep s.aD (LCei.bL s.aD a.rep s.aD.length)}) hs hfo hx qq hr hp
theorem Aa (hs:Sep h0 h (kL c b m s R))(hm:m.bc=x::xs)(hl:s.aR=a::l)(hfo:LFrame.Fu (iJ c.C s.aR))(hx:xs.length≤1000)(qq:s.tr.length≤1000000)(hr:a.rep<s.reps.length)(hk:s.aD.length≤1000):
  c7F (some ⟨b,0,none⟩) (some ⟨x.1,0,none⟩) h (fun _ h'=>∃m',m'.bc=xs∧Sep h0 h' (kL c b m' (yq s) R)):=by
 have f2R:LFrame.Fu (iJ c.C l++[((a.rep:Int),(bS c.C a.j.t).fr)]):=by rw[←kJ,←hl];exact hfo
 have e:yq s=(if a.j.fault then cV { s with reps:=s.reps.modify a.rep (fun r=>{ r with end_:=s.now,fault:=a.j.fault}),aD:=LCei.eF a.rep s.aD (LCei.bL s.aD a.rep s.aD.length),aR:=l} 7 s.now a.rep 0 11 0 else
   cV { s with reps:=s.reps.modify a.rep (fun r=>{ r with end_:=s.now,fault:=a.j.fault}),aD:=LCei.eF a.rep s.aD (LCei.bL s.aD a.rep s.aD.length),aR:=l} 6 s.now a.rep 0 0 0):=by unfold yq;rw[hl]
 rw[e]
 have hxr:=List.getElem?_eq_getElem hr
 rw[dY s.reps a.rep _ hxr]
 generalize s.reps[a.rep]=r at hxr
 have hs:=f2N hs hm hl
 apply f0X
 unfold e1y
 simp only[au,ay,Nat.zero_add]
 refine Sep.bu hs 0 rfl rfl ?_
 refine Sep.aB hs 16 rfl rfl ?_
 refine Sep.idx hs 11 rfl (by omega) (by omega) fun p hp=>?_
 rw[Int.toNat_natCast]at hp
 have call:∀{K:Value→M Value} {Q:Value→Hp→Prop},K (.bool a.j.fault) h Q→ai (Nzt (some ⟨x.2,0,none⟩)) K h Q:=by
  intro K Q hK
  rw[ae]
  refine (LJob.b0v (hs.at 17 rfl)).mono ?_
  rintro v h ⟨rfl,rfl⟩
  exact hK
 have fin:(an (p.add 4) (.int .i64 s.now) <| an (p.add 5) (.bool a.j.fault) <| Kzs (some ⟨b,0,none⟩) (some ⟨x.1,0,none⟩) p) h (fun _ h'=>∃m',m'.bc=xs∧Sep h0 h' (kL c b m' (if a.j.fault then cV { s with reps:=s.reps.set a.rep { r with end_:=s.now,fault:=a.j.fault},aD:=LCei.eF a.rep s.aD (LCei.bL s.aD a.rep s.aD.length),aR:=l} 7 s.now a.rep 0 11 0 else
   cV { s with reps:=s.reps.set a.rep { r with end_:=s.now,fault:=a.j.fault},aD:=LCei.eF a.rep s.aD (LCei.bL s.aD a.rep s.aD.length),aR:=l} 6 s.now a.rep 0 0 0) R)):=by
  refine Sep.sR hs 11 { r with end_:=s.now} rfl bA hp hxr (by omega) rfl rfl fun h hs=>?_
  refine Sep.sR hs 11 { r with end_:=s.now,fault:=a.j.fault} rfl bA hp (List.getElem?_set_self hr) (by omega) rfl rfl fun h hs=>?_
  rw[show (s.reps.set a.rep { r with end_:=s.now}).set a.rep { r with end_:=s.now,fault:=a.j.fault}=s.reps.set a.rep { r with end_:=s.now,fault:=a.j.fault} from List.set_set _]at hs
  exact f2Q (s:={ s with reps:=s.reps.set a.rep { r with end_:=s.now,fault:=a.j.fault}}) (f:=(bS c.C a.j.t).fr) hs f2R hx qq (List.getElem?_set_self hr) hp hk
 repeat' (first
  |with_reducible refine aK ?_ ?_
  |with_reducible refine Sep.aB hs 0 rfl rfl ?_
  |with_reducible refine Sep.kN hs 16 rfl rfl ?_
  |(with_reducible refine call ?_;simp only[av]))
 all_goals exact fin
end
end Go.Proofs.YtnpinhahjgbigaaGreatDoor
end
section
namespace Go.Proofs.YtnpinhahjgbigaaGreatDoor
open Go Go.Sb
def E8 (C:bw):List iO→KS→Prop
 |[],_=>True
 |e::l,s=>KP C s∧IJ C e∧E8 C l (dr C s e)
structure b5h (C:bw) (j:PJ) (n:Int):Prop where
 t:j.t<C.tasks.length
 n:1≤n∧n≤j.rest
 rest:j.rest≤1000000000
 left:0≤j.left∧j.left≤1000000000
 at_:j.at_≤1000000
structure IN (C:bw) (u:Int) (s:KS):Prop where
 ev:s.ev.length≤100000
 due:E8 C ((s.ev.takeWhile fun x=>decide (x.e.t≤s.now)).map (·.e)) { s with ev:=s.ev.dropWhile fun x=>decide (x.e.t≤s.now)}
 choose:d2B C (eS C s)
 begin:∀a l,(bt C (eS C s)).1.aR=a::l→d2E C (bt C (eS C s)).1 a
 now:0≤(cv C (bt C (eS C s)).1).now∧(cv C (bt C (eS C s)).1).now≤1073741824
 evt:∀x∈(cv C (bt C (eS C s)).1).ev,0≤x.e.t∧x.e.t≤1073741824
 sp:0≤iP (cv C (bt C (eS C s)).1) u (bt C (eS C s)).2∧iP (cv C (bt C (eS C s)).1) u (bt C (eS C s)).2≤1073741824
 f2S:∀a l,(cv C (bt C (eS C s)).1).aR=a::l→b5h C a.j (iP (cv C (bt C (eS C s)).1) u (bt C (eS C s)).2)∧a.rep<(cv C (bt C (eS C s)).1).reps.length
 tr:(cv C (bt C (eS C s)).1).tr.length≤1000000
 iJ:LFrame.Fu (iJ C (cv C (bt C (eS C s)).1).aR)
 aR:(cv C (bt C (eS C s)).1).aR.length≤300
 aD:(cv C (bt C (eS C s)).1).aD.length≤1000
section
variable {α:Type}{Q:α→Hp→Prop}{h0 h:Hp}{R L:List As}{c:KC}{b:Nat}{m:KM}{s:KS}{x:Nat×Nat}{xs:List (Nat×Nat)}{a a':dD}{l:List dD}
theorem b5i (hc:hU h0 c.C c.sm c.sc c.se c.st c.sl c.ts){j:PJ}{n:Int}(hb:b5h c.C j n):LJob.Ej (di c j) n=di c (eJ c.C j n):=by
 obtain⟨h1,h2,h3,h4,h5⟩:=hb
 have hlen:=hc.len
 have hp:=(Cg hc (j:=j) (by omega)).n
 have hN:LJob.tc (di c j) n=n:=by
  unfold LJob.tc
  show (if j.rest<(if (0:Int)>n then 0 else n) then j.rest else (if (0:Int)>n then 0 else n))=n
  rw[if_neg (show ¬(0:Int)>n by omega),if_neg (by omega)]
 have e1:LJob.wq (di c j) n=di c { j with rest:=j.rest-n,left:=if j.dL then (if (0:Int)>j.left-n then 0 else j.left-n) else j.left}:=by
  unfold LJob.wq
  show LJob.Jb.mk _ _ (IntKind.i64.wrap (j.rest-n)) _ _ (if j.dL then (if (0:Int)>IntKind.i64.wrap (j.left-n) then 0 else IntKind.i64.wrap (j.left-n)) else j.left) _ _ _=_
  rw[wrap64 (j.rest-n) (by omega),wrap64 (j.left-n) (by omega)]
  rfl
 unfold LJob.Ej
 rw[hN,if_neg (by simp;omega),e1]
 unfold eJ LJob.Kc
 simp only[]
 by_cases hz:(j.rest-n == 0)=true
 ·rw[if_pos hz,if_pos (show ((di c { j with rest:=j.rest-n,left:=if j.dL then (if (0:Int)>j.left-n then 0 else j.left-n) else j.left}).rest == 0)=true from hz)]
  show LJob.Jb.mk _ (IntKind.i64.wrap ((j.at_:Int)+1)) _ _ _ _ _ _ (j.fault||(IntKind.i64.wrap ((j.at_:Int)+1) == ((di c j).t.program.n:Int)))=_
  rw[dK _ (by omega),hp]
  have:(((j.at_+1:Nat):Int) == ((bS c.C j.t).ops.length:Int))=(j.at_+1 == (bS c.C j.t).ops.length):=by
   rw[Bool.eq_iff_iff,beq_iff_eq,beq_iff_eq];omega
  rw[this];rfl
 ·rw[if_neg hz,if_neg (show ¬((di c { j with rest:=j.rest-n,left:=if j.dL then (if (0:Int)>j.left-n then 0 else j.left-n) else j.left}).rest == 0)=true from hz)]
theorem KT (C:bw)(j:PJ)(n:Int):(eJ C j n).t=j.t:=by unfold eJ;simp only[];split<;>rfl
abbrev RQ (c:KC)(h0:Hp)(b:Nat)(R:List As)(s:KS):Value→Hp→Prop:=fun v h'=>v= .int .i64 0∧∃m',m'.bc.length=s.aR.length∧Sep h0 h' (kL c b m' s R)
theorem b7a (hc:hU h0 c.C c.sm c.sc c.se c.st c.sl c.ts){u n:Int}{s':KS}(hs:Sep h0 h (kL c b m s R))(hm:m.bc=x::xs)(hl:s.aR=a::l)(hml:xs.length=l.length)(hb:b5h c.C a.j n)(hfo:LFrame.Fu (iJ c.C s.aR))(hx:xs.length≤1000)(qq:s.tr.length≤1000000)(hr:a.rep<s.reps.length)(hk:s.aD.length≤1000)
  (next:∀(h:Hp) (m:KM) (s1:KS),s1=(if (eJ c.C a.j n).over then yq { s with aR:={ a with j:=eJ c.C a.j n}::l} else { s with aR:={ a with j:=eJ c.C a.j n}::l})→m.bc.length=s1.aR.length→Sep h0 h (kL c b m s1 R)→Kzg (some ⟨b,0,none⟩) u h (RQ c h0 b R s')):
  b0H (some ⟨b,0,none⟩) u (some ⟨x.1,0,none⟩) n h (RQ c h0 b R s'):=by
 have ht:=uc hs hm hl
 apply f0B
 unfold e0L
 simp only[au,ay,Nat.zero_add]
 refine Sep.kN ht 0 rfl rfl ?_
 rw[ae]
 have q:∀{R:List As},Sep h0 h (aBlk x.2 (di c a.j).enc::R)→a9R (some ⟨x.2,0,none⟩) n h (fun v h'=>v= .int .i64 (LJob.tc (di c a.j) n)∧Sep h0 h' (aBlk x.2 (LJob.Ej (di c a.j) n).enc::R)):=fun hs=>LJob.c6W hs n
 refine (via 1 ht rfl fun hs=>q hs).mono ?_
 rintro v h ⟨rfl,ht⟩
 rw[b5i hc hb]at ht
 have ht:Sep h0 h (kT c b m s x xs { a with j:=eJ c.C a.j n} l R):=ht
 simp only[az]
 refine Sep.kN ht 0 rfl rfl ?_
 rw[ae]
 refine (LJob.GA ht.swap).mono ?_
 rintro v h ⟨rfl,rfl⟩
 simp only[av]
 have hs:=E5 (a':={ a with j:=eJ c.C a.j n}) ht hm hl rfl (KT _ _ _)
 have ho:(di c (eJ c.C a.j n)).over=(eJ c.C a.j n).over:=rfl
 rw[ho]
 cases xI:(eJ c.C a.j n).over
 ·simp only[aj]
  exact next h m _ (by rw[xI];rfl) (by rw[hm];show xs.length+1=l.length+1;omega) hs
 ·simp only[aq]
  rw[ae]
  refine (Aa (s:={ s with aR:={ a with j:=eJ c.C a.j n}::l}) hs hm rfl ?_ hx qq hr hk).mono ?_
  ·show LFrame.Fu (iJ c.C ({ a with j:=eJ c.C a.j n}::l))
   rw[ry (a:=a) (a':={ a with j:=eJ c.C a.j n}) c.C l rfl (KT _ _ _),←hl];exact hfo
  ·rintro v h ⟨m',h1,hs⟩
   refine next h m' _ (by rw[xI];rfl) ?_ hs
   rw[h1,hml]
   unfold yq
   simp only[]
   split<;>rw[kK]
theorem e4Q (hc:hU h0 c.C c.sm c.sc c.se c.st c.sl c.ts){u:Int}{held:Bool}{s':KS}(hs:Sep h0 h (kL c b m s R))(hm:m.bc.length=s.aR.length)(hu:0≤u∧u≤1073741824)(hn:0≤s.now∧s.now≤1073741824)(he:∀x∈s.ev,0≤x.e.t∧x.e.t≤1073741824)(hsp:0≤iP s u held∧iP s u held≤1073741824)
  (hb:∀a l,s.aR=a::l→b5h c.C a.j (iP s u held)∧a.rep<s.reps.length) (hfo:LFrame.Fu (iJ c.C s.aR)) (hst:s.aR.length≤300) (qq:s.tr.length≤1000000) (hk:s.aD.length≤1000)
  (next:∀(h:Hp) (m:KM),m.bc.length=(lA c.C s (iP s u held) held).aR.length→Sep h0 h (kL c b m (lA c.C s (iP s u held) held) R)→Kzg (some ⟨b,0,none⟩) u h (RQ c h0 b R s')):
  Kzl (some ⟨b,0,none⟩) u (sD m.bc) held h (RQ c h0 b R s'):=by
 apply f0A
 unfold e0K
 rw[ae]
 refine (d2u hs hm held u hn hu he).mono ?_
 rintro v h ⟨rfl,rfl⟩
 generalize iP s u held=n at*
 simp only[az,au,ay,Nat.zero_add]
 refine Sep.aB hs 0 rfl rfl ?_
 rw[wrap64 _ (by omega)]
 refine Sep.st hs 0 rfl rfl rfl fun h hs=>?_
 have hs:Sep h0 h (kL c b m { s with now:=s.now+n} R):=hs
 cases hl:s.aR with
 |nil=>
  have hma:m.bc=[]:=List.length_eq_zero_iff.1 (by rw[hm,hl];rfl)
  have e:lA c.C s n held={ s with now:=s.now+n}:=by unfold lA;rw[hl]
  rw[e]at next
  rw[hma]
  simp only[sD,Option.isNone_none,aq]
  exact next h m hm hs
 |cons a l=>
  obtain⟨x,xs,hx⟩:=Cf (show m.bc.length=l.length+1 by rw[hm,hl];rfl)
  have hxl:xs.length=l.length:=by rw[hx,hl]at hm;simpa using hm
  obtain⟨hbu,a7q⟩:=hb a l hl
  unfold lA at next
  rw[hl]at next
  simp only[]at next
  rw[hx]
  simp only[sD,Option.isNone_some,aj,au,ay,Nat.zero_add]
  have sF:l.length+1≤300:=by rw[hl]at hst;exact hst
  cases held
  ·simp only[aj,Bool.false_eq_true,if_false]at next ⊢
   refine b7a (s:={ s with now:=s.now+n}) hc hs hx hl hxl hbu hfo (by omega) qq a7q hk fun h m s1 e1 h1 hs=>?_
   subst e1
   exact next h m h1 hs
  ·simp only[aq,if_true]at next ⊢
   have ht:=uc hs hx hl
   have hxr:=List.getElem?_eq_getElem a7q
   rw[dY s.reps a.rep _ hxr]at next
   generalize s.reps[a.rep]=r at hxr next
   refine Sep.bu hs 0 rfl rfl ?_
   refine Sep.aB ht 0 rfl rfl ?_
   refine Sep.idx hs 11 rfl (by omega) (by show (a.rep:Int)<s.reps.length;omega) fun p hp=>?_
   rw[Int.toNat_natCast]at hp
   refine Sep.iu hs 11 rfl bA hp hxr rfl ?_
   refine Sep.idx hs 11 rfl (by omega) (by show (a.rep:Int)<s.reps.length;omega) fun p hp=>?_
   rw[Int.toNat_natCast]at hp
   refine Sep.sR hs 11 { r with held:=IntKind.i64.wrap (r.held+n)} rfl bA hp hxr (by omega) rfl rfl fun h hs=>?_
   refine b7a (s:={ s with now:=s.now+n,reps:=s.reps.set a.rep { r with held:=IntKind.i64.wrap (r.held+n)}}) hc hs hx hl hxl hbu hfo (by omega) qq (by simpa using a7q) hk fun h m s1 e1 h1 hs=>?_
   subst e1
   exact next h m h1 hs
theorem tK (C:bw)(s:KS)(e:iO):(dr C s e).aR=s.aR:=by
 have hr:∀(s:KS) (t:Nat),(bO s t).aR=s.aR:=by
  intro s t
  unfold bO
  split
  ·rfl
  ·split<;>rfl
 have hd:∀(s:KS) (z:Int) (b:Bool),(dV C s z b).aR=s.aR:=by
  intro s z b
  unfold dV
  split
  ·exact hr _ _
  ·rfl
 unfold dr
 by_cases h1:(e.k == 1)=true
 ·rw[if_pos h1];exact hr _ _
 rw[if_neg h1]
 by_cases h2:(e.k == 2)=true
 ·rw[if_pos h2];exact hd _ _ _
 rw[if_neg h2]
 by_cases h3:(e.k == 3)=true
 ·rw[if_pos h3]
 rw[if_neg h3]
 by_cases h4:(e.k == 4)=true
 ·rw[if_pos h4];exact hd _ _ _
 rw[if_neg h4]
 by_cases h5:(e.k == 5)=true
 ·rw[if_pos h5]
  split
  ·exact hr _ _
  ·exact hr _ _
 rw[if_neg h5]
theorem e4R (hc:hU h0 c.C c.sm c.sc c.se c.st c.sl c.ts){u:Int}{o:Sl}{dN:List iO}(aH:dN.length≤200000){s':KS}
  (next:∀(h:Hp) (m:KM) (s1:KS),s1=dN.foldl (dr c.C) s→m.bc.length=s1.aR.length→Sep h0 h (kL c b m s1 R)→
   (ai (b0F (some ⟨b,0,none⟩)) fun r50=>ki gx da r50 fun q5 Eo=>aI (!q5.isNone) (ai (b0G (some ⟨b,0,none⟩) q5) fun f0y=>Kzl (some ⟨b,0,none⟩) u q5 Eo) (Kzl (some ⟨b,0,none⟩) u q5 Eo)) h (RQ c h0 b R s')):
  ∀(d k:Nat) (s1:KS) (m:KM) (h:Hp),k+d=dN.length→s1=(dN.take k).foldl (dr c.C) s→E8 c.C (dN.drop k) s1→m.bc.length=s1.aR.length→Sep h0 h (kL c b m s1 (aRow LAgd.gp 5 o dN::R))→
   Kzq (some ⟨b,0,none⟩) u o (dN.length:Int) (k:Int) h (RQ c h0 b R s')
 |0,k,s1,m,h,hk,e1,hd,hm,hs=>by
  apply Szv
  unfold Bzv
  refine aA (by simp;omega) ?_
  rw[List.take_of_length_le (by omega)]at e1
  exact next h m s1 e1 hm (dj hs).drop
 |d+1,k,s1,m,h,hk,e1,hd,hm,hs=>by
  have ih:=e4R (o:=o) hc aH next d (k+1)
  have eW:k<dN.length:=by omega
  rw[List.drop_eq_getElem_cons eW]at hd
  obtain⟨d1,d2,d3⟩:=hd
  apply Szv
  unfold Bzv
  refine aM (by simp;omega) ?_
  refine Sep.idx hs 16 rfl (by omega) (by omega) fun p hp=>?_
  rw[Int.toNat_natCast]at hp
  have hx:=List.getElem?_eq_getElem eW
  refine LAgd.b0B hs 16 rfl hp hx ?_
  refine gz hs fun n h hs=>?_
  simp only[sz2]at hs
  refine LAgd.Kh hs 16 rfl fun h hs=>?_
  have hs:Sep h0 h (kL c b m s1 (aBlk n (LAgd.gp dN[k])::aRow LAgd.gp 5 o dN::R)):=hs
  refine LAgd.jX (x:=dN[k]) hs 16 rfl rfl ?_
  rw[ae]
  refine (a7m hc (dj hs).drop d1 d2).mono ?_
  rintro v h ⟨m',h1,hs⟩
  rw[dK _ (by omega)]
  refine ih (dr c.C s1 dN[k]) m' h (by omega) ?_ d3 ?_ hs
  ·rw[List.take_succ_eq_append_getElem eW,List.foldl_append,←e1];rfl
  ·rw[h1,hm,tK]
theorem xx (C:bw)(s:KS):(cv C s).aR.length=s.aR.length:=by
 unfold cv
 cases hl:s.aR with
 |nil=>simp only[];exact hl ▸ rfl
 |cons a l=>
  simp only[]
  cases Fv C a.j with
  |none=>simp only[];rw[hl]
  |some o=>simp
theorem d2n (hc:hU h0 c.C c.sm c.sc c.se c.st c.sl c.ts){u:Int}(hu:0≤u∧u≤1073741824){I:KS→Prop}(hI:∀s,I s→s.now<u→IN c.C u s∧I (iQ c.C u s)∧s.now<(iQ c.C u s).now):
  ∀(d:Nat) (s:KS) (m:KM) (h:Hp),I s→u-s.now≤d→m.bc.length=s.aR.length→Sep h0 h (kL c b m s R)→Kzg (some ⟨b,0,none⟩) u h (RQ c h0 b R (kQ c.C u d s)):=by
 intro d
 induction d with
 |zero=>
  intro s m h _ hd hm hs
  apply Szu
  unfold Bzu
  simp only[au,ay,Nat.zero_add]
  refine Sep.aB hs 0 rfl rfl ?_
  refine aA (by simp;omega) ?_
  exact⟨rfl,m,hm,hs⟩
 |succ d ih=>
  intro s m h hi hd hm hs
  apply Szu
  unfold Bzu
  simp only[au,ay,Nat.zero_add]
  refine Sep.aB hs 0 rfl rfl ?_
  unfold kQ
  by_cases hlt:s.now<u
  ·rw[if_pos hlt]
   refine aM (by simpa using hlt) ?_
   obtain⟨ho,hi',hgt⟩:=hI s hi hlt
   have fin:∀(o:Sl) (h:Hp),o.n=((s.ev.takeWhile fun x=>decide (x.e.t≤s.now)).map (·.e)).length→Sep h0 h (kL c b m { s with ev:=s.ev.dropWhile fun x=>decide (x.e.t≤s.now)} (aRow LAgd.gp 5 o ((s.ev.takeWhile fun x=>decide (x.e.t≤s.now)).map (·.e))::R))→
     Kzq (some ⟨b,0,none⟩) u o (o.n:Int) 0 h (RQ c h0 b R (kQ c.C u d (iQ c.C u s))):=by
    intro o h oS hs
    rw[oS]
    refine e4R (s:={ s with ev:=s.ev.dropWhile fun x=>decide (x.e.t≤s.now)}) hc (by
     rw[List.length_map]
     have:=(List.takeWhile_sublist (l:=s.ev) (fun x=>decide (x.e.t≤s.now))).length_le
     have:=ho.ev;omega) ?_ ((s.ev.takeWhile fun x=>decide (x.e.t≤s.now)).map (·.e)).length 0 { s with ev:=s.ev.dropWhile fun x=>decide (x.e.t≤s.now)} m h (Nat.zero_add _) rfl ho.due hm hs
    intro h m s1 e1 hm1 hs
    have e1:s1=eS c.C s:=e1
    subst e1
    rw[ae]
    refine (a7n hc ho.choose hs hm1).mono ?_
    rintro v h ⟨m2,h2,rfl,hs⟩
    simp only[bD,aS,av]
    have go:∀(h:Hp) (m3:KM),m3.bc=m2.bc→Sep h0 h (kL c b m3 (cv c.C (bt c.C (eS c.C s)).1) R)→Kzl (some ⟨b,0,none⟩) u (sD m2.bc) (bt c.C (eS c.C s)).2 h (RQ c h0 b R (kQ c.C u d (iQ c.C u s))):=by
     intro h m3 e3 hs
     rw[←e3]
     refine e4Q hc hs (by rw[e3,h2,xx]) hu ho.now ho.evt ho.sp ho.f2S ho.iJ ho.aR ho.tr ho.aD fun h m4 h4 hs=>?_
     exact ih (iQ c.C u s) m4 h hi' (by omega) h4 hs
    cases hl:(bt c.C (eS c.C s)).1.aR with
    |nil=>
     have hma:m2.bc=[]:=List.length_eq_zero_iff.1 (by rw[h2,hl];rfl)
     have e:cv c.C (bt c.C (eS c.C s)).1=(bt c.C (eS c.C s)).1:=by unfold cv;rw[hl]
     refine aA (by rw[hma];rfl) ?_
     exact go h m2 rfl (by rw[e];exact hs)
    |cons a l=>
     obtain⟨x,xs,hx⟩:=Cf (show m2.bc.length=l.length+1 by rw[h2,hl];rfl)
     refine aM (by rw[hx];rfl) ?_
     rw[ae]
     have hpt:sD m2.bc=some ⟨x.1,0,none⟩:=by rw[hx];rfl
     have hbg:=b5g hc (ho.begin a l hl) hs hx hl
     rw[←hpt]at hbg
     refine hbg.mono ?_
     rintro v h ⟨m3,h3,hs⟩
     exact go h m3 h3 hs
   have call:∀{K:Value→M Value} {Q:Value→Hp→Prop},(∀(o:Sl) (h:Hp),o.n=((s.ev.takeWhile fun x=>decide (x.e.t≤s.now)).map (·.e)).length→Sep h0 h (kL c b m { s with ev:=s.ev.dropWhile fun x=>decide (x.e.t≤s.now)} (aRow LAgd.gp 5 o ((s.ev.takeWhile fun x=>decide (x.e.t≤s.now)).map (·.e))::R))→K (.slice o.p o.n o.c) h Q)→ai (YZ (some ⟨m.ag,0,none⟩) s.now) K h Q:=by
    intro K Q hK
    rw[ae]
    refine (LAgd.Gq (hs.at 1 rfl) ho.ev s.now).mono ?_
    rintro v h ⟨o,rfl,hs⟩
    have oS:=hs.bn 0 rfl
    refine hK o h oS ?_
    have hs:=hs.swap
    have hs:=hs.jN 2 [1,0] rfl (by simp)
    have hs:Sep h0 h (aRow LAgd.gp 5 o ((s.ev.takeWhile fun x=>decide (x.e.t≤s.now)).map (·.e))::kL c b m { s with ev:=s.ev.dropWhile fun x=>decide (x.e.t≤s.now)} R):=by
     refine hs.perm (List.Perm.cons _ ?_)
     exact set_perm 1 (kL c b m s R) (by simp)
    exact kIn hs
   repeat' (first
    |with_reducible refine aK ?_ ?_
    |with_reducible refine Sep.kN hs 0 rfl rfl ?_
    |with_reducible refine Sep.aB hs 0 rfl rfl ?_
    |(with_reducible refine call fun o h oS hs=>?_;simp only[ez]))
   all_goals exact fin _ _ oS hs
  ·rw[if_neg hlt]
   refine aA (by simpa using hlt) ?_
   exact⟨rfl,m,hm,hs⟩
theorem e4S (hc:hU h0 c.C c.sm c.sc c.se c.st c.sl c.ts){u:Int}(hu:0≤u∧u≤16777216){I:KS→Prop}(hI:∀s,I s→s.now<u→IN c.C u s∧I (iQ c.C u s)∧s.now<(iQ c.C u s).now)(hi:I s)(hn:0≤s.now∧s.now≤u)(hm:m.bc.length=s.aR.length)(hs:Sep h0 h (kL c b m s R)):
  c7w (some ⟨b,0,none⟩) u h (RQ c h0 b R (kQ c.C u u.toNat s)):=by
 apply f0z
 unfold e0z
 simp only[Option.isNone_some,aj,au,ay,Nat.zero_add]
 refine Sep.aB hs 0 rfl rfl ?_
 refine aA (by rw[decide_eq_false (by omega),decide_eq_false (by omega)];rfl) ?_
 exact d2n hc (by omega) hI u.toNat s m h hi (by omega) hm hs
end
end Go.Proofs.YtnpinhahjgbigaaGreatDoor
end
section
namespace Go.Proofs.YtnpinhahjgbigaaGreatDoor
open Go Go.Sb
section
variable {α:Type}{Q:α→Hp→Prop}{h0:Hp}
theorem na {cs:List (Nat×M Value)}(hnd:(cs.map (·.1)).Nodup){x:Nat×M Value}(hx:x∈cs)(A:Nat→As):((A x.1)::(cs.filter fun y=> !(y.1 == x.1)).map fun y=>A y.1).Perm (cs.map fun y=>A y.1):=by
 induction cs with
 |nil=>cases hx
 |cons c cs ih=>
  rw[List.map_cons,List.nodup_cons]at hnd
  by_cases he:c.1=x.1
  ·have hf:cs.filter (fun y=> !(y.1 == x.1))=cs:=by
    rw[List.filter_eq_self]
    intro y hy
    have:y.1≠x.1:=fun h=>hnd.1 (by rw[he,←h];exact List.mem_map_of_mem hy)
    simpa using this
   rw[List.filter_cons_of_neg (by simp[he]),hf,List.map_cons,he]
  ·rw[List.filter_cons_of_pos (by simpa using he),List.map_cons,List.map_cons]
   have hx':x∈cs:=by
    rcases List.mem_cons.1 hx with rfl|h
    ·exact absurd rfl he
    ·exact h
   exact (List.Perm.swap _ _ _).trans ((ih hnd.2 hx').cons _)
theorem E9 {G:Hp→Prop}(hG:∀h h',G h→ck h.size h h'→G h'){Φ:Nat→Value→As→Prop}:∀(n:Nat) (cs:List (Nat×M Value)) (f:Nat→Value) (k:(Nat→Value)→M α) (h:Hp) (L:List As),cs.length≤n→(cs.map (·.1)).Nodup→Sep h0 h L→G h→
  (∀x∈cs,∀(h:Hp) (Q:Value→Hp→Prop),G h→(∀v h' A,Φ x.1 v A→Sep h h' [A]→Q v h')→x.2 h Q)→
  (∀(f':Nat→Value) (A:Nat→As) (h':Hp),(∀x∈cs,Φ x.1 (f' x.1) (A x.1))→(∀j,j∉cs.map (·.1)→f' j=f j)→Sep h0 h' (cs.map (fun x=>A x.1)++L)→k f' h' Q)→
  FC n cs f k h Q
 |n,[],f,k,h,L,_,_,hs,hg,_,hk=>by
  have e:FC n [] f k=k f:=by cases n<;>rfl
  rw[e]
  exact hk f (fun _=>aEmp) h (by simp) (fun _ _=>rfl) hs
 |0,c::cs,f,k,h,L,hn,_,_,_,_,_=>by simp at hn
 |n+1,c::cs,f,k,h,L,hn,hnd,hs,hg,hsp,hk=>by
  intro x hx
  refine hsp x hx h _ hg fun v h' A0 hΦ hs1=>⟨hs1.under,?_⟩
  have hlen:((c::cs).filter fun y=> !(y.1 == x.1)).length≤n:=by
   have:=(na hnd hx (fun _=>aEmp)).length_eq
   simp only[List.length_cons,List.length_map]at this hn
   omega
  have f2T:(((c::cs).filter fun y=> !(y.1 == x.1)).map (·.1)).Nodup:=hnd.sublist (List.filter_sublist.map _)
  have sS:Sep h0 h' (A0::L):=hs.b7t hs1
  refine E9 hG n _ _ k h' (A0::L) hlen f2T sS (hG h h' hg hs1.under) (fun y hy=>hsp y (List.mem_filter.1 hy).1) fun f' A h'' hA hj hs3=>?_
  have hxk:x.1∉((c::cs).filter fun y=> !(y.1 == x.1)).map (·.1):=by
   intro hm
   obtain⟨y,hy,he⟩:=List.mem_map.1 hm
   have:=(List.mem_filter.1 hy).2
   rw[he]at this;simp at this
  refine hk f' (fun j=>if j=x.1 then A0 else A j) h'' (fun y hy=>?_) (fun j hjn=>?_) ?_
  ·by_cases he:y.1=x.1
   ·rw[he,if_pos rfl,hj _ hxk,if_pos rfl]
    exact hΦ
   ·rw[if_neg he]
    exact hA y (List.mem_filter.2 ⟨hy,by simpa using he⟩)
  ·have hne:j≠x.1:=fun h=>hjn (h ▸ List.mem_map_of_mem hx)
   rw[hj j (fun hm=>hjn ?_),if_neg hne]
   obtain⟨y,hy,he⟩:=List.mem_map.1 hm
   exact he ▸ List.mem_map_of_mem (List.mem_filter.1 hy).1
  ·have hp:=na hnd hx (fun j=>if j=x.1 then A0 else A j)
   rw[if_pos rfl]at hp
   have hm:(((c::cs).filter fun y=> !(y.1 == x.1)).map fun y=>if y.1=x.1 then A0 else A y.1)=((c::cs).filter fun y=> !(y.1 == x.1)).map fun y=>A y.1:=by
    refine List.map_congr_left fun y hy=>?_
    have:=(List.mem_filter.1 hy).2
    rw[if_neg (by simpa using this)]
   rw[hm]at hp
   refine hs3.perm ?_
   refine List.Perm.trans ?_ (hp.append_right L)
   exact List.perm_middle
end
structure e4T (C:bw):Prop where
 check:eE C=0
 sets:1≤C.sets∧C.sets≤16
 ways:1≤C.ways∧C.ways≤4
 gi:C.gi.length≤4
 groups:0≤C.groups∧C.groups≤4
 counts:C.counts.length≤4∧∀z∈C.counts,1≤z∧z≤8
 bP:C.bP.length≤4
theorem f2U {C:bw}(h:eE C=0):e4T C:=by
 have hh:=h
 unfold eE at h
 split at h
 ·cases h
 ·rename_i h1
  split at h
  ·cases h
  ·rename_i h2
   split at h
   ·cases h
   ·rename_i h3
    split at h
    ·cases h
    ·rename_i h4
     unfold lQ gO at h1
     unfold kq at h2
     unfold fC lF at h4
     simp at h1 h2 h4
     refine⟨hh,by omega,by omega,by omega,by omega,⟨by omega,fun z hz=>?_⟩,by omega⟩
     have:=h4.1.1.2 z hz
     unfold gO at this
     simp at this
     omega
def f2V (C:bw):Nat→Value→As→Prop:=fun j v A=>
 if j=1 then ∃b,v= .pointer (some ⟨b,0,none⟩)∧A=LAgd.lG b [] 0 else
 if j=8 then ∃b,v= .pointer (some ⟨b,0,none⟩)∧A=LCache.cq b C.ways.toNat (List.replicate C.sets.toNat []) else
 if j=11 then ∃b,v= .pointer (some ⟨b,0,none⟩)∧A=LMbx.dW b (C.gi.map fun n=>(LMbx.jI n,[])) else
 if j=14 then ∃b,v= .pointer (some ⟨b,0,none⟩)∧A=LFlg.aF b (List.replicate C.groups.toNat 0) else
 if j=17 then ∃b,v= .pointer (some ⟨b,0,none⟩)∧A=LCnt.aC b (C.counts.map fun z=>(0,z)) else
 if j=20 then ∃b,v= .pointer (some ⟨b,0,none⟩)∧A=LCei.tZ b (C.bP.map fun z=>(z,0,false)) else
 if j=24 then ∃b,v= .pointer (some ⟨b,0,none⟩)∧A=LLin.aL b (List.replicate (LLin.Bg C.lines.length) (false,false)) else
 if j=26 then ∃b,v= .pointer (some ⟨b,0,none⟩)∧A=LFrame.jH b [] 0 else
 if j=27 then ∃r,v= .map (some r)∧A=aPl r [] else ∃r,v= .map (some r)∧A=aMap r .i64 (fun _=>none) 0
section
variable {α:Type}{h0 h:Hp}{R L:List As}{c:KC}
theorem e4U (hs:Sep h0 h L){K:Nat→M α}{Q:α→Hp→Prop}(hK:∀r h',Sep h0 h' (aPl r []::L)→K r h' Q):mv K h Q:=by
 refine hK _ _ (hs.emp.pc ?_)
 unfold aPl aEmp
 rintro F rfl
 exact⟨[h.size],⟨rfl,[],0,by simp,rfl⟩,.push _ _ _,by simp,by simp⟩
theorem e4V (hc:hU h0 c.C c.sm c.sc c.se c.st c.sl c.ts)(hn:e4T c.C)(hs:Sep h0 h R):c7v c.C.sets c.C.ways c.C.hit c.C.bT c.sm c.C.groups c.sc c.se c.st c.sl h
  (fun v h'=>∃(b:Nat) (m:KM) (R':List As),v= .tuple #[.pointer (some ⟨b,0,none⟩),.int .i64 0]∧m.bc=[]∧Sep h0 h' (kL c b m (k0 c.C) (R'++R))):=by
 have hlen:=hc.len
 apply f0v
 unfold e0p
 refine Sep.new hs fun n h hs=>?_
 simp only[sz2]at hs
 have hs:Sep h0 h (aBlk n (cP c.C c.sm c.sc c.se c.st c.sl)::R):=hs
 simp only[ay,Nat.zero_add]
 refine hs.aB 0 rfl rfl ?_
 refine hs.aB 0 rfl rfl ?_
 refine hs.aB 0 rfl rfl ?_
 refine hs.aB 0 rfl rfl ?_
 refine hs.bu 0 rfl rfl ?_
 refine hs.aB 0 rfl rfl ?_
 refine hs.bu 0 rfl rfl ?_
 refine hs.bu 0 rfl rfl ?_
 refine hs.bu 0 rfl rfl ?_
 refine hs.bu 0 rfl rfl ?_
 rw[ae]
 refine (c5x hc hn.check hs).mono ?_
 rintro v h ⟨rb,R',rfl,hs⟩
 simp only[bD,aS,az]
 refine aA rfl ?_
 have hb:Sep h0 h (aBlk n (cP c.C c.sm c.sc c.se c.st c.sl)::cR rb (c.C.tasks.map q0)::(R'++R)):=hs.perm (by
  show (cR rb (c.C.tasks.map q0)::(R'++aBlk n (cP c.C c.sm c.sc c.se c.st c.sl)::R)).Perm _
  exact (List.Perm.cons _ List.perm_middle).trans (.swap _ _ _))
 have hs:=hb
 refine hs.aB 0 rfl rfl ?_
 refine hs.aB 0 rfl rfl ?_
 refine hs.aB 0 rfl rfl ?_
 refine hs.aB 0 rfl rfl ?_
 refine hs.bu 0 rfl rfl ?_
 refine hs.aB 0 rfl rfl ?_
 refine hs.bu 0 rfl rfl ?_
 refine hs.bu 0 rfl rfl ?_
 refine hs.bu 0 rfl rfl ?_
 refine hs.bu 0 rfl rfl ?_
 refine hs.aB 0 rfl rfl ?_
 refine hs.aB 0 rfl rfl ?_
 refine hs.bu 0 rfl rfl ?_
 refine hs.aB 0 rfl rfl ?_
 refine hs.bu 0 rfl rfl ?_
 refine hs.bu 0 rfl rfl ?_
 refine hs.bu 0 rfl rfl ?_
 have hs:=hs.drop
 obtain⟨gr,hgr⟩:∃g:Nat,c.C.groups=g:=⟨c.C.groups.toNat,by have:=hn.groups;omega⟩
 obtain⟨se,hse⟩:∃g:Nat,c.C.sets=g:=⟨c.C.sets.toNat,by have:=hn.sets;omega⟩
 obtain⟨wa,hwa⟩:∃g:Nat,c.C.ways=g:=⟨c.C.ways.toNat,by have:=hn.ways;omega⟩
 refine E9 (G:=fun h=>hU h c.C c.sm c.sc c.se c.st c.sl c.ts) (Φ:=f2V c.C) (fun h h' hg hu=>hg.now ((Sep.init h).more hu)) 10 _ _ _ h _ (by simp) (by simp only[List.map_cons,List.map_nil];decide) hs (hc.now hs) ?_ ?_
 ·intro x hx h Q hg hQ
  have hi:=Sep.init h
  simp only[List.mem_cons,List.not_mem_nil,or_false]at hx
  rcases hx with rfl|rfl|rfl|rfl|rfl|rfl|rfl|rfl|rfl|rfl
  ·dsimp only at hQ ⊢
   rw[ae]
   refine (LAgd.qX hi).mono ?_
   rintro v h' ⟨b,rfl,hs⟩
   exact hQ _ _ _ ⟨b,rfl,rfl⟩ hs
  ·dsimp only at hQ ⊢
   rw[ae,hse,hwa]
   refine (LCache.qX hi (by have:=hn.sets;omega) (by have:=hn.ways;omega)).mono ?_
   rintro v h' ⟨b,rfl,hs⟩
   exact hQ _ _ _ ⟨b,rfl,by rw[hse,hwa];rfl⟩ hs
  ·dsimp only at hQ ⊢
   rw[ae]
   refine (LMbx.qX hg.gi (by have:=hn.gi;omega)).mono ?_
   rintro v h' ⟨b,rfl,hs⟩
   exact hQ _ _ _ ⟨b,rfl,rfl⟩ hs
  ·dsimp only at hQ ⊢
   rw[ae,hgr]
   refine (LFlg.c7m hi (by have:=hn.groups;omega)).mono ?_
   rintro v h' ⟨b,rfl,hs⟩
   exact hQ _ _ _ ⟨b,rfl,by rw[hgr];rfl⟩ hs
  ·dsimp only at hQ ⊢
   rw[ae]
   refine (LCnt.c7b hi hg.counts hn.counts.2 (by have:=hn.counts.1;omega)).mono ?_
   rintro v h' ⟨b,rfl,hs⟩
   exact hQ _ _ _ ⟨b,rfl,rfl⟩ hs
  ·dsimp only at hQ ⊢
   rw[ae]
   refine (LCei.c7f hi hg.bP (by have:=hn.bP;omega)).mono ?_
   rintro v h' ⟨b,rfl,hs⟩
   exact hQ _ _ _ ⟨b,rfl,rfl⟩ hs
  ·dsimp only at hQ ⊢
   rw[ae]
   have:=LLin.c6M hi ((c.sl.n:Nat):Int)
   rw[hlen.2.2.2.1]at this ⊢
   refine this.mono ?_
   rintro v h' ⟨b,rfl,hs⟩
   exact hQ _ _ _ ⟨b,rfl,rfl⟩ hs
  ·dsimp only at hQ ⊢
   rw[ae]
   refine (LFrame.c6O hi).mono ?_
   rintro v h' ⟨b,rfl,hs⟩
   exact hQ _ _ _ ⟨b,rfl,rfl⟩ hs
  ·dsimp only at hQ ⊢
   refine e4U hi fun r h' hs=>?_
   exact hQ _ _ _ ⟨r,rfl,rfl⟩ hs
  ·dsimp only at hQ ⊢
   refine hi.FR .i64 fun r h' hs=>?_
   exact hQ _ _ _ ⟨r,rfl,rfl⟩ hs
 ·intro f' A h' hA _ hs
  simp only[List.forall_mem_cons]at hA
  obtain⟨⟨p1,e1,a1⟩,⟨p2,e2,a2⟩,⟨p3,e3,a3⟩,⟨p4,e4,a4⟩,⟨p5,e5,a5⟩,⟨p6,e6,a6⟩,⟨p7,e7,a7⟩,⟨p8,e8,a8⟩,⟨p9,e9,a9⟩,⟨p10,X8,zU⟩,_⟩:=hA
  simp only[List.map_cons,List.map_nil,List.cons_append,List.nil_append,a1,a2,a3,a4,a5,a6,a7,a8,a9,zU]at hs
  simp only[e1,e2,e3,e4,e5,e6,e7,e8,e9,X8,aS,a7T]
  refine Sep.new hs fun kb h hs=>?_
  simp only[sz2]at hs
  have hs:=(((hs.fw yu 1).fw dx 11).fw cw 7).emp
  have hs:=hs.jN 16 [4,5,6,7,8,9,10,11,15,12,3,2,13,14,1,0] rfl (by simp)
  exact⟨kb,⟨p1,p2,p3,p4,p5,p6,p7,rb,p8,p9,p10,⟨none,0,0⟩,⟨none,0,0⟩,⟨none,0,0⟩,[],fun _=>none,0⟩,R',rfl,rfl,hs⟩
end
end Go.Proofs.YtnpinhahjgbigaaGreatDoor
end
section
namespace Go.Proofs.YtnpinhahjgbigaaGreatDoor
open Go Go.Sb
section
variable {h0 h:Hp}{R:List As}{C:bw}{sm sc se st sl ls:Sl}{ts:List (cx×Sl)}{l:List IF}
abbrev o8 (x:Int×Int):List Value:=[.int .i64 x.1,.int .i64 x.2]
def d2H (n:Int):Int:=(if (1099511627776:Int)<(if (-1099511627776:Int)>n then (-1099511627776:Int) else n) then (1099511627776:Int) else (if (-1099511627776:Int)>n then (-1099511627776:Int) else n))
theorem rA (n:Int)(h:Hp):TK n h (fun v h'=>v= .int .i64 (d2H n)∧h'=h):=by
 apply f2m
 exact⟨rfl,rfl⟩
theorem IP (hs:Sep h0 h R)(r:IF):c7K r.at_ r.kind r.task r.TR r.op r.code r.val h (fun v h'=>v= .bool (r.kind == 1||r.kind == 2)∧Sep h0 h' R):=by
 apply f2k
 unfold e3q
 refine Sep.new hs fun n h hs=>?_
 simp only[sz2,ay,Nat.zero_add]at hs ⊢
 refine hs.aB 0 rfl rfl ?_
 refine sE (n:=r.kind) (by rw[(hs.mD 0 rfl).cell];rfl) ?_
 exact⟨rfl,hs.drop⟩
def b5j (f:Int→Option Value):Prop:=∀k v,f k=some v→∃z,v= .int .i64 z
theorem b5j.set {f:Int→Option Value}(hf:b5j f)(k z:Int):b5j (fun j=>if j=k then some (.int .i64 z) else f j):=by
 intro j v hv
 simp only[]at hv
 split at hv
 ·cases hv;exact⟨z,rfl⟩
 ·exact hf j v hv
theorem e4W (hc:hU h0 C sm sc se st sl ts)(hl:fK h0.size h0 cw 7 ls l)(hlen:l.length≤2000000){cb r:Nat}:∀(d k:Nat) (o:Sl) (fs:List (Int×Int)) (f:Int→Option Value) (n:Nat) (h:Hp),k+d=l.length→fs.length≤k→b5j f→Sep h0 h (aBlk cb (cP C sm sc se st sl)::aRow o8 2 o fs::aMap r .i64 f n::R)→
  Kz5 ⟨cb,0,none⟩ o (some r) ls (l.length:Int) (k:Int) h (fun v h'=>∃(o:Sl) (fs:List (Int×Int)) (f:Int→Option Value) (n:Nat),v= .slice o.p o.n o.c∧Sep h0 h' (aRow o8 2 o fs::aMap r .i64 f n::R))
 |0,k,o,fs,f,n,h,hk,hf,hN,hs=>by
  apply Szx
  unfold Bzx
  refine aA (by simp;omega) ?_
  exact⟨o,fs,_,_,rfl,hs.drop⟩
 |d+1,k,o,fs,f,n,h,hk,hf,hN,hs=>by
  have hlc:=hc.len
  have eW:k<l.length:=by omega
  apply Szx
  unfold Bzx
  refine aM (by simp;omega) ?_
  refine ixB hs hl eW fun a ha=>?_
  generalize l[k]=x at ha
  refine ha.mG hs rfl ?_
  refine ha.aB hs rfl ?_
  refine ha.aB hs rfl ?_
  refine ha.aB hs rfl ?_
  refine ha.aB hs rfl ?_
  refine ha.aB hs rfl ?_
  refine ha.aB hs rfl ?_
  have ih:=e4W hc hl hlen (cb:=cb) (r:=r) d (k+1)
  refine Sep.new hs fun xb h hs=>?_
  simp only[sz2,ay,Nat.zero_add]at hs ⊢
  refine Sep.st hs 0 rfl rfl rfl fun h hs=>?_
  refine Sep.st hs 0 rfl rfl rfl fun h hs=>?_
  refine Sep.st hs 0 rfl rfl rfl fun h hs=>?_
  refine Sep.st hs 0 rfl rfl rfl fun h hs=>?_
  refine Sep.st hs 0 rfl rfl rfl fun h hs=>?_
  refine Sep.st hs 0 rfl rfl rfl fun h hs=>?_
  refine Sep.st hs 0 rfl rfl rfl fun h hs=>?_
  have hs:Sep h0 h (aBlk xb (cw x)::aBlk cb (cP C sm sc se st sl)::aRow o8 2 o fs::aMap r .i64 f n::R):=hs
  refine Sep.aB hs 0 rfl rfl ?_
  refine Sep.aB hs 0 rfl rfl ?_
  refine Sep.aB hs 0 rfl rfl ?_
  refine Sep.aB hs 0 rfl rfl ?_
  refine Sep.aB hs 0 rfl rfl ?_
  refine Sep.aB hs 0 rfl rfl ?_
  refine Sep.aB hs 0 rfl rfl ?_
  rw[ae]
  refine (IP hs x).mono ?_
  rintro v h ⟨rfl,hs⟩
  simp only[av]
  have c2:hcell h ⟨xb,2,none⟩=some (.int .i64 x.task):=by rw[(hs.mD 0 rfl).cell];rfl
  have ew:IntKind.i64.wrap ((k:Int)+1)=((k+1:Nat):Int):=dK _ (by omega)
  rw[ew]
  refine sE c2 ?_
  have skip:∀h,Sep h0 h (aBlk xb (cw x)::aBlk cb (cP C sm sc se st sl)::aRow o8 2 o fs::aMap r .i64 f n::R)→Kz5 ⟨cb,0,none⟩ o (some r) ls (l.length:Int) ((k+1:Nat):Int) h (fun v h'=>∃(o:Sl) (fs:List (Int×Int)) (f:Int→Option Value) (n:Nat),v= .slice o.p o.n o.c∧Sep h0 h' (aRow o8 2 o fs::aMap r .i64 f n::R)):=fun h hs=>ih o fs f n h (by omega) (by omega) hN hs.drop
  have go:∀h,0≤x.task→x.task<(st.n:Int)→Sep h0 h (aBlk xb (cw x)::aBlk cb (cP C sm sc se st sl)::aRow o8 2 o fs::aMap r .i64 f n::R)→
    (ab .i64 ⟨xb,2,none⟩ fun yj=>qs .i64 r yj (.int .i64 (0:Int)) fun d1E d1F=>aP .i64 d1E fun nq=>ai (aI d1F (ab .i64 ⟨xb,0,none⟩ fun xF=>mQ (TK xF) fun r45=>aP .i64 r45 fun qo=>aw ⟨cb,8,none⟩ fun TL=>ab .i64 ⟨xb,2,none⟩ fun uj=>bd TL uj 7 fun FV=>ab .i64 (FV.add 2) fun x54=>mQ (TK x54) fun r55=>aP .i64 r55 fun ui=>af (decide ((IntKind.i64.wrap (qo-nq))<ui))) (af false)) fun b32=>
    aI b32 (ab .i64 ⟨xb,0,none⟩ fun FW=>ab .i64 ⟨xb,2,none⟩ fun qp=>aJ #[.int .i64 FW,.int .i64 qp] 38 fun yc=>bU 38 2 16 #[.int .i64 (0:Int),.int .i64 (0:Int)] o ⟨(some yc),1,1⟩ fun uk=>ab .i64 ⟨xb,2,none⟩ fun Wr=>ab .i64 ⟨xb,0,none⟩ fun x70=>mQ (TK x70) fun r71=>aP .i64 r71 fun Cp=>gb .i64 r Wr (.int .i64 Cp) <| Kz5 ⟨cb,0,none⟩ uk (some r) ls (l.length:Int) ((k+1:Nat):Int)) (
     ab .i64 ⟨xb,2,none⟩ fun wL=>ab .i64 ⟨xb,0,none⟩ fun wM=>mQ (TK wM) fun wN=>aP .i64 wN fun wO=>gb .i64 r wL (.int .i64 wO) <| Kz5 ⟨cb,0,none⟩ o (some r) ls (l.length:Int) ((k+1:Nat):Int))) h (fun v h'=>∃(o:Sl) (fs:List (Int×Int)) (f:Int→Option Value) (n:Nat),v= .slice o.p o.n o.c∧Sep h0 h' (aRow o8 2 o fs::aMap r .i64 f n::R)):=by
   intro h t0 t1 hs
   refine Sep.aB hs 0 rfl rfl ?_
   refine Sep.Uq hs 3 rfl ?_
   obtain⟨z,hz⟩:∃z,(f x.task).getD (.int .i64 0)= .int .i64 z:=by
    cases hfx:f x.task with
    |none=>exact⟨0,rfl⟩
    |some v=>obtain⟨z,rfl⟩:=hN _ _ hfx;exact⟨z,rfl⟩
   rw[hz]
   simp only[az]
   have fin:∀b:Bool,(aI b (ab .i64 ⟨xb,0,none⟩ fun FW=>ab .i64 ⟨xb,2,none⟩ fun qp=>aJ #[.int .i64 FW,.int .i64 qp] 38 fun yc=>bU 38 2 16 #[.int .i64 (0:Int),.int .i64 (0:Int)] o ⟨(some yc),1,1⟩ fun uk=>ab .i64 ⟨xb,2,none⟩ fun Wr=>ab .i64 ⟨xb,0,none⟩ fun x70=>mQ (TK x70) fun r71=>aP .i64 r71 fun Cp=>gb .i64 r Wr (.int .i64 Cp) <| Kz5 ⟨cb,0,none⟩ uk (some r) ls (l.length:Int) ((k+1:Nat):Int)) (
     ab .i64 ⟨xb,2,none⟩ fun wL=>ab .i64 ⟨xb,0,none⟩ fun wM=>mQ (TK wM) fun wN=>aP .i64 wN fun wO=>gb .i64 r wL (.int .i64 wO) <| Kz5 ⟨cb,0,none⟩ o (some r) ls (l.length:Int) ((k+1:Nat):Int))) h (fun v h'=>∃(o:Sl) (fs:List (Int×Int)) (f:Int→Option Value) (n:Nat),v= .slice o.p o.n o.c∧Sep h0 h' (aRow o8 2 o fs::aMap r .i64 f n::R)):=by
    intro b
    cases b
    ·simp only[aj]
     refine Sep.aB hs 0 rfl rfl ?_
     refine Sep.aB hs 0 rfl rfl ?_
     refine jo _ (rA _ _) ?_
     simp only[az]
     refine Sep.AZ hs 3 rfl fun h hs=>?_
     simp only[sz0,sz1]at hs
     exact ih o fs _ _ h (by omega) (by omega) (hN.set _ _) hs.drop
    ·simp only[aq]
     refine Sep.aB hs 0 rfl rfl ?_
     refine Sep.aB hs 0 rfl rfl ?_
     refine Sep.new hs fun nb h hs=>?_
     simp only[sz2]at hs
     refine Sep.lE hs 3 0 (x.at_,x.task) rfl rfl (fun _=>rfl) (by simp[Value.oneCell']) rfl (by omega) (by omega) fun o' h hn hs=>?_
     simp only[sz0,sz1]at hs
     refine Sep.aB hs 1 rfl rfl ?_
     refine Sep.aB hs 1 rfl rfl ?_
     refine jo _ (rA _ _) ?_
     simp only[az]
     refine Sep.AZ hs 4 rfl fun h hs=>?_
     simp only[sz0,sz1]at hs
     exact ih o' _ _ _ h (by omega) (by simp;omega) (hN.set _ _) hs.drop.drop
   rw[ae]
   cases hb:(f x.task).isSome
   ·simp only[aj,ak]
    exact fin false
   ·simp only[aq]
    refine Sep.aB hs 0 rfl rfl ?_
    refine jo _ (rA _ _) ?_
    simp only[az]
    refine Sep.bu hs 1 rfl rfl ?_
    refine Sep.aB hs 0 rfl rfl ?_
    obtain⟨t,ht⟩:∃t:Nat,x.task=t:=⟨x.task.toNat,by omega⟩
    rw[ht]
    refine ixB hs hc.rows (j:=t) (by omega) fun p hp=>?_
    refine hp.aB hs rfl ?_
    refine jo _ (rA _ _) ?_
    simp only[az,ak]
    exact fin _
  cases hrl:(x.kind == 1||x.kind == 2)
  ·simp only[Bool.not_false,Bool.true_or]
   rw[ae]
   refine aM rfl ?_
   rw[ak,aq]
   exact skip h hs
  ·simp only[Bool.not_true,Bool.false_or]
   rw[ae]
   by_cases t0:x.task<0
   ·rw[decide_eq_true t0,aq,ak,aq]
    exact skip h hs
   ·rw[decide_eq_false t0,aj]
    refine Sep.aB hs 0 rfl rfl ?_
    refine Sep.bu hs 1 rfl rfl ?_
    rw[ak]
    by_cases t1:x.task≥(st.n:Int)
    ·rw[decide_eq_true t1,aq]
     exact skip h hs
    ·rw[decide_eq_false t1,aj]
     simp only[fS]
     exact go h (by omega) (by omega) hs
theorem b5k (hc:hU h0 C sm sc se st sl ts)(hl:fK h0.size h0 cw 7 ls l)(hlen:l.length≤2000000):c7J C.sets C.ways C.hit C.bT sm C.groups sc se st sl ls h0 (fun v h'=>∃a t f,v= .tuple #[.agg #[.int .i64 a,.int .i64 t],.bool f]∧ck h0.size h0 h'):=by
 have hs:=Sep.init h0
 apply f2i
 unfold e3j
 refine Sep.new hs fun x2 h hs=>?_
 simp only[sz2]at hs
 refine Sep.new hs fun x4 h hs=>?_
 simp only[sz2,ay,Nat.zero_add]at hs ⊢
 refine Sep.aB hs 1 rfl rfl ?_
 refine Sep.aB hs 1 rfl rfl ?_
 refine Sep.aB hs 1 rfl rfl ?_
 refine Sep.aB hs 1 rfl rfl ?_
 refine Sep.bu hs 1 rfl rfl ?_
 refine Sep.aB hs 1 rfl rfl ?_
 refine Sep.bu hs 1 rfl rfl ?_
 refine Sep.bu hs 1 rfl rfl ?_
 refine Sep.bu hs 1 rfl rfl ?_
 refine Sep.bu hs 1 rfl rfl ?_
 rw[ae]
 apply f2j
 unfold e3k
 refine Sep.new hs fun x2' h hs=>?_
 simp only[sz2]at hs
 refine Sep.FR hs .i64 fun r h hs=>?_
 have hs:=(hs.fw o8 2)
 have hs:Sep h0 h (aBlk x2' (cP C sm sc se st sl)::aRow o8 2 ⟨none,0,0⟩ []::aMap r .i64 (fun _=>none) 0::[aBlk x4 [.int .i64 0,.int .i64 0],aBlk x2 (cP C sm sc se st sl)]):=hs.jN 3 [2,0,1] rfl (by simp)
 rw[hl.n]
 refine (e4W hc hl hlen l.length 0 ⟨none,0,0⟩ [] _ 0 h (by omega) (by simp) (fun k v h=>by cases h) hs).mono ?_
 rintro v h ⟨o,fs,f,n,rfl,hs⟩
 have oS:=hs.bn 0 rfl
 simp only[ez]
 by_cases hp:(o.n:Int)>0
 ·rw[decide_eq_true hp,aq]
  have hx:=List.getElem?_eq_getElem (show 0<fs.length by omega)
  refine Sep.idx hs 0 rfl (by omega) (by omega) fun p hp=>?_
  refine hs.fR 0 rfl (fun _=>rfl) hp hx rfl ?_
  refine hs.iu 0 rfl (fun _=>rfl) hp hx rfl ?_
  refine Sep.st hs 2 rfl rfl rfl fun h hs=>?_
  refine Sep.st hs 2 rfl rfl rfl fun h hs=>?_
  refine Sep.aB hs 2 rfl rfl ?_
  refine Sep.aB hs 2 rfl rfl ?_
  exact⟨_,_,_,rfl,hs.under⟩
 ·rw[decide_eq_false hp,aj]
  refine Sep.st hs 2 rfl rfl rfl fun h hs=>?_
  refine Sep.st hs 2 rfl rfl rfl fun h hs=>?_
  refine Sep.aB hs 2 rfl rfl ?_
  refine Sep.aB hs 2 rfl rfl ?_
  exact⟨_,_,_,rfl,hs.under⟩
end
end Go.Proofs.YtnpinhahjgbigaaGreatDoor
end
section
namespace Go.Proofs.YtnpinhahjgbigaaGreatDoor
open Go Go.Sb
section
variable {α:Type}{Q:α→Hp→Prop}{h0 h:Hp}{R L:List As}{c:KC}{b:Nat}{m:KM}{s:KS}
theorem IQ {X:Type}{enc:X→List Value}{sz T bytes:Nat}{zero:Array Value}{s:Sl}{xs:List X}{K:Sl→M Value}{Q:Value→Hp→Prop}(hs:Sep h0 h L)(k:Nat)(hk:L[k]? =some (aRow enc sz s xs))(hl:∀x,(enc x).length=sz)(hone:∀x,∀v∈enc x,v.oneCell'=true)(hsz:0<sz)(hz:zero.size=sz)(hb:0<bytes∧bytes≤1000)(hlen:xs.length≤10000000)
  (hK:∀o h',Sep h0 h' (aRow enc sz o xs::L)→K o h' Q):(aI s.p.isNone (K ⟨none,0,0⟩) (aJ #[] T fun x5=>bU T sz bytes zero ⟨some x5,0,0⟩ s K)) h Q:=by
 have hn:=hs.bn k hk
 cases hp:s.p with
 |none=>
  have hx:xs=[]:=by
   have hr:=hs.Us k hk hl hsz
   cases xs with
   |nil=>rfl
   |cons x xs=>obtain⟨a,e,_⟩:=hr.at_ 0 x rfl;rw[hp]at e;cases e
  subst hx
  refine aM rfl ?_
  exact hK _ h (hs.fw enc sz)
 |some a=>
  refine aA rfl ?_
  refine Sep.new hs fun nb h hs=>?_
  have hs:=hs.drop
  have hr:=hs.Us k hk hl hsz
  have hs1:=hs.AX enc sz ⟨some ⟨nb,0,none⟩,0,0⟩ rfl rfl
  refine hs1.b7u 0 xs rfl hl (hr.cells hl) hn (fun v hv=>by obtain⟨x,_,hx⟩:=List.mem_flatMap.1 hv;exact hone x v hx) hz hb.1 ?_ fun o h' ho hs=>?_
  ·simp only[List.length_nil,Nat.zero_add]
   calc (2*xs.length+192)*bytes≤(2*10000000+192)*1000:=Nat.mul_le_mul (by omega) hb.2
    _≤2 ^ 48:=by decide
  ·simp only[sz0,List.nil_append]at hs
   exact hK o h' hs
theorem b5l (hs:Sep h0 h (kL c b m s R))(hl:s.tr.length≤10000000):c7x (some ⟨b,0,none⟩) h (fun v h'=>∃o:Sl,v= .slice o.p o.n o.c∧Sep h0 h' (aRow cw 7 o s.tr::kL c b m s R)):=by
 apply f0C
 unfold e0M
 simp only[Option.isNone_some,aj,au,ay,Nat.zero_add]
 refine Sep.bu hs 0 rfl rfl ?_
 rw[ae]
 apply f0n
 unfold e0b
 exact IQ (K:=fun o=>af (.slice o.p o.n o.c)) hs 14 rfl (fun _=>rfl) (fun x v hv=>by simp at hv;rcases hv with rfl|rfl|rfl|rfl|rfl|rfl|rfl<;>rfl) (by omega) rfl (by omega) hl fun o h' hs=>⟨o,rfl,hs⟩
theorem To (hs:Sep h0 h (kL c b m s R))(hl:s.reps.length≤10000000):c7y (some ⟨b,0,none⟩) h (fun v h'=>∃o:Sl,v= .slice o.p o.n o.c∧Sep h0 h' (aRow dx 11 o s.reps::kL c b m s R)):=by
 apply f0D
 unfold e0N
 simp only[Option.isNone_some,aj,au,ay,Nat.zero_add]
 refine Sep.bu hs 0 rfl rfl ?_
 rw[ae]
 apply f0o
 unfold e0c
 exact IQ (K:=fun o=>af (.slice o.p o.n o.c)) hs 11 rfl (fun _=>rfl) (fun x v hv=>by simp at hv;rcases hv with rfl|rfl|rfl|rfl|rfl|rfl|rfl|rfl|rfl|rfl|rfl<;>rfl) (by omega) rfl (by omega) hl fun o h' hs=>⟨o,rfl,hs⟩
theorem e4X (hs:Sep h0 h (kL c b m s R)):c7z (some ⟨b,0,none⟩) h (fun v h'=>v= .int .i64 s.now∧h'=h):=by
 apply f0E
 unfold e0O
 simp only[Option.isNone_some,aj,au,ay,Nat.zero_add]
 refine Sep.aB hs 0 rfl rfl ?_
 exact⟨rfl,rfl⟩
theorem d2I (hs:Sep h0 h (kL c b m s R)):c7A (some ⟨b,0,none⟩) h (fun v h'=>v= .int .i64 s.cr∧h'=h):=by
 apply f0F
 unfold e0P
 simp only[Option.isNone_some,aj,au,ay,Nat.zero_add]
 refine Sep.kN hs 0 rfl rfl ?_
 rw[ae]
 refine (LFrame.c6Q (hs.at 9 rfl)).mono ?_
 rintro v h ⟨rfl,rfl⟩
 exact⟨rfl,rfl⟩
theorem a7r (hs:Sep h0 h (kL c b m s R))(hl:s.aR.length≤1000):c7B (some ⟨b,0,none⟩) h (fun v h'=>∃o:Sl,v= .slice o.p o.n o.c∧o.n=s.aR.length∧ck h0.size h0 h'):=by
 apply f0G
 unfold e0Q
 simp only[Option.isNone_some,aj,au,ay,Nat.zero_add]
 refine Sep.kN hs 0 rfl rfl ?_
 rw[ae]
 apply e8R
 unfold d8F
 have hs1:Sep h0 h (LFrame.jH m.fr (iJ c.C s.aR) s.cr::(kL c b m s R).eraseIdx 9):=hs.at 9 rfl
 obtain⟨sl,hs1⟩:=LFrame.eY.1 hs1
 simp only[Option.isNone_some,aj,au,ay,Nat.zero_add]
 refine Sep.bu hs1 0 rfl rfl ?_
 rw[ae]
 apply f0p
 unfold e0d
 refine IQ (K:=fun o=>af (.slice o.p o.n o.c)) hs1 1 rfl (fun _=>rfl) (fun x v hv=>by unfold LFrame.Fr.enc at hv;simp at hv;rcases hv with rfl|rfl|rfl<;>rfl) (by omega) rfl (by omega) (by rw[LFrame.iA];unfold iJ;simp;omega) fun o h' hs=>⟨o,rfl,?_,hs.under⟩
 have:=hs.bn 0 rfl
 rw[this,LFrame.iA];unfold iJ;simp
end
end Go.Proofs.YtnpinhahjgbigaaGreatDoor
end
section
namespace Go.Proofs.YtnpinhahjgbigaaGreatDoor
open Go Go.Sb
section
variable {α:Type}{Q:α→Hp→Prop}{h0 h:Hp}{R L:List As}{c:KC}{kb:Nat}{m:KM}{s:KS}
theorem e4Y {x:iO}{a:Addr}{K:Int→Int→Int→Int→Int→M α}(ha:yw h0 LAgd.gp x a)(hs:Sep h0 h L)(hK:K x.t x.k x.a x.b x.c h Q):jW a K h Q:=by
 unfold jW
 refine ha.mG hs rfl ?_
 refine ha.aB hs rfl ?_
 refine ha.aB hs rfl ?_
 refine ha.aB hs rfl ?_
 refine ha.aB hs rfl ?_
 exact hK
theorem qj (C:bw):∀(l:List iO) (s:KS),(l.foldl (bK C) s).ev.length≤s.ev.length+l.length∧(0≤s.ord→0≤(l.foldl (bK C) s).ord)∧(l.foldl (bK C) s).ord≤s.ord+l.length∧(l.foldl (bK C) s).now=s.now∧(l.foldl (bK C) s).aR=s.aR
 |[],s=>⟨by simp,id,by simp,rfl,rfl⟩
 |e::l,s=>by
  rw[List.foldl_cons]
  obtain⟨h1,h2,h3,h4,h5⟩:=qj C l (bK C s e)
  have:(bK C s e).ev.length≤s.ev.length+1∧(0≤s.ord→0≤(bK C s e).ord)∧(bK C s e).ord≤s.ord+1∧(bK C s e).now=s.now∧(bK C s e).aR=s.aR:=by
   unfold bK
   split
   ·refine⟨?_,fun h=>?_,?_,rfl,rfl⟩
    ·show (oJ _ s.ev).length≤_
     rw[(gX _ _).length_eq];simp
    ·show 0≤s.ord+1;omega
    ·show s.ord+1≤s.ord+1;omega
   ·exact⟨by omega,id,by omega,rfl,rfl⟩
  obtain⟨g1,g2,g3,g4,g5⟩:=this
  simp only[List.length_cons]
  exact⟨by omega,fun h=>h2 (g2 h),by omega,by rw[h4,g4],by rw[h5,g5]⟩
abbrev ic (c:KC)(tr rp cd:Sl)(now pk fa ft:Int)(fl:Bool):List Value:=[.int .i64 c.C.sets,.int .i64 c.C.ways,.int .i64 c.C.hit,.int .i64 c.C.bT,.slice c.sm.p c.sm.n c.sm.c,.int .i64 c.C.groups,.slice c.sc.p c.sc.n c.sc.c,.slice c.se.p c.se.n c.se.c,.slice c.st.p c.st.n c.st.c,.slice c.sl.p c.sl.n c.sl.c,
 .slice tr.p tr.n tr.c,.slice rp.p rp.n rp.c,.slice cd.p cd.n cd.c,.int .i64 now,.int .i64 pk,.int .i64 fa,.int .i64 ft,.bool fl]
def PlQ (c:KC)(h0:Hp)(R:List As)(s:KS):Value→Hp→Prop:=fun v h'=>∃(tr rp cd:Sl) (now pk fa ft:Int) (fl:Bool) (kb:Nat) (m:KM) (R':List As),v= .tuple #[.agg (ic c tr rp cd now pk fa ft fl).toArray,.pointer (some ⟨kb,0,none⟩),.int .i64 0]∧
 Sep h0 h' (aRow cw 7 tr s.tr::aRow dx 11 rp s.reps::kL c kb m s (R'++R))
theorem a7s (hc:hU h0 c.C c.sm c.sc c.se c.st c.sl c.ts){u:Int}(hu:0≤u∧u≤16777216){I:KS→Prop}(hI:∀s,I s→s.now<u→IN c.C u s∧I (iQ c.C u s)∧s.now<(iQ c.C u s).now)(hi:I s)(hn:0≤s.now∧s.now≤u)(hm:m.bc.length=s.aR.length)
  (vg:(kQ c.C u u.toNat s).tr.length≤2000000∧(kQ c.C u u.toNat s).reps.length≤2000000) {r t6 c3:Nat} {cd:Sl} {cs:List Int} {z t:Sl} (hs:Sep h0 h (kL c kb m s (aBlk r (ic c z z cd 0 0 0 0 false)::aRow dv 1 cd cs::aBlk t6 (ic ⟨⟨0,0,0,0,[],0,[],[],[],[]⟩,z,z,z,z,z,[]⟩ z z z 0 0 0 0 false)::aBlk c3 (cP c.C c.sm c.sc c.se c.st c.sl)::R))) {n:Int}:
  Kze u ⟨c3,0,none⟩ ⟨t6,0,none⟩ (some ⟨kb,0,none⟩) ⟨r,0,none⟩ t n n h (PlQ c h0 R (kQ c.C u u.toNat s)):=by
 apply Szw
 unfold Bzw
 refine aA (by simp) ?_
 rw[ae]
 refine (e4S hc hu hI hi hn hm hs).mono ?_
 rintro v h ⟨rfl,m',TM,hs⟩
 generalize kQ c.C u u.toNat s=f at*
 simp only[az]
 refine aA rfl ?_
 rw[ae]
 refine (b5l hs (by omega)).mono ?_
 rintro v h ⟨tr,rfl,hs⟩
 have hs:=kIn hs
 simp only[ez]
 rw[ae]
 refine (To hs (by omega)).mono ?_
 rintro v h ⟨rp,rfl,hs⟩
 have hs:=kIn hs
 simp only[ez]
 rw[ae]
 refine (e4X hs).mono ?_
 rintro v h ⟨rfl,rfl⟩
 simp only[az]
 rw[ae]
 refine (d2I hs).mono ?_
 rintro v h ⟨rfl,rfl⟩
 simp only[az,ay,Nat.zero_add]
 refine nt hs 2 rfl rfl rfl fun h hs=>?_
 simp only[sz0,sz1]at hs
 refine nt hs 2 rfl rfl rfl fun h hs=>?_
 simp only[sz0,sz1]at hs
 refine nt hs 2 rfl rfl rfl fun h hs=>?_
 simp only[sz0,sz1]at hs
 refine nt hs 2 rfl rfl rfl fun h hs=>?_
 simp only[sz0,sz1]at hs
 have hs:Sep h0 h (kL c kb m' f (aRow dx 11 rp f.reps::aRow cw 7 tr f.tr::aBlk r (ic c tr rp cd f.now f.cr 0 0 false)::aRow dv 1 cd cs::aBlk t6 (ic ⟨⟨0,0,0,0,[],0,[],[],[],[]⟩,z,z,z,z,z,[]⟩ z z z 0 0 0 0 false)::aBlk c3 (cP c.C c.sm c.sc c.se c.st c.sl)::R)):=hs
 refine Sep.aB hs 21 rfl rfl ?_
 refine Sep.aB hs 21 rfl rfl ?_
 refine Sep.aB hs 21 rfl rfl ?_
 refine Sep.aB hs 21 rfl rfl ?_
 refine Sep.bu hs 21 rfl rfl ?_
 refine Sep.aB hs 21 rfl rfl ?_
 refine Sep.bu hs 21 rfl rfl ?_
 refine Sep.bu hs 21 rfl rfl ?_
 refine Sep.bu hs 21 rfl rfl ?_
 refine Sep.bu hs 21 rfl rfl ?_
 refine Sep.bu hs 18 rfl rfl ?_
 rw[ae]
 refine (b5k (hc.now hs) (hs.Us 17 rfl (fun _=>rfl) (by omega)) vg.1).mono ?_
 rintro v h' ⟨fa,ft,fl,rfl,Ty⟩
 have hs:=hs.more Ty
 simp only[cC,bW,cG,az,cH,av]
 refine nt hs 2 rfl rfl rfl fun h hs=>?_
 simp only[sz0,sz1]at hs
 refine nt hs 2 rfl rfl rfl fun h hs=>?_
 simp only[sz0,sz1]at hs
 refine nt hs 2 rfl rfl rfl fun h hs=>?_
 simp only[sz0,sz1]at hs
 have hs:Sep h0 h (kL c kb m' f (aRow dx 11 rp f.reps::aRow cw 7 tr f.tr::aBlk r (ic c tr rp cd f.now f.cr fa ft fl)::aRow dv 1 cd cs::aBlk t6 (ic ⟨⟨0,0,0,0,[],0,[],[],[],[]⟩,z,z,z,z,z,[]⟩ z z z 0 0 0 0 false)::aBlk c3 (cP c.C c.sm c.sc c.se c.st c.sl)::R)):=hs
 repeat' (first
  |with_reducible refine Sep.aB hs 18 rfl rfl ?_
  |with_reducible refine Sep.bu hs 18 rfl rfl ?_
  |with_reducible refine Sep.Tz hs 18 rfl rfl ?_)
 iterate 18 (refine nt hs 4 rfl rfl rfl fun h hs=>?_;simp only[sz0,sz1]at hs)
 have hs:Sep h0 h (kL c kb m' f (aRow dx 11 rp f.reps::aRow cw 7 tr f.tr::aBlk r (ic c tr rp cd f.now f.cr fa ft fl)::aRow dv 1 cd cs::aBlk t6 (ic c tr rp cd f.now f.cr fa ft fl)::aBlk c3 (cP c.C c.sm c.sc c.se c.st c.sl)::R)):=hs
 repeat' (first
  |with_reducible refine Sep.aB hs 20 rfl rfl ?_
  |with_reducible refine Sep.bu hs 20 rfl rfl ?_
  |with_reducible refine Sep.Tz hs 20 rfl rfl ?_)
 have hs:=dj hs
 have hs:Sep h0 h (aRow cw 7 tr f.tr::aRow dx 11 rp f.reps::kL c kb m' f (aBlk r (ic c tr rp cd f.now f.cr fa ft fl)::aRow dv 1 cd cs::aBlk t6 (ic c tr rp cd f.now f.cr fa ft fl)::aBlk c3 (cP c.C c.sm c.sc c.se c.st c.sl)::R)):=by
  refine (hs.perm (List.Perm.cons _ (ml (kL c kb m' f []) (aRow cw 7 tr f.tr) _).symm)).swap
 exact⟨tr,rp,cd,f.now,f.cr,fa,ft,fl,kb,m',[_,_,_,_],rfl,hs⟩
theorem a7t {F:List (Int×Int)}{R2:List As}(hs:Sep h0 h (kG c kb m s F R))(hp:R.Perm R2):Sep h0 h (kG c kb m s F R2):=hs.perm (hp.append_left (kG c kb m s F []))
abbrev jD:Sl:=⟨none,0,0⟩
abbrev zc0:KC:=⟨⟨0,0,0,0,[],0,[],[],[],[]⟩,jD,jD,jD,jD,jD,[]⟩
theorem b7b (hc:hU h0 c.C c.sm c.sc c.se c.st c.sl c.ts){u:Int}(hu:0≤u∧u≤16777216){dN:List iO}{ls:Sl}(hv:fK h0.size h0 LAgd.gp 5 ls dN)(hvl:dN.length≤1000){I:KS→Prop}(hI:∀s,I s→s.now<u→IN c.C u s∧I (iQ c.C u s)∧s.now<(iQ c.C u s).now)(hi:I (dN.foldl (bK c.C) (k0 c.C)))
  (vg:(kQ c.C u u.toNat (dN.foldl (bK c.C) (k0 c.C))).tr.length≤2000000∧(kQ c.C u u.toNat (dN.foldl (bK c.C) (k0 c.C))).reps.length≤2000000) {r t6 c3:Nat}:∀(d k:Nat) (s:KS) (m:KM) (cd:Sl) (cs:List Int) (h:Hp),k+d=dN.length→s=(dN.take k).foldl (bK c.C) (k0 c.C)→m.bc=[]→cs.length=k→
   Sep h0 h (kL c kb m s (aBlk r (ic c jD jD cd 0 0 0 0 false)::aRow dv 1 cd cs::aBlk t6 (ic zc0 jD jD jD 0 0 0 0 false)::aBlk c3 (cP c.C c.sm c.sc c.se c.st c.sl)::R))→
   Kze u ⟨c3,0,none⟩ ⟨t6,0,none⟩ (some ⟨kb,0,none⟩) ⟨r,0,none⟩ ls (dN.length:Int) (k:Int) h (PlQ c h0 R (kQ c.C u u.toNat (dN.foldl (bK c.C) (k0 c.C))))
 |0,k,s,m,cd,cs,h,hk,e,hm,mC,hs=>by
  rw[List.take_of_length_le (by omega)]at e
  subst e
  obtain⟨_,_,_,g4,g5⟩:=qj c.C dN (k0 c.C)
  have hk':(k:Int)=(dN.length:Int):=by omega
  rw[hk']
  exact a7s hc hu hI hi (by rw[g4];exact⟨Int.le_refl _,hu.1⟩) (by rw[hm,g5];rfl) vg hs
 |d+1,k,s,m,cd,cs,h,hk,e,hm,mC,hs=>by
  have ih:=b7b hc hu hv hvl hI hi vg (r:=r) (t6:=t6) (c3:=c3) d (k+1)
  have eW:k<dN.length:=by omega
  have c5w:=qj c.C (dN.take k) (k0 c.C)
  rw[←e]at c5w
  have htl:(dN.take k).length≤1000:=by rw[List.length_take];omega
  have h00:(k0 c.C).ev.length=0∧(k0 c.C).ord=0:=⟨rfl,rfl⟩
  apply Szw
  unfold Bzw
  refine aM (by simp;omega) ?_
  refine ixB hs hv eW fun p hp=>?_
  refine e4Y hp hs ?_
  refine gz hs fun n5 h hs=>?_
  simp only[sz2,ay,Nat.zero_add]at hs ⊢
  refine LAgd.Kh hs 16 rfl fun h hs=>?_
  have hs:Sep h0 h (kL c kb m s (aBlk n5 (LAgd.gp dN[k])::aBlk r (ic c jD jD cd 0 0 0 0 false)::aRow dv 1 cd cs::aBlk t6 (ic zc0 jD jD jD 0 0 0 0 false)::aBlk c3 (cP c.C c.sm c.sc c.se c.st c.sl)::R)):=hs
  have call:∀{K:Value→M Value} {Q:Value→Hp→Prop},(∀h,Sep h0 h (kL c kb m (bK c.C s dN[k]) (aBlk n5 (LAgd.gp dN[k])::aBlk r (ic c jD jD cd 0 0 0 0 false)::aRow dv 1 cd cs::aBlk t6 (ic zc0 jD jD jD 0 0 0 0 false)::aBlk c3 (cP c.C c.sm c.sc c.se c.st c.sl)::R))→K (.int .i64 (Th c.C s dN[k])) h Q)→ai (Nzv (some ⟨kb,0,none⟩) dN[k].t dN[k].k dN[k].a dN[k].b dN[k].c) K h Q:=by
   intro K Q hK
   rw[ae]
   refine (b4Z dN[k] hc hs ⟨by omega,c5w.2.1 (by omega),by omega⟩).mono ?_
   rintro v h ⟨rfl,hs⟩
   exact hK h hs
  have fin:∀(n1:Nat) (h:Hp),Sep h0 h (kL c kb m (bK c.C s dN[k]) (aBlk n1 (dv (Th c.C s dN[k]))::aBlk n5 (LAgd.gp dN[k])::aBlk r (ic c jD jD cd 0 0 0 0 false)::aRow dv 1 cd cs::aBlk t6 (ic zc0 jD jD jD 0 0 0 0 false)::aBlk c3 (cP c.C c.sm c.sc c.se c.st c.sl)::R))→
    (bU 32 1 8 #[.int .i64 (0:Int)] cd ⟨(some ⟨n1,0,none⟩),1,1⟩ fun nq=>an ⟨r,12,none⟩ (.slice nq.p nq.n nq.c) <| Kze u ⟨c3,0,none⟩ ⟨t6,0,none⟩ (some ⟨kb,0,none⟩) ⟨r,0,none⟩ ls (dN.length:Int) (IntKind.i64.wrap ((k:Int)+(1:Int)))) h (PlQ c h0 R (kQ c.C u u.toNat (dN.foldl (bK c.C) (k0 c.C)))):=by
   intro n1 h hs
   refine Sep.lE hs 19 16 (Th c.C s dN[k]) rfl rfl (fun _=>rfl) (by simp[Value.oneCell']) rfl (by omega) (by omega) fun cd' h hn hs=>?_
   have hs:Sep h0 h (kL c kb m (bK c.C s dN[k]) (aBlk n1 (dv (Th c.C s dN[k]))::aBlk n5 (LAgd.gp dN[k])::aBlk r (ic c jD jD cd 0 0 0 0 false)::aRow dv 1 cd' (cs++[Th c.C s dN[k]])::aBlk t6 (ic zc0 jD jD jD 0 0 0 0 false)::aBlk c3 (cP c.C c.sm c.sc c.se c.st c.sl)::R)):=hs
   refine nt hs 2 rfl rfl rfl fun h hs=>?_
   have hs:Sep h0 h (kL c kb m (bK c.C s dN[k]) (aBlk n1 (dv (Th c.C s dN[k]))::aBlk n5 (LAgd.gp dN[k])::aBlk r (ic c jD jD cd' 0 0 0 0 false)::aRow dv 1 cd' (cs++[Th c.C s dN[k]])::aBlk t6 (ic zc0 jD jD jD 0 0 0 0 false)::aBlk c3 (cP c.C c.sm c.sc c.se c.st c.sl)::R)):=hs
   rw[dK _ (by omega)]
   refine ih (bK c.C s dN[k]) m cd' _ h (by omega) ?_ hm (by simp;omega) (dj (dj hs).drop).drop
   rw[List.take_succ_eq_append_getElem eW,List.foldl_append,←e];rfl
  repeat' (first
   |with_reducible refine aK ?_ ?_
   |with_reducible refine Sep.bu hs 17 rfl rfl ?_
   |with_reducible refine Sep.bu hs 18 rfl rfl ?_
   |with_reducible refine LAgd.jX (x:=dN[k]) hs 16 rfl rfl ?_
   |(with_reducible refine call fun h hs=>?_;simp only[az])
   |(with_reducible refine gz hs fun n1 h hs=>?_;simp only[sz2,ay,Nat.zero_add]at hs ⊢))
  all_goals exact fin _ _ hs
theorem d2J (hc:hU h0 c.C c.sm c.sc c.se c.st c.sl c.ts)(hk:eE c.C=0){u:Int}(hu:0≤u∧u≤16777216){dN:List iO}{ls:Sl}(hv:fK h0.size h0 LAgd.gp 5 ls dN)(hvl:dN.length≤1000){I:KS→Prop}(hI:∀s,I s→s.now<u→IN c.C u s∧I (iQ c.C u s)∧s.now<(iQ c.C u s).now)(hi:I (dN.foldl (bK c.C) (k0 c.C)))
  (vg:(kQ c.C u u.toNat (dN.foldl (bK c.C) (k0 c.C))).tr.length≤2000000∧(kQ c.C u u.toNat (dN.foldl (bK c.C) (k0 c.C))).reps.length≤2000000) (hs:Sep h0 h R):
  c7I c.C.sets c.C.ways c.C.hit c.C.bT c.sm c.C.groups c.sc c.se c.st c.sl ls u h (PlQ c h0 R (kQ c.C u u.toNat (dN.foldl (bK c.C) (k0 c.C)))):=by
 apply f2h
 unfold e2x
 refine Sep.new hs fun c3 h hs=>?_
 simp only[sz2]at hs
 refine Sep.new hs fun t6 h hs=>?_
 simp only[sz2,ay,Nat.zero_add]at hs ⊢
 have hs:Sep h0 h (aBlk t6 (ic zc0 jD jD jD 0 0 0 0 false)::aBlk c3 (cP c.C c.sm c.sc c.se c.st c.sl)::R):=hs
 repeat' (first
  |with_reducible refine Sep.aB hs 1 rfl rfl ?_
  |with_reducible refine Sep.bu hs 1 rfl rfl ?_)
 rw[ae]
 refine (e4V hc (f2U hk) hs).mono ?_
 rintro v h ⟨kb,m,R',rfl,hm,hs⟩
 simp only[bD,aS,az]
 refine aA rfl ?_
 have hs:=a7t hs (show (R'++aBlk t6 (ic zc0 jD jD jD 0 0 0 0 false)::aBlk c3 (cP c.C c.sm c.sc c.se c.st c.sl)::R).Perm (aBlk t6 (ic zc0 jD jD jD 0 0 0 0 false)::aBlk c3 (cP c.C c.sm c.sc c.se c.st c.sl)::(R'++R)) from List.perm_middle.trans (List.Perm.cons _ List.perm_middle))
 repeat' (first
  |with_reducible refine Sep.aB hs 17 rfl rfl ?_
  |with_reducible refine Sep.bu hs 17 rfl rfl ?_)
 refine gz hs fun r h hs=>?_
 simp only[sz2,ay,Nat.zero_add]at hs ⊢
 iterate 18 (refine nt hs 0 rfl rfl rfl fun h hs=>?_;simp only[sz0,sz1]at hs)
 have hs:=kIn (hs.fw dv 1)
 have hs:Sep h0 h (kL c kb m (k0 c.C) (aBlk r (ic c jD jD jD 0 0 0 0 false)::aRow dv 1 jD []::aBlk t6 (ic zc0 jD jD jD 0 0 0 0 false)::aBlk c3 (cP c.C c.sm c.sc c.se c.st c.sl)::(R'++R))):=a7t hs (.swap _ _ _)
 rw[hv.n]
 refine (b7b hc hu hv hvl hI hi vg dN.length 0 (k0 c.C) m jD [] h (by omega) rfl hm rfl hs).mono ?_
 rintro v h ⟨tr,rp,cd,now,pk,fa,ft,fl,kb,m,R'',e,hs⟩
 exact⟨tr,rp,cd,now,pk,fa,ft,fl,kb,m,R''++R',e,by rw[List.append_assoc];exact hs⟩
end
end Go.Proofs.YtnpinhahjgbigaaGreatDoor
end
section
namespace Go.Proofs.YtnpinhahjgbigaaGreatDoor
open Go Go.Sb
def iK (fr:Int):List dG→Int→Bool→Bool
 |[],_,o=>o
 |p::l,d,o=>
  let d:=if p.k == 7 then IntKind.i64.wrap (d+p.a) else if p.k == 8 then IntKind.i64.wrap (d-p.a) else d
  iK fr l d (o||decide (d>fr))
structure rB (C:bw) (f:KS):Prop where
 code:∀x∈f.tr,x.kind=7→x.code=11
 lock:∀x∈f.tr,x.kind=8→x.op=5∨x.op=6→x.code=0
 task:∀x∈f.reps,0≤x.task∧x.task<C.tasks.length
 over:∀x∈f.reps,x.end_≥0→x.fault=iK (bS C x.task.toNat).fr (bS C x.task.toNat).ops 0 false
 count:(f.tr.filter fun x=>x.kind == 7).length=(f.reps.filter fun x=>x.fault).length
 live:(f.reps.filter fun x=>decide (x.start≥0)&&decide (x.end_<0)).length=f.aR.length
 tr:f.tr.length≤2000000
 reps:f.reps.length≤2000000
 aR:f.aR.length≤1000
section
variable {α:Type}{Q:α→Hp→Prop}{h0 h:Hp}{R L:List As}{c:KC}{kb:Nat}{m:KM}{f:KS}
abbrev TQ (h0:Hp):Value→Hp→Prop:=fun v h'=>v= .bool true∧ck h0.size h0 h'
theorem b7c {rp:Sl}(ho:rB c.C f):∀(d k:Nat) (h:Hp) (R:List As),k+d=f.reps.length→Sep h0 h (kL c kb m f (aRow dx 11 rp f.reps::R))→
  a6a (some ⟨kb,0,none⟩) 0 (((f.reps.take k).filter fun x=>decide (x.start≥0)&&decide (x.end_<0)).length:Int) rp (f.reps.length:Int) (k:Int) h (TQ h0)
 |0,k,h,R,hk,hs=>by
  have hst:=ho.aR
  apply e4r
  unfold d1O
  refine aA (by simp;omega) ?_
  rw[ae]
  refine aM rfl ?_
  rw[ae]
  refine (a7r hs (by omega)).mono ?_
  rintro v h ⟨o,rfl,AP,hu⟩
  simp only[ez,ak]
  refine⟨?_,hu⟩
  rw[List.take_of_length_le (by omega),ho.live,AP]
  simp
 |d+1,k,h,R,hk,hs=>by
  have ih:=b7c (rp:=rp) ho d (k+1)
  have eW:k<f.reps.length:=by omega
  have hx:=List.getElem?_eq_getElem eW
  have htake:=List.take_succ_eq_append_getElem eW
  have hrl:=ho.reps
  rw[htake,List.filter_append,List.length_append]at ih
  have hle:((f.reps.take k).filter fun x=>decide (x.start≥0)&&decide (x.end_<0)).length≤k:=Nat.le_trans (List.length_filter_le _ _) (by simp;omega)
  generalize f.reps[k]=x at hx ih
  apply e4r
  unfold d1O
  refine aM (by simp;omega) ?_
  refine Sep.idx hs 16 rfl (by omega) (by omega) fun p hp=>?_
  rw[Int.toNat_natCast]at hp
  refine Sep.fR hs 16 rfl bA hp hx rfl ?_
  repeat' (first
   |with_reducible refine Sep.iu hs 16 rfl bA hp hx rfl ?_
   |with_reducible refine Sep.AW hs 16 rfl bA hp hx rfl ?_)
  refine gz hs fun n h hs=>?_
  simp only[sz2,ay,Nat.zero_add]at hs ⊢
  iterate 11 (refine nt hs 0 rfl rfl rfl fun h hs=>?_;simp only[sz0,sz1]at hs)
  have hs:Sep h0 h (kL c kb m f (aBlk n (dx x)::aRow dx 11 rp f.reps::R)):=hs
  refine Sep.aB hs 16 rfl rfl ?_
  have c4:hcell h ⟨n,4,none⟩=some (.int .i64 x.end_):=by rw[(hs.mD 16 rfl).cell];rfl
  refine mS c4 ?_
  have hs:=(dj hs).drop
  rw[dK k (by omega)]
  cases hb:(decide (x.start≥0)&&decide (x.end_<0))
  ·refine aA rfl ?_
   have hf:([x].filter fun x=>decide (x.start≥0)&&decide (x.end_<0)).length=0:=by simp only[List.filter_cons,List.filter_nil,hb];rfl
   rw[hf]at ih
   exact ih h R (by omega) hs
  ·refine aM rfl ?_
   have hf:([x].filter fun x=>decide (x.start≥0)&&decide (x.end_<0)).length=1:=by simp only[List.filter_cons,List.filter_nil,hb];rfl
   rw[hf]at ih
   rw[dK _ (by omega)]
   exact ih h R (by omega) hs
abbrev IS (c:KC)(tr rp cd:Sl)(now pk fa ft:Int)(fl:Bool)(f:KS)(c3 r8:Nat)(R:List As):List As:=aRow dx 11 rp f.reps::aBlk r8 (ic c tr rp cd now pk fa ft fl)::aBlk c3 (cP c.C c.sm c.sc c.se c.st c.sl)::R
variable {tr rp cd:Sl}{now pk fa ft:Int}{fl:Bool}{c3 r8:Nat}
theorem b7d (hc:hU h0 c.C c.sm c.sc c.se c.st c.sl c.ts){x:nj}{i k:Nat}{flt:Int}(K1:x.task=(i:Int))(hi:i<c.ts.length)(hk:k<f.reps.length)(xX:f.reps.length≤2000000){sl:Sl}(hsl:fK h0.size h0 dM 3 sl (bS c.C i).ops)(zP:(bS c.C i).ops.length≤1000)
  (xI:x.end_≥0→x.fault=iK (bS c.C i).fr (bS c.C i).ops 0 false) (b5m: -3000000≤flt∧flt≤3000000)
  (next:∀(h:Hp) (R:List As),Sep h0 h (kL c kb m f (IS c tr rp cd now pk fa ft fl f c3 r8 R))→Kzm ⟨c3,0,none⟩ ⟨r8,0,none⟩ (some ⟨kb,0,none⟩) (if x.fault then flt-1 else flt) rp (f.reps.length:Int) ((k+1:Nat):Int) h (TQ h0)):
  ∀(e j:Nat) (d:Int) (o:Bool) (xb:Nat) (h:Hp) (R:List As),j+e=(bS c.C i).ops.length→iK (bS c.C i).fr ((bS c.C i).ops.drop j) d o=iK (bS c.C i).fr (bS c.C i).ops 0 false→Sep h0 h (kL c kb m f (aBlk xb (dx x)::IS c tr rp cd now pk fa ft fl f c3 r8 R))→
   a5Y ⟨c3,0,none⟩ ⟨r8,0,none⟩ (some ⟨kb,0,none⟩) flt ⟨xb,0,none⟩ d o rp (f.reps.length:Int) (k:Int) sl ((bS c.C i).ops.length:Int) (j:Int) h (TQ h0)
 |0,j,d,o,xb,h,R,hj,he,hs=>by
  rw[List.drop_of_length_le (by omega)]at he
  have he:o=iK (bS c.C i).fr (bS c.C i).ops 0 false:=he
  rw[←he]at xI
  apply e4q
  unfold d1I
  refine aA (by simp;omega) ?_
  simp only[ay,Nat.zero_add]
  refine Sep.Tz hs 16 rfl rfl ?_
  have c5:hcell h ⟨xb,5,none⟩=some (.bool x.fault):=by rw[(hs.mD 16 rfl).cell];rfl
  rw[dK k (by omega)]
  have fin:∀(F:Int),F=(if x.fault then flt-1 else flt)→(ab .i64 ⟨xb,4,none⟩ fun d1M=>ai (aI (decide (d1M≥(0:Int))) (g9 ⟨xb,5,none⟩ fun d1N=>af (!(d1N == o))) (af false)) fun b65=>aI b65 (af (.bool false)) (
    Kzm ⟨c3,0,none⟩ ⟨r8,0,none⟩ (some ⟨kb,0,none⟩) F rp (f.reps.length:Int) ((k+1:Nat):Int))) h (TQ h0):=by
   intro F hF
   subst hF
   refine Sep.aB hs 16 rfl rfl ?_
   rw[ae]
   have hn:=next h R (dj hs).drop
   by_cases h4:x.end_≥0
   ·rw[decide_eq_true h4,aq]
    refine Sep.Tz hs 16 rfl rfl ?_
    rw[ak,xI h4]
    simp only[beq_self_eq_true,Bool.not_true,aj]
    rw[xI h4]at hn
    exact hn
   ·rw[decide_eq_false h4,aj,ak,aj]
    exact hn
  cases hxf:x.fault
  ·rw[aj]
   exact fin flt (by rw[hxf];rfl)
  ·rw[aq]
   have:=fin (IntKind.i64.wrap (flt-1)) (by rw[hxf,wrap64 _ (by omega)];rfl)
   exact this
 |e+1,j,d,o,xb,h,R,hj,he,hs=>by
  have ih:=b7d hc K1 hi hk xX hsl zP xI b5m next e (j+1)
  have hjl:j<(bS c.C i).ops.length:=by omega
  rw[List.drop_eq_getElem_cons hjl]at he
  apply e4q
  unfold d1I
  refine aM (by simp;omega) ?_
  refine ixB hs hsl hjl fun p hp=>?_
  generalize (bS c.C i).ops[j]=q at hp he
  refine hp.mG hs rfl ?_
  refine hp.aB hs rfl ?_
  refine hp.aB hs rfl ?_
  refine gz hs fun n h hs=>?_
  simp only[sz2,ay,Nat.zero_add]at hs ⊢
  iterate 3 (refine nt hs 0 rfl rfl rfl fun h hs=>?_;simp only[sz0,sz1]at hs)
  have k32:∀(d':Int),d'=(if q.k == 7 then IntKind.i64.wrap (d+q.a) else if q.k == 8 then IntKind.i64.wrap (d-q.a) else d)→a5Z ⟨c3,0,none⟩ ⟨r8,0,none⟩ (some ⟨kb,0,none⟩) flt ⟨xb,0,none⟩ d' o rp (f.reps.length:Int) (k:Int) sl ((bS c.C i).ops.length:Int) (j:Int) h (TQ h0):=by
   intro d' Uf
   have hs:=(dj hs).drop
   apply f2A
   unfold e4p
   simp only[ay,Nat.zero_add]
   rw[ae,dK j (by omega)]
   have go:∀b:Bool,b=(o||decide (d'>(bS c.C i).fr))→a5Y ⟨c3,0,none⟩ ⟨r8,0,none⟩ (some ⟨kb,0,none⟩) flt ⟨xb,0,none⟩ d' b rp (f.reps.length:Int) (k:Int) sl ((bS c.C i).ops.length:Int) ((j+1:Nat):Int) h (TQ h0):=by
    intro b hb
    refine ih d' b xb h R (by omega) ?_ hs
    rw[←he,hb,Uf]
    rfl
   cases o
   ·rw[aj]
    refine Sep.bu hs 19 rfl rfl ?_
    refine Sep.aB hs 16 rfl rfl ?_
    rw[K1]
    refine ixB hs hc.rows hi fun p hp=>?_
    refine hp.aB hs rfl ?_
    rw[ak,←qi hc hi]
    exact go _ (by simp)
   ·rw[aq,ak]
    exact go true (by simp)
  refine Sep.aB hs 16 rfl rfl ?_
  by_cases h7:(q.k == 7)=true
  ·rw[h7,aq]
   refine Sep.aB hs 16 rfl rfl ?_
   exact k32 _ (by rw[if_pos h7])
  ·rw[show (q.k == 7)=false by simpa using h7,aj]
   by_cases h8:(q.k == 8)=true
   ·rw[h8,aq]
    refine Sep.aB hs 16 rfl rfl ?_
    exact k32 _ (by rw[if_neg h7,if_pos h8])
   ·rw[show (q.k == 8)=false by simpa using h8,aj]
    exact k32 _ (by rw[if_neg h7,if_neg h8])
theorem b7e (hc:hU h0 c.C c.sm c.sc c.se c.st c.sl c.ts)(ho:rB c.C f)(pG:∀i,i<c.ts.length→(bS c.C i).ops.length≤1000):∀(d k:Nat) (h:Hp) (R:List As),k+d=f.reps.length→Sep h0 h (kL c kb m f (IS c tr rp cd now pk fa ft fl f c3 r8 R))→
  Kzm ⟨c3,0,none⟩ ⟨r8,0,none⟩ (some ⟨kb,0,none⟩) ((f.reps.drop k).filter fun x=>x.fault).length rp (f.reps.length:Int) (k:Int) h (TQ h0)
 |0,k,h,R,hk,hs=>by
  apply Szz
  unfold Bzz
  refine aA (by simp;omega) ?_
  simp only[ay,Nat.zero_add]
  refine Sep.bu hs 17 rfl rfl ?_
  have hrn:=hs.bn 16 rfl
  rw[hrn,List.drop_of_length_le (by omega)]
  exact b7c ho f.reps.length 0 h _ (by omega) hs
 |d+1,k,h,R,hk,hs=>by
  have ih:=b7e hc ho pG d (k+1)
  have hlen:=hc.len
  have eW:k<f.reps.length:=by omega
  have hx:=List.getElem?_eq_getElem eW
  rw[List.drop_eq_getElem_cons eW]
  have ht:=ho.task f.reps[k] (List.getElem_mem eW)
  have xI:=ho.over f.reps[k] (List.getElem_mem eW)
  have hdl:((f.reps.drop (k+1)).filter fun x=>x.fault).length≤2000000:=Nat.le_trans (List.length_filter_le _ _) (by rw[List.length_drop];have:=ho.reps;omega)
  generalize f.reps[k]=x at hx ht xI
  obtain⟨i,hi⟩:∃i:Nat,x.task=i:=⟨x.task.toNat,by omega⟩
  have hil:i<c.ts.length:=by omega
  have Jh:x.task.toNat=i:=by omega
  rw[Jh]at xI
  apply Szz
  unfold Bzz
  refine aM (by simp;omega) ?_
  refine Sep.idx hs 16 rfl (by omega) (by omega) fun p hp=>?_
  rw[Int.toNat_natCast]at hp
  refine Sep.fR hs 16 rfl bA hp hx rfl ?_
  repeat' (first
   |with_reducible refine Sep.iu hs 16 rfl bA hp hx rfl ?_
   |with_reducible refine Sep.AW hs 16 rfl bA hp hx rfl ?_)
  refine gz hs fun n h hs=>?_
  simp only[sz2,ay,Nat.zero_add]at hs ⊢
  iterate 11 (refine nt hs 0 rfl rfl rfl fun h hs=>?_;simp only[sz0,sz1]at hs)
  have hs:Sep h0 h (kL c kb m f (aBlk n (dx x)::IS c tr rp cd now pk fa ft fl f c3 r8 R)):=hs
  refine Sep.bu hs 19 rfl rfl ?_
  refine Sep.aB hs 16 rfl rfl ?_
  rw[hi]
  refine ixB hs hc.rows hil fun q hq=>?_
  refine hq.bu hs rfl ?_
  have hsl:=(hc.ops (c.ts[i]'hil) (List.getElem_mem hil)).1
  rw[←qi hc hil]at hsl
  rw[show ((c.ts[i]'hil).2.n:Int)=((bS c.C i).ops.length:Int) by rw[hsl.n]]
  have hlf:((x::f.reps.drop (k+1)).filter fun x=>x.fault).length=(if x.fault then 1 else 0)+((f.reps.drop (k+1)).filter fun x=>x.fault).length:=by
   rw[List.filter_cons];split
   ·rw[List.length_cons];omega
   ·omega
  rw[hlf]
  refine b7d (flt:=(((if x.fault then 1 else 0)+((f.reps.drop (k+1)).filter fun x=>x.fault).length:Nat):Int)) hc hi hil eW ho.reps hsl (pG i hil) xI (by cases x.fault<;>simp<;>omega) (fun h R hs=>?_) (bS c.C i).ops.length 0 0 false n h R (by omega) rfl hs
  have:=ih h R (by omega) hs
  have e:(if x.fault then (((if x.fault then 1 else 0)+((f.reps.drop (k+1)).filter fun x=>x.fault).length:Nat):Int)-1 else (((if x.fault then 1 else 0)+((f.reps.drop (k+1)).filter fun x=>x.fault).length:Nat):Int))=(((f.reps.drop (k+1)).filter fun x=>x.fault).length:Int):=by
   cases x.fault
   ·simp
   ·simp;omega
  rw[e]
  exact this
theorem b7f (hc:hU h0 c.C c.sm c.sc c.se c.st c.sl c.ts)(ho:rB c.C f)(pG:∀i,i<c.ts.length→(bS c.C i).ops.length≤1000):∀(d k:Nat) (h:Hp),k+d=f.tr.length→Sep h0 h (kL c kb m f (aRow cw 7 tr f.tr::IS c tr rp cd now pk fa ft fl f c3 r8 R))→
  a5X ⟨c3,0,none⟩ ⟨r8,0,none⟩ (some ⟨kb,0,none⟩) ((f.tr.take k).filter fun x=>x.kind == 7).length tr (f.tr.length:Int) (k:Int) h (TQ h0)
 |0,k,h,hk,hs=>by
  apply Szy
  unfold Bzy
  refine aA (by simp;omega) ?_
  simp only[ay,Nat.zero_add]
  refine Sep.bu hs 18 rfl rfl ?_
  have hrn:=hs.bn 17 rfl
  rw[hrn,List.take_of_length_le (by omega),ho.count]
  exact b7e hc ho pG f.reps.length 0 h R (by omega) (dj hs).drop
 |d+1,k,h,hk,hs=>by
  have ih:=b7f hc ho pG d (k+1)
  have eW:k<f.tr.length:=by omega
  have hx:=List.getElem?_eq_getElem eW
  have htl:=ho.tr
  have hle:((f.tr.take k).filter fun x=>x.kind == 7).length≤k:=Nat.le_trans (List.length_filter_le _ _) (by simp;omega)
  rw[List.take_succ_eq_append_getElem eW,List.filter_append,List.length_append]at ih
  have Ay:=ho.code f.tr[k] (List.getElem_mem eW)
  have An:=ho.lock f.tr[k] (List.getElem_mem eW)
  generalize f.tr[k]=x at hx ih Ay An
  apply Szy
  unfold Bzy
  refine aM (by simp;omega) ?_
  refine Sep.idx hs 16 rfl (by omega) (by omega) fun p hp=>?_
  rw[Int.toNat_natCast]at hp
  refine Sep.fR hs 16 rfl (fun _=>rfl) hp hx rfl ?_
  iterate 6 (refine Sep.iu hs 16 rfl (fun _=>rfl) hp hx rfl ?_)
  refine gz hs fun n h hs=>?_
  simp only[sz2,ay,Nat.zero_add]at hs ⊢
  iterate 7 (refine nt hs 0 rfl rfl rfl fun h hs=>?_;simp only[sz0,sz1]at hs)
  have hs:Sep h0 h (kL c kb m f (aBlk n (cw x)::aRow cw 7 tr f.tr::IS c tr rp cd now pk fa ft fl f c3 r8 R)):=hs
  have k17:∀F:Int,F=((((f.tr.take k).filter fun x=>x.kind == 7).length+([x].filter fun x=>x.kind == 7).length:Nat):Int)→b3S ⟨c3,0,none⟩ ⟨r8,0,none⟩ (some ⟨kb,0,none⟩) F ⟨n,0,none⟩ tr (f.tr.length:Int) (k:Int) h (TQ h0):=by
   intro F hF
   subst hF
   have hn:=ih h (by omega) (dj hs).drop
   apply f2z
   unfold e4d
   simp only[ay,Nat.zero_add]
   rw[dK k (by omega)]
   have c4:hcell h ⟨n,4,none⟩=some (.int .i64 x.op):=by rw[(hs.mD 16 rfl).cell];rfl
   have c5:hcell h ⟨n,5,none⟩=some (.int .i64 x.code):=by rw[(hs.mD 16 rfl).cell];rfl
   refine Sep.aB hs 16 rfl rfl ?_
   have go:∀b:Bool,(b=true→x.kind=8∧(x.op=5∨x.op=6))→(ai (aI b (ab .i64 ⟨n,5,none⟩ fun x78=>af (x78 != (0:Int))) (af false)) fun b35=>aI b35 (af (Value.bool false)) (a5X ⟨c3,0,none⟩ ⟨r8,0,none⟩ (some ⟨kb,0,none⟩) ((((f.tr.take k).filter fun x=>x.kind == 7).length+([x].filter fun x=>x.kind == 7).length:Nat):Int) tr (f.tr.length:Int) ((k+1:Nat):Int))) h (TQ h0):=by
    intro b hb
    refine mS c5 ?_
    cases b
    ·exact hn
    ·obtain⟨q1,q2⟩:=hb rfl
     rw[An q1 q2]
     exact hn
   rw[ae]
   by_cases h8:(x.kind == 8)=true
   ·rw[h8,aq]
    refine Sep.aB hs 16 rfl rfl ?_
    rw[ae]
    by_cases h5:(x.op == 5)=true
    ·rw[h5,aq,ak,ak]
     exact go true fun _=>⟨by simpa using h8,.inl (by simpa using h5)⟩
    ·rw[show (x.op == 5)=false by simpa using h5,aj]
     refine Sep.aB hs 16 rfl rfl ?_
     rw[ak,ak]
     exact go _ fun h6=>⟨by simpa using h8,.inr (by simpa using h6)⟩
   ·rw[show (x.kind == 8)=false by simpa using h8,aj,ak]
    exact go false fun h=>by cases h
  refine Sep.aB hs 16 rfl rfl ?_
  by_cases h7:(x.kind == 7)=true
  ·rw[h7,aq]
   refine Sep.aB hs 16 rfl rfl ?_
   rw[Ay (by simpa using h7)]
   refine aA rfl ?_
   refine k17 _ ?_
   rw[dK _ (by omega)]
   have:([x].filter fun x=>x.kind == 7).length=1:=by simp only[List.filter_cons,List.filter_nil,h7];rfl
   rw[this]
  ·have h7:(x.kind == 7)=false:=by simpa using h7
   rw[h7,aj]
   refine k17 _ ?_
   have:([x].filter fun x=>x.kind == 7).length=0:=by simp only[List.filter_cons,List.filter_nil,h7];rfl
   rw[this];rfl
end
end Go.Proofs.YtnpinhahjgbigaaGreatDoor
end
section
namespace Go.Proofs.YtnpinhahjgbigaaGreatDoor
open Go Go.Sb
def a7u (C:bw)(dN:List iO)(u:Int):Prop:=(∃I:KS→Prop,(∀s,I s→s.now<u→IN C u s∧I (iQ C u s)∧s.now<(iQ C u s).now)∧I (dN.foldl (bK C) (k0 C)))∧rB C (kQ C u u.toNat (dN.foldl (bK C) (k0 C)))
section
variable {α:Type}{Q:α→Hp→Prop}{h0 h:Hp}{R L:List As}{c:KC}
theorem b5n (hc:hU h0 c.C c.sm c.sc c.se c.st c.sl c.ts)(hb:(c.st.n:Int)≤9223372036854775807)(ls:Sl)(u:Int)(hs:Sep h0 h R):
  c7H c.C.sets c.C.ways c.C.hit c.C.bT c.sm c.C.groups c.sc c.se c.st c.sl ls u h (fun v h'=>v= .bool ((((yf c.C&&decide (c.C.groups<1000))&&decide (c.C.groups> -1000))&&decide ((ls.n:Int)≤40))&&decide (u≤1500))∧Sep h0 h' R):=by
 apply f2d
 unfold e2w
 refine Sep.new hs fun n h hs=>?_
 simp only[sz2,ay,Nat.zero_add]at hs ⊢
 have hs:Sep h0 h (aBlk n (cP c.C c.sm c.sc c.se c.st c.sl)::R):=hs
 repeat' (first
  |with_reducible refine Sep.aB hs 0 rfl rfl ?_
  |with_reducible refine Sep.bu hs 0 rfl rfl ?_)
 rw[ae]
 refine (d6I hc hb hs).mono ?_
 rintro v h ⟨rfl,hs⟩
 simp only[av]
 have c5:hcell h ⟨n,5,none⟩=some (.int .i64 c.C.groups):=by rw[(hs.mD 0 rfl).cell];rfl
 refine mS c5 ?_
 refine mS c5 ?_
 exact⟨rfl,hs.drop⟩
theorem Fa (hc:hU h0 c.C c.sm c.sc c.se c.st c.sl c.ts)(hb:(c.st.n:Int)≤9223372036854775807){ls:Sl}{dN:List iO}(hv:fK h0.size h0 LAgd.gp 5 ls dN){u:Int}(hu:0≤u∧u≤65535)
  (hp:yf c.C=true→eE c.C=0→dN.length≤40→a7u c.C dN (u%500)):
  c7L c.C.sets c.C.ways c.C.hit c.C.bT c.sm c.C.groups c.sc c.se c.st c.sl ls u h0 (TQ h0):=by
 have hs:=Sep.init h0
 apply f2y
 unfold e3r
 refine Sep.new hs fun c3 h hs=>?_
 simp only[sz2,ay,Nat.zero_add]at hs ⊢
 have hs:Sep h0 h [aBlk c3 (cP c.C c.sm c.sc c.se c.st c.sl)]:=hs
 rw[ae]
 refine (a7h h).mono ?_
 rintro v h' ⟨rfl,Ty⟩
 have hs:=hs.more Ty
 simp only[av]
 refine aA rfl ?_
 refine⟨by omega,?_⟩
 have eu:IntKind.i64.wrap (Int.tmod u 500)=u%500:=by
  rw[Int.tmod_eq_emod_of_nonneg hu.1,wrap64 _ (by omega)]
 rw[eu]
 have hm:0≤u%500∧u%500<500:=by omega
 generalize u%500=w at*
 repeat' (first
  |with_reducible refine Sep.aB hs 0 rfl rfl ?_
  |with_reducible refine Sep.bu hs 0 rfl rfl ?_)
 rw[ae]
 refine (b5n hc hb ls w hs).mono ?_
 rintro v h ⟨rfl,hs⟩
 simp only[av]
 rw[hv.n]
 have done:∀h,Sep h0 h [aBlk c3 (cP c.C c.sm c.sc c.se c.st c.sl)]→(af (Value.bool true)) h (TQ h0):=fun h hs=>⟨rfl,hs.under⟩
 rw[ae]
 cases hf:((((yf c.C&&decide (c.C.groups<1000))&&decide (c.C.groups> -1000))&&decide ((dN.length:Int)≤40))&&decide (w≤1500))
 ·refine aM rfl ?_
  rw[ak,aq]
  exact done h hs
 ·refine aA rfl ?_
  simp only[Bool.and_eq_true,decide_eq_true_eq]at hf
  repeat' (first
   |with_reducible refine Sep.aB hs 0 rfl rfl ?_
   |with_reducible refine Sep.bu hs 0 rfl rfl ?_)
  rw[ae]
  refine (a8U hc hs).mono ?_
  rintro v h ⟨rfl,hs⟩
  simp only[az,ak]
  by_cases hk:eE c.C=0
  ·rw[hk]
   refine aA rfl ?_
   obtain⟨⟨I,hI,hi⟩,hok⟩:=hp hf.1.1.1.1 hk (by omega)
   repeat' (first
    |with_reducible refine Sep.aB hs 0 rfl rfl ?_
    |with_reducible refine Sep.bu hs 0 rfl rfl ?_)
   rw[ae]
   refine (d2J hc hk (by omega) hv (by omega) hI hi ⟨hok.tr,hok.reps⟩ hs).mono ?_
   rintro v h ⟨tr,rp,cd,now,pk,fa,ft,fl,kb,m,R',rfl,hs⟩
   generalize kQ c.C w w.toNat (dN.foldl (bK c.C) (k0 c.C))=f at*
   simp only[cC,bW,cG,az,ez,av,aS,cH]
   have hs:Sep h0 h (aRow cw 7 tr f.tr::kL c kb m f (aRow dx 11 rp f.reps::(R'++[aBlk c3 (cP c.C c.sm c.sc c.se c.st c.sl)]))):=hs.perm (List.Perm.cons _ (ml (kL c kb m f []) _ _))
   have hs:=kIn hs
   refine gz hs fun r8 h hs=>?_
   simp only[sz2,ay,Nat.zero_add]at hs ⊢
   iterate 18 (refine nt hs 0 rfl rfl rfl fun h hs=>?_;simp only[sz0,sz1]at hs)
   refine aA rfl ?_
   have hs:Sep h0 h (kL c kb m f (aBlk r8 (ic c tr rp cd now pk fa ft fl)::aRow cw 7 tr f.tr::aRow dx 11 rp f.reps::(R'++[aBlk c3 (cP c.C c.sm c.sc c.se c.st c.sl)]))):=hs
   refine Sep.bu hs 16 rfl rfl ?_
   have hrn:=hs.bn 17 rfl
   rw[show (tr.n:Int)=(f.tr.length:Int) by rw[hrn]]
   have hs:Sep h0 h (kL c kb m f (aRow cw 7 tr f.tr::IS c tr rp cd now pk fa ft fl f c3 r8 R')):=a7t hs (by
    refine (List.Perm.swap _ _ _).trans (List.Perm.cons _ ((List.Perm.swap _ _ _).trans (List.Perm.cons _ (List.Perm.cons _ ?_))))
    exact List.perm_append_comm (l₂:=[aBlk c3 (cP c.C c.sm c.sc c.se c.st c.sl)]))
   have hlen:=hc.len
   refine b7f hc hok (fun i hi=>?_) f.tr.length 0 h (by omega) hs
   have Ub:bS c.C i∈c.C.tasks:=by rw[qi hc hi,←hc.tasks];exact List.mem_map_of_mem (List.getElem_mem hi)
   have hfe:=hf.1.1.1.1
   unfold yf at hfe
   simp only[Bool.and_eq_true,List.all_eq_true,decide_eq_true_eq]at hfe
   have:=hfe.1.1.1.1.1 _ Ub
   omega
  ·refine aM (by simpa using hk) ?_
   exact done h hs
end
end Go.Proofs.YtnpinhahjgbigaaGreatDoor
end
section
namespace Go.Proofs.YtnpinhahjgbigaaGreatDoor
open Go Go.Sb
structure b7g (C:bw) (t:cx):Prop where
 pr:0≤t.pr∧t.pr≤63
 th:t.pr≤t.th∧t.th≤63
 fr:0≤t.fr∧t.fr≤4096
 fl:0≤t.fl∧t.fl≤1048576
 ops:lP t.ops C.gi.length C.groups C.counts.length C.bP.length=0
 low:∀o∈t.ops,o.k=5→t.pr≤C.bP.getD o.a.toNat 0
structure dE (C:bw):Prop where
 yg:0<C.tasks.length∧C.tasks.length≤8
 gi:C.gi.length≤4
 groups:0≤C.groups∧C.groups≤4
 counts:C.counts.length≤4
 bP:C.bP.length≤4
 lines:C.lines.length≤8
 of:∀z∈C.lines,0≤z∧z<C.tasks.length
 iD:∀z∈C.gi,1≤z∧z≤8
 Tm:∀z∈C.counts,1≤z∧z≤8
 hit:1≤C.hit∧C.hit≤100
 bT:1≤C.bT∧C.bT≤100
 sets:1≤C.sets∧C.sets≤16
 ways:1≤C.ways∧C.ways≤4
 task:∀i,i<C.tasks.length→b7g C (bS C i)
 inj:∀i j,i<C.tasks.length→j<C.tasks.length→(bS C i).pr=(bS C j).pr→i=j
theorem uG {C:bw}{i:Nat}(hi:i<C.tasks.length):C.tasks[i]? =some (bS C i):=by
 unfold bS;rw[List.getD_eq_getElem?_getD,List.getElem?_eq_getElem hi];rfl
theorem a7v {C:bw}{t:cx}{a:List cx}(h:gH C t a=0):b7g C t:=by
 unfold gH at h
 split at h
 ·cases h
 ·rename_i hn
  have hn:fy t=true:=by simpa using hn
  simp only at h
  split at h
  ·rename_i hz;exact absurd h hz
  ·rename_i hz
   split at h
   ·cases h
   ·rename_i hl
    unfold fy gO at hn
    simp at hn
    refine⟨by omega,by omega,by omega,by omega,by simpa using hz,fun o ho h5=>?_⟩
    rcases Int.lt_or_le (C.bP.getD o.a.toNat 0) t.pr with hlt|hge
    ·refine absurd (List.any_eq_true.2 ⟨o,ho,?_⟩) hl
     unfold tX
     rw[decide_eq_true hlt,h5];rfl
    ·exact hge
theorem e4Z {C:bw}(h:eE C=0):dE C:=by
 have hp:=d7R h
 have hh:=h
 unfold eE at h
 split at h
 ·cases h
 ·rename_i h1
  split at h
  ·cases h
  ·rename_i h2
   split at h
   ·cases h
   ·rename_i h3
    split at h
    ·cases h
    ·rename_i h4
     have ht:=pJ C C.tasks 0 h
     unfold lQ gO at h1
     unfold kq at h2
     unfold fC lF at h4
     simp at h1 h2 h4
     have hin:∀{z a b:Int},gO z a b=true→a≤z∧z≤b:=by
      intro z a b hz
      unfold gO at hz
      simp at hz
      omega
     refine⟨hp.yg,by omega,by omega,by omega,by omega,by omega,fun z hz=>?_,fun z hz=>hin (h4.1.1.1 z hz),fun z hz=>hin (h4.1.1.2 z hz),by omega,by omega,by omega,by omega,fun i hi=>?_,fun i j hi hj he=>?_⟩
     ·have:=hin (h4.2 z hz);omega
     ·exact a7v (ht i _ (uG hi))
     ·exact hp.inj i j _ _ (uG hi) (uG hj) he
theorem Fb {bx gr ct ce:Int}:∀(l:List dG) (s:rG),mZ bx gr ct ce s l=0→∀k,k≤l.length→∃st,fT s (l.take k)=some st
 |[],s,_,k,hk=>by
  have:k=0:=by simpa using hk
  subst this;exact⟨s,rfl⟩
 |q::l,s,h,k,hk=>by
  cases k with
  |zero=>exact⟨s,rfl⟩
  |succ k=>
   unfold mZ at h
   by_cases hq:yd q bx gr ct ce=0
   ·rw[if_neg (by simpa using hq)]at h
    rw[List.take_succ_cons]
    unfold fT
    cases hn:eD s q with
    |none=>rw[hn]at h;cases h
    |some s'=>
     rw[hn]at h
     exact Fb l s' h k (by simpa using hk)
   ·rw[if_pos hq]at h
    exact absurd h hq
structure xy (C:bw) (o:dG):Prop where
 k:1≤o.k∧o.k≤15
 a:0≤o.a∧o.a≤4096
 mD:o.k=2→o.a≤255
 cyc:o.k=1→1≤o.a∧o.a≤1000
 lock:o.k=5∨o.k=6→o.a<C.bP.length
 box:o.k=9∨o.k=10→o.a<C.gi.length
 group:o.k=11∨o.k=12∨o.k=13→o.a<C.groups
 count:o.k=14∨o.k=15→o.a<C.counts.length
theorem d2K {C:bw}(hC:dE C){o:dG}(h:yd o C.gi.length C.groups C.counts.length C.bP.length=0):xy C o:=by
 have h1:=hC.gi
 have h2:=hC.groups
 have h3:=hC.counts
 have h4:=hC.bP
 unfold yd at h
 split at h
 ·cases h
 ·rename_i hn
  split at h
  ·rename_i ha
   simp only[Bool.and_eq_true]at ha
   have ha:=ha.1
   have hk:1≤o.k∧o.k≤15:=by
    unfold iy at hn
    split at hn
    ·omega
    ·split at hn
     ·omega
     ·split at hn
      ·omega
      ·omega
   unfold opA gO at ha
   rw[wrap64 ((C.bP.length:Int)-1) (by omega),wrap64 ((C.gi.length:Int)-1) (by omega),wrap64 (C.groups-1) (by omega),wrap64 ((C.counts.length:Int)-1) (by omega)]at ha
   have hcs:o.k=1∨o.k=2∨o.k=3∨o.k=4∨o.k=5∨o.k=6∨o.k=7∨o.k=8∨o.k=9∨o.k=10∨o.k=11∨o.k=12∨o.k=13∨o.k=14∨o.k=15:=by omega
   rcases hcs with e|e|e|e|e|e|e|e|e|e|e|e|e|e|e<;>simp[e]at ha<;>exact⟨hk,by omega,by omega,by omega,by omega,by omega,by omega,by omega⟩
  ·cases h
structure a7w (k:Nat) (st:rG):Prop where
 r:0≤st.1∧st.1≤k
 d:0≤st.2.1∧st.2.1≤4096*k
 nd:st.2.2.Nodup
theorem KU {s s':rG}(h:nok s=some s'):s'=s∧0≤s.1∧0≤s.2.1:=by
 unfold nok at h
 split at h
 ·cases h
 ·rename_i hn
  cases h
  simp at hn
  exact⟨rfl,by omega,by omega⟩
theorem nV {C:bw}{s s':rG}{o:dG}{k:Nat}(hk:k≤1000)(ho:xy C o)(hb:a7w k s)(h:eD s o=some s'):0≤s'.1∧0≤s'.2.1∧
  ((o.k=3∧s'=(s.1+1,s.2.1,s.2.2))∨(o.k=4∧s'=(s.1-1,s.2.1,s.2.2))∨(o.k=5∧o.a∉s.2.2∧s'=(s.1,s.2.1,s.2.2++[o.a]))∨(o.k=6∧s.2.2.getLast? =some o.a∧s'=(s.1,s.2.1,s.2.2.dropLast))∨
   (o.k=7∧s'=(s.1,s.2.1+o.a,s.2.2))∨(o.k=8∧s'=(s.1,s.2.1-o.a,s.2.2))∨((o.k<3∨8<o.k)∧s'=s)):=by
 have h1:=hb.r
 have h2:=hb.d
 have h3:=ho.a
 have h4:=ho.k
 unfold eD at h
 cases hm:hO s o with
 |none=>rw[hm]at h;cases h
 |some m=>
  rw[hm]at h
  obtain⟨e,g1,g2⟩:=KU h
  subst e
  refine⟨g1,g2,?_⟩
  unfold hO at hm
  by_cases e3:o.k=3
  ·rw[if_pos e3,wrap64 _ (by omega)]at hm
   cases hm;exact .inl ⟨e3,rfl⟩
  rw[if_neg e3]at hm
  by_cases e4:o.k=4
  ·rw[if_pos e4,wrap64 _ (by omega)]at hm
   cases hm;exact .inr (.inl ⟨e4,rfl⟩)
  rw[if_neg e4]at hm
  by_cases e5:o.k=5
  ·rw[if_pos e5]at hm
   split at hm
   ·cases hm
   ·rename_i hc
    cases hm;exact .inr (.inr (.inl ⟨e5,by simpa using hc,rfl⟩))
  rw[if_neg e5]at hm
  by_cases e6:o.k=6
  ·rw[if_pos e6]at hm
   split at hm
   ·rename_i hc
    cases hm;exact .inr (.inr (.inr (.inl ⟨e6,hc,rfl⟩)))
   ·cases hm
  rw[if_neg e6]at hm
  by_cases e7:o.k=7
  ·rw[if_pos e7,wrap64 _ (by omega)]at hm
   cases hm;exact .inr (.inr (.inr (.inr (.inl ⟨e7,rfl⟩))))
  rw[if_neg e7]at hm
  by_cases e8:o.k=8
  ·rw[if_pos e8,wrap64 _ (by omega)]at hm
   cases hm;exact .inr (.inr (.inr (.inr (.inr (.inl ⟨e8,rfl⟩)))))
  rw[if_neg e8]at hm
  cases hm
  exact .inr (.inr (.inr (.inr (.inr (.inr ⟨by omega,rfl⟩)))))
theorem xz {C:bw}{l:List dG}(hl:l.length≤64)(ho:∀o∈l,xy C o):∀(k:Nat) (st:rG),k≤l.length→fT (0,0,[]) (l.take k)=some st→a7w k st
 |0,st,_,h=>by
  cases h
  exact⟨by simp,by simp,.nil⟩
 |k+1,st,hk,h=>by
  rw[ku l k (by omega)]at h
  cases hs:fT (0,0,[]) (l.take k) with
  |none=>rw[hs]at h;cases h
  |some s=>
   rw[hs]at h
   have hb:=xz hl ho k s (by omega) hs
   have hoo:=ho l[k] (List.getElem_mem (by omega))
   obtain⟨g1,g2,g⟩:=nV (by omega) hoo hb h
   have h1:=hb.r
   have h2:=hb.d
   have h3:=hoo.a
   rcases g with ⟨_,rfl⟩|⟨_,rfl⟩|⟨_,hn,rfl⟩|⟨_,_,rfl⟩|⟨_,rfl⟩|⟨_,rfl⟩|⟨_,rfl⟩
   ·exact⟨⟨g1,by show s.1+1≤((k+1:Nat):Int);omega⟩,⟨g2,by show s.2.1≤_;omega⟩,hb.nd⟩
   ·exact⟨⟨g1,by show s.1-1≤((k+1:Nat):Int);omega⟩,⟨g2,by show s.2.1≤_;omega⟩,hb.nd⟩
   ·exact⟨⟨g1,by show s.1≤((k+1:Nat):Int);omega⟩,⟨g2,by show s.2.1≤_;omega⟩,by
     show (s.2.2++[(l[k]).a]).Nodup
     rw[List.nodup_append]
     exact⟨hb.nd,by simp,fun a ha b hb' hab=>by simp at hb';subst hb';subst hab;exact hn ha⟩⟩
   ·exact⟨⟨g1,by show s.1≤((k+1:Nat):Int);omega⟩,⟨g2,by show s.2.1≤_;omega⟩,hb.nd.sublist (List.dropLast_sublist _)⟩
   ·exact⟨⟨g1,by show s.1≤((k+1:Nat):Int);omega⟩,⟨g2,by show s.2.1+(l[k]).a≤_;omega⟩,hb.nd⟩
   ·exact⟨⟨g1,by show s.1≤((k+1:Nat):Int);omega⟩,⟨g2,by show s.2.1-(l[k]).a≤_;omega⟩,hb.nd⟩
   ·exact⟨⟨g1,by omega⟩,⟨g2,by omega⟩,hb.nd⟩
end Go.Proofs.YtnpinhahjgbigaaGreatDoor
end
section
namespace Go.Proofs.YtnpinhahjgbigaaGreatDoor
open Go Go.Sb
def Fc (d:Int)(p:dG):Int:=if p.k == 7 then IntKind.i64.wrap (d+p.a) else if p.k == 8 then IntKind.i64.wrap (d-p.a) else d
def Tp:List dG→Int→Int
 |[],d=>d
 |p::l,d=>Tp l (Fc d p)
theorem Tq (l:List dG)(p:dG)(d:Int):Tp (l++[p]) d=Fc (Tp l d) p:=by
 induction l generalizing d with
 |nil=>rfl
 |cons q l ih=>exact ih _
theorem Az (fr:Int)(a b:List dG)(d:Int)(o:Bool):iK fr (a++b) d o=iK fr b (Tp a d) (iK fr a d o):=by
 induction a generalizing d o with
 |nil=>rfl
 |cons q a ih=>exact ih _ _
theorem IT (fr:Int)(l:List dG)(d:Int):iK fr l d true=true:=by
 induction l generalizing d with
 |nil=>rfl
 |cons q l ih=>unfold iK;simp only[Bool.true_or];exact ih _
theorem IU (fr:Int)(l:List dG)(p:dG)(d:Int)(o:Bool):iK fr (l++[p]) d o=(iK fr l d o||decide (Fc (Tp l d) p>fr)):=by
 rw[Az];rfl
theorem AA {s s':rG}{p:dG}(h:eD s p=some s'):s'.2.1=Fc s.2.1 p:=by
 unfold eD at h
 cases hm:hO s p with
 |none=>rw[hm]at h;cases h
 |some m=>
  rw[hm]at h
  obtain⟨e,_,_⟩:=KU h
  subst e
  unfold hO at hm
  unfold Fc
  by_cases e3:p.k=3
  ·rw[if_pos e3]at hm;cases hm;rw[if_neg (by simp[e3]),if_neg (by simp[e3])]
  rw[if_neg e3]at hm
  by_cases e4:p.k=4
  ·rw[if_pos e4]at hm;cases hm;rw[if_neg (by simp[e4]),if_neg (by simp[e4])]
  rw[if_neg e4]at hm
  by_cases e5:p.k=5
  ·rw[if_pos e5]at hm
   split at hm
   ·cases hm
   ·cases hm;rw[if_neg (by simp[e5]),if_neg (by simp[e5])]
  rw[if_neg e5]at hm
  by_cases e6:p.k=6
  ·rw[if_pos e6]at hm
   split at hm
   ·cases hm;rw[if_neg (by simp[e6]),if_neg (by simp[e6])]
   ·cases hm
  rw[if_neg e6]at hm
  by_cases e7:p.k=7
  ·rw[if_pos e7]at hm;cases hm;rw[if_pos (by simp[e7])]
  rw[if_neg e7]at hm
  by_cases e8:p.k=8
  ·rw[if_pos e8]at hm;cases hm;rw[if_neg (by simp[e7]),if_pos (by simp[e8])]
  rw[if_neg e8]at hm
  cases hm;rw[if_neg (by simp[e7]),if_neg (by simp[e8])]
theorem Fe {l:List dG}:∀(k:Nat) (st:rG),k≤l.length→fT (0,0,[]) (l.take k)=some st→Tp (l.take k) 0=st.2.1
 |0,st,_,h=>by cases h;rfl
 |k+1,st,hk,h=>by
  rw[ku l k (by omega)]at h
  cases hs:fT (0,0,[]) (l.take k) with
  |none=>rw[hs]at h;cases h
  |some s=>
   rw[hs]at h
   rw[List.take_succ_eq_append_getElem (by omega),Tq,Fe k s (by omega) hs,AA h]
def begun (j:PJ):Nat:=j.at_+(if j.rest>0 then 1 else 0)
structure nW (C:bw) (L:List LCei.Lk) (a:dD):Prop where
 t:a.j.t<C.tasks.length
 over:a.j.over=false
 at_:a.j.at_<(bS C a.j.t).ops.length
 rest:0≤a.j.rest∧a.j.rest≤1000
 left:0≤a.j.left∧a.j.left≤1048576
 aU:0≤a.j.aU∧a.j.aU≤(bS C a.j.t).fr
 st:∃st,fT (0,0,[]) ((bS C a.j.t).ops.take (begun a.j))=some st∧a.j.regions=st.1∧(a.j.fault=false→a.j.aU=st.2.1)∧∀i:Nat,LCei.holds L a.rep i=true↔(i:Int)∈st.2.2
 ov:iK (bS C a.j.t).fr ((bS C a.j.t).ops.take (begun a.j)) 0 false=a.j.fault
 flt:a.j.fault=true→1≤a.j.rest
section
variable {C:bw}{L L':List LCei.Lk}{a:dD}
theorem qk (hC:dE C){i:Nat}(hi:i<C.tasks.length):0<(bS C i).ops.length∧(bS C i).ops.length≤64∧(∀o∈(bS C i).ops,xy C o)∧∀k,k≤(bS C i).ops.length→∃st,fT (0,0,[]) ((bS C i).ops.take k)=some st∧a7w k st:=by
 have h:=(hC.task i hi).ops
 have h1:=vz h
 unfold lP at h
 split at h
 ·cases h
 ·rename_i h0
  split at h
  ·cases h
  ·have hop:∀o∈(bS C i).ops,xy C o:=fun o ho=>d2K hC (h1.2 o ho)
   refine⟨by omega,h1.1,hop,fun k hk=>?_⟩
   obtain⟨st,hst⟩:=Fb _ _ h k hk
   exact⟨st,hst,xz h1.1 hop k st hk hst⟩
theorem a7x (h:nW C L a):begun a.j≤(bS C a.j.t).ops.length:=by
 have:=h.at_
 unfold begun;split<;>omega
theorem nW.regions (hC:dE C)(h:nW C L a):0≤a.j.regions∧a.j.regions≤64:=by
 obtain⟨st,h1,h2,_⟩:=h.st
 obtain⟨_,hl,hop,hall⟩:=qk hC h.t
 have hle:=a7x h
 have hb:=xz hl hop _ st hle h1
 have:=hb.r
 omega
theorem a7y (hC:dE C){i rep:Nat}(hi:i<C.tasks.length)(hL:∀k,LCei.holds L rep k=false):nW C L ⟨iI C i,rep,false⟩:=by
 have ht:=hC.task i hi
 have xX:=ht.fl
 have hfr:=ht.fr
 obtain⟨h0,hl,hop,hall⟩:=qk hC hi
 refine⟨hi,?_,h0,⟨Int.le_refl _,by show (0:Int)≤1000;omega⟩,?_,⟨Int.le_refl _,hfr.1⟩,⟨(0,0,[]),rfl,rfl,fun _=>rfl,fun k=>by rw[hL k];simp⟩,rfl,fun h=>by cases h⟩
 ·show ((bS C i).ops.length == 0)=false
  rw[beq_eq_false_iff_ne];omega
 ·show 0≤(if (0:Int)>(bS C i).fl then 0 else (bS C i).fl)∧(if (0:Int)>(bS C i).fl then 0 else (bS C i).fl)≤1048576
  split<;>omega
theorem xA {o:dG}(h:nW C L a)(ho:Fv C a.j=some o):a.j.rest=0∧a.j.fault=false∧(bS C a.j.t).ops[a.j.at_]? =some o∧begun a.j=a.j.at_:=by
 unfold Fv at ho
 split at ho
 ·cases ho
 ·rename_i hn
  simp only[Bool.or_eq_true,decide_eq_true_eq,not_or]at hn
  have hr:a.j.rest=0:=by have:=h.rest;omega
  refine⟨hr,?_,ho,?_⟩
  ·cases hf:a.j.fault
   ·rfl
   ·have:=h.flt hf;omega
  ·unfold begun;rw[if_neg (by omega)];rfl
def AB (L L':List LCei.Lk)(rep:Nat)(o:dG):Prop:=∀i:Nat,LCei.holds L' rep i=true↔(if o.k=5 then (LCei.holds L rep i=true∨(i:Int)=o.a) else if o.k=6 then (LCei.holds L rep i=true∧(i:Int)≠o.a) else LCei.holds L rep i=true)
theorem ql (hC:dE C){o:dG}(h:nW C L a)(ho:Fv C a.j=some o)(hL:AB L L' a.rep o){cost:Int}(hc:1≤cost∧cost≤1000):nW C L' { a with j:=cU C a.j o cost}:=by
 obtain⟨hr,hf,fG,hbg⟩:=xA h ho
 obtain⟨h0,hl,hop,hall⟩:=qk hC h.t
 obtain⟨st,hst,Ch,d2L,rH⟩:=h.st
 have hpu:=d2L hf
 clear d2L
 have xI:=h.ov
 have JL:=hC.task _ h.t
 have hfr:=JL.fr
 rw[hbg]at hst xI
 have nk:=h.at_
 have hoe:(bS C a.j.t).ops[a.j.at_]=o:=(List.getElem?_eq_some_iff.1 fG).2
 have oS:=hop o (hoe ▸ List.getElem_mem nk)
 have hb:=xz hl hop a.j.at_ st (by omega) hst
 obtain⟨st',sF,hb'⟩:=hall (a.j.at_+1) (by omega)
 have hstep:eD st o=some st':=by
  have:=ku (st:=(0,0,[])) (bS C a.j.t).ops a.j.at_ nk
  rw[hst,sF,hoe]at this
  exact this.symm
 have f2W:=Fe a.j.at_ st (by omega) hst
 have e5a:=AA hstep
 have Ci:iK (bS C a.j.t).fr ((bS C a.j.t).ops.take (a.j.at_+1)) 0 false=decide (st'.2.1>(bS C a.j.t).fr):=by
  rw[List.take_succ_eq_append_getElem nk,IU,xI,hf,f2W,hoe,←e5a,Bool.false_or]
 obtain⟨g1,g2,g⟩:=nV (by omega) oS hb hstep
 have hpd:=h.aU
 have e5b:=h.regions hC
 have hoa:=oS.a
 have nX:=h.left
 have mn:=h.over
 have IM:=h.t
 have a7q:(if (1:Int)>cost then 1 else cost)=cost:=if_neg (by omega)
 obtain⟨⟨t,at_,rest,regions,aU,left,dL,fault,over⟩,rep,kR⟩:=a
 simp only at hr hf fG hbg hst Ch hpu rH xI JL hfr nk hoe hb sF Ci hpd e5b nX mn IM hL
 subst hf
 have Fw:∀(r:Int) (rg pu le:Int) (ar fa ov:Bool),1≤r→begun ⟨t,at_,r,rg,pu,le,ar,fa,ov⟩=at_+1:=by
  intro r rg pu le ar fa ov hr
  unfold begun;rw[if_pos (by show r>0;omega)]
 unfold cU jDo
 simp only[a7q]
 unfold AB at hL
 rcases g with ⟨e,rfl⟩|⟨e,rfl⟩|⟨e,hn,rfl⟩|⟨e,hn,rfl⟩|⟨e,rfl⟩|⟨e,rfl⟩|⟨e,rfl⟩
 ·rw[if_pos (by simp[e])]
  simp only[if_neg (show ¬o.k=5 by omega),if_neg (show ¬o.k=6 by omega)]at hL
  refine⟨IM,mn,nk,⟨by show 0≤cost;omega,hc.2⟩,nX,hpd,⟨(st.1+1,st.2.1,st.2.2),by rw[Fw _ _ _ _ _ _ _ hc.1];exact sF,by show regions+1=st.1+1;omega,fun _=>hpu,fun i=>by rw[hL i,rH i]⟩,?_,fun h=>by cases h⟩
  rw[Fw _ _ _ _ _ _ _ hc.1,Ci]
  exact decide_eq_false (by show ¬st.2.1>(bS C t).fr;omega)
 ·rw[if_neg (by simp[e]),if_pos (by simp[e])]
  simp only[if_neg (show ¬o.k=5 by omega),if_neg (show ¬o.k=6 by omega)]at hL
  simp only at g1
  refine⟨IM,mn,nk,⟨by show 0≤cost;omega,hc.2⟩,nX,hpd,⟨(st.1-1,st.2.1,st.2.2),by rw[Fw _ _ _ _ _ _ _ hc.1];exact sF,?_,fun _=>hpu,fun i=>by rw[hL i,rH i]⟩,?_,fun h=>by cases h⟩
  ·show (if (0:Int)>regions-1 then 0 else regions-1)=st.1-1
   rw[if_neg (by omega)];omega
  ·rw[Fw _ _ _ _ _ _ _ hc.1,Ci]
   exact decide_eq_false (by show ¬st.2.1>(bS C t).fr;omega)
 ·rw[if_neg (by simp[e]),if_neg (by simp[e]),if_neg (by simp[e]),if_neg (by simp[e])]
  simp only[if_pos e]at hL
  refine⟨IM,mn,nk,⟨by show 0≤cost;omega,hc.2⟩,nX,hpd,⟨(st.1,st.2.1,st.2.2++[o.a]),by rw[Fw _ _ _ _ _ _ _ hc.1];exact sF,Ch,fun _=>hpu,fun i=>?_⟩,?_,fun h=>by cases h⟩
  ·rw[hL i,rH i];simp
  ·rw[Fw _ _ _ _ _ _ _ hc.1,Ci]
   exact decide_eq_false (by show ¬st.2.1>(bS C t).fr;omega)
 ·rw[if_neg (by simp[e]),if_neg (by simp[e]),if_neg (by simp[e]),if_neg (by simp[e])]
  simp only[if_neg (show ¬o.k=5 by omega),if_pos e]at hL
  refine⟨IM,mn,nk,⟨by show 0≤cost;omega,hc.2⟩,nX,hpd,⟨(st.1,st.2.1,st.2.2.dropLast),by rw[Fw _ _ _ _ _ _ _ hc.1];exact sF,Ch,fun _=>hpu,fun i=>?_⟩,?_,fun h=>by cases h⟩
  ·rw[hL i,rH i]
   obtain⟨l,hl⟩:=List.getLast?_eq_some_iff.1 hn
   have hnd:=hb.nd
   rw[hl]at hnd ⊢
   rw[List.nodup_append]at hnd
   rw[List.dropLast_concat]
   simp only[List.mem_append,List.mem_singleton]
   constructor
   ·rintro ⟨h1|h1,h2⟩
    ·exact h1
    ·exact absurd h1 h2
   ·intro h1
    exact⟨.inl h1,hnd.2.2 _ h1 _ (by simp)⟩
  ·rw[Fw _ _ _ _ _ _ _ hc.1,Ci]
   exact decide_eq_false (by show ¬st.2.1>(bS C t).fr;omega)
 ·rw[if_neg (by simp[e]),if_neg (by simp[e]),if_pos (by simp[e])]
  simp only[if_neg (show ¬o.k=5 by omega),if_neg (show ¬o.k=6 by omega)]at hL
  by_cases hgt:aU+o.a>(bS C t).fr
  ·rw[if_pos hgt]
   refine⟨IM,mn,nk,⟨by show (0:Int)≤1;omega,by show (1:Int)≤1000;omega⟩,nX,hpd,⟨(st.1,st.2.1+o.a,st.2.2),by rw[Fw _ _ _ _ _ _ _ (by omega)];exact sF,Ch,fun (h:true=false)=>(by cases h),fun i=>by show LCei.holds L' rep i=true↔_;rw[hL i,rH i]⟩,?_,fun _=>by show (1:Int)≤1;omega⟩
   rw[Fw _ _ _ _ _ _ _ (by omega),Ci]
   exact decide_eq_true (by show st.2.1+o.a>(bS C t).fr;omega)
  ·rw[if_neg hgt]
   refine⟨IM,mn,nk,⟨by show 0≤cost;omega,hc.2⟩,nX,⟨by show 0≤aU+o.a;omega,by show aU+o.a≤(bS C t).fr;omega⟩,⟨(st.1,st.2.1+o.a,st.2.2),by rw[Fw _ _ _ _ _ _ _ hc.1];exact sF,Ch,fun _=>by show aU+o.a=st.2.1+o.a;omega,fun i=>by rw[hL i,rH i]⟩,?_,fun h=>by cases h⟩
   rw[Fw _ _ _ _ _ _ _ hc.1,Ci]
   exact decide_eq_false (by show ¬st.2.1+o.a>(bS C t).fr;omega)
 ·rw[if_neg (by simp[e]),if_neg (by simp[e]),if_neg (by simp[e]),if_pos (by simp[e])]
  simp only[if_neg (show ¬o.k=5 by omega),if_neg (show ¬o.k=6 by omega)]at hL
  simp only at g2
  have ep:(if (0:Int)>aU-o.a then 0 else aU-o.a)=aU-o.a:=if_neg (by omega)
  rw[ep]
  refine⟨IM,mn,nk,⟨by show 0≤cost;omega,hc.2⟩,nX,⟨by show 0≤aU-o.a;omega,by show aU-o.a≤(bS C t).fr;omega⟩,⟨(st.1,st.2.1-o.a,st.2.2),by rw[Fw _ _ _ _ _ _ _ hc.1];exact sF,Ch,fun _=>by show aU-o.a=st.2.1-o.a;omega,fun i=>by rw[hL i,rH i]⟩,?_,fun h=>by cases h⟩
  rw[Fw _ _ _ _ _ _ _ hc.1,Ci]
  exact decide_eq_false (by show ¬st.2.1-o.a>(bS C t).fr;omega)
 ·rw[if_neg (by simp;omega),if_neg (by simp;omega),if_neg (by simp;omega),if_neg (by simp;omega)]
  simp only[if_neg (show ¬o.k=5 by omega),if_neg (show ¬o.k=6 by omega)]at hL
  refine⟨IM,mn,nk,⟨by show 0≤cost;omega,hc.2⟩,nX,hpd,⟨st',by rw[Fw _ _ _ _ _ _ _ hc.1];exact sF,Ch,fun _=>hpu,fun i=>by rw[hL i,rH i]⟩,?_,fun h=>by cases h⟩
  rw[Fw _ _ _ _ _ _ _ hc.1,Ci]
  exact decide_eq_false (by show ¬st'.2.1>(bS C t).fr;omega)
theorem Ts (hC:dE C)(h:nW C L a){n:Int}(hn:1≤n∧n≤a.j.rest):((eJ C a.j n).over=false→nW C L { a with j:=eJ C a.j n})∧
  ((eJ C a.j n).over=true→(eJ C a.j n).fault=iK (bS C a.j.t).fr (bS C a.j.t).ops 0 false):=by
 obtain⟨h0,hl,hop,hall⟩:=qk hC h.t
 have IM:=h.t
 have mn:=h.over
 have nk:=h.at_
 have kS:=h.rest
 have nX:=h.left
 have hpd:=h.aU
 have hst:=h.st
 have xI:=h.ov
 have b5m:=h.flt
 obtain⟨⟨t,at_,rest,regions,aU,left,dL,fault,over⟩,rep,kR⟩:=a
 simp only at IM mn nk kS nX hpd hst xI b5m hn h0 hl
 have bg:begun ⟨t,at_,rest,regions,aU,left,dL,fault,over⟩=at_+1:=by unfold begun;rw[if_pos (by show rest>0;omega)]
 rw[bg]at hst xI
 have hle:0≤(if dL then (if (0:Int)>left-n then 0 else left-n) else left)∧(if dL then (if (0:Int)>left-n then 0 else left-n) else left)≤1048576:=by
  split
  ·split<;>omega
  ·omega
 unfold eJ
 simp only
 by_cases hz:(rest-n == 0)=true
 ·rw[if_pos hz]
  have hz:rest-n=0:=by simpa using hz
  have bg2:∀(rg pu le:Int) (ar fa ov:Bool),begun ⟨t,at_+1,rest-n,rg,pu,le,ar,fa,ov⟩=at_+1:=by
   intro rg pu le ar fa ov
   unfold begun;rw[if_neg (by show ¬rest-n>0;omega)]
  refine⟨fun ho=>?_,fun ho=>?_⟩
  ·simp only[Bool.or_eq_false_iff,beq_eq_false_iff_ne,ne_eq]at ho
   obtain⟨ho1,ho2⟩:=ho
   subst ho1
   refine⟨IM,by simp[ho2],by show at_+1<(bS C t).ops.length;omega,⟨by show 0≤rest-n;omega,by show rest-n≤1000;omega⟩,hle,hpd,?_,?_,fun h=>by cases h⟩
   ·rw[bg2];exact hst
   ·rw[bg2];exact xI
  ·simp only[Bool.or_eq_true,beq_iff_eq]at ho
   show fault=_
   rcases ho with ho|ho
   ·subst ho
    have:(bS C t).ops=(bS C t).ops.take (at_+1)++(bS C t).ops.drop (at_+1):=(List.take_append_drop _ _).symm
    rw[this,Az,xI,IT]
   ·rw[←xI,List.take_of_length_le (by omega)]
 ·rw[if_neg hz]
  have hz:¬rest-n=0:=by simpa using hz
  have bg2:∀(rg pu le:Int) (ar fa ov:Bool),begun ⟨t,at_,rest-n,rg,pu,le,ar,fa,ov⟩=at_+1:=by
   intro rg pu le ar fa ov
   unfold begun;rw[if_pos (by show rest-n>0;omega)]
  refine⟨fun _=>⟨IM,mn,nk,⟨by show 0≤rest-n;omega,by show rest-n≤1000;omega⟩,hle,hpd,by rw[bg2];exact hst,by rw[bg2];exact xI,fun h=>by have:=b5m h;show 1≤rest-n;omega⟩,fun ho=>?_⟩
  rw[mn]at ho;cases ho
end
end Go.Proofs.YtnpinhahjgbigaaGreatDoor
end
section
namespace Go.Proofs.YtnpinhahjgbigaaGreatDoor
open Go Go.Sb
def Fx (e:iO):Int:=if e.k=5 then e.c else 1
def cM (l:List iO):Int:=(l.map Fx).sum
def iR (l:List PQ):Int:=(l.map (·.nx)).sum
structure EvG (C:bw) (e:iO):Prop where
 ok:IJ C e
 lim:e.t+(if e.k=5 then (e.c-1)*1048576 else 0)≤284164096
structure a7z (C:bw) (s:KS):Prop where
 len:s.ready.length=C.tasks.length
 at_:∀(i:Nat) (y:PQ),s.ready[i]? =some y→y.pr=(bS C i).pr∧0≤y.nx∧y.q.length≤4∧∀x∈y.q,x.t=(i:Int)∧x.n<y.nx
 qN:∀(i:Nat) (y:PQ),s.ready[i]? =some y→(y.q.map (·.n)).Nodup
 Ff:∀(i:Nat) (y:PQ) (x:cA),s.ready[i]? =some y→x∈y.q→∃p∈s.pl,p.1.t=x.t∧p.1.n=x.n∧p.1.a=x.a
 IV:∀p∈s.pl,∃(i:Nat) (y:PQ),s.ready[i]? =some y∧p.1.t=(i:Int)∧p.1.n<y.nx
 KV:(s.pl.map fun p=>(p.1.t,p.1.n)).Nodup
 Fy:∀p∈s.pl,∃r,s.reps[p.2]? =some r∧r.task=p.1.t∧r.TR=p.1.n∧r.start= -1∧r.end_= -1∧r.fault=false
structure ObI (C:bw) (s:KS):Prop where
 cache:LCache.Cs C.ways.toNat s.cache
 boxes:s.boxes.length=C.gi.length
 groups:(s.groups.length:Int)=C.groups∧∀x∈s.groups,0≤x∧x≤255
 counts:s.counts.length=C.counts.length∧∀x∈s.counts,0≤x.1∧x.1≤x.2∧x.2≤8
 aD:s.aD.length=C.bP.length∧∀(i:Nat) (x:LCei.Lk),s.aD[i]? =some x→x.1=C.bP.getD i 0
 lines:s.lines.length=C.lines.length
structure StI (C:bw) (s:KS):Prop where
 gS:∀a∈s.aR,nW C s.aD a
 reps:∀a∈s.aR,∃r,s.reps[a.rep]? =some r∧r.task=(a.j.t:Int)∧0≤r.start∧r.end_= -1∧r.fault=false
 nd:(s.aR.map (·.rep)).Nodup
 chain:s.aR.Pairwise fun u w=>(bS C u.j.t).pr>eT C s w
 held:∀(i:Nat) (x:LCei.Lk),s.aD[i]? =some x→x.2.2=true→∃a∈s.aR,x.2.1=(a.rep:Int)
 cr:depth C s.aR≤s.cr
def kM (x:nj):Bool:=decide (x.start≥0)&&decide (x.end_<0)
structure RpI (C:bw) (s:KS):Prop where
 task:∀x∈s.reps,0≤x.task∧x.task<C.tasks.length
 over:∀x∈s.reps,x.end_≥0→x.fault=iK (bS C x.task.toNat).fr (bS C x.task.toNat).ops 0 false
 count:(s.tr.filter fun x=>x.kind == 7).length=(s.reps.filter fun x=>x.fault).length
 live:(s.reps.filter kM).length=s.aR.length
 code:∀x∈s.tr,x.kind=7→x.code=11
 lock:∀x∈s.tr,x.kind=8→x.op=5∨x.op=6→x.code=0
structure Wf (C:bw) (P:List iO) (ex:Int) (s:KS):Prop where
 now:0≤s.now∧s.now≤1000
 Cj:pN s.ev
 ord:0≤s.ord∧∀x∈s.ev,x.o<s.ord
 yx:∀x∈s.ev,EvG C x.e
 pg:∀e∈P,EvG C e
 Fz:cM P+cM (s.ev.map (·.e))+iR s.ready≤12000
 nY:s.ord+(cM P+cM (s.ev.map (·.e)))≤12000
 reps:(s.reps.length:Int)≤iR s.ready
 tr:(s.tr.length:Int)≤iR s.ready+4*s.now+ex
 cN:a7z C s
 ob:ObI C s
 st:StI C s
 rp:RpI C s
section
variable {C:bw}{s:KS}{P:List iO}{ex:Int}
theorem Ck {e:iO}(h:IJ C e):1≤Fx e:=by
 unfold Fx
 split
 ·rename_i h5;exact (h.b h5).2.2.1
 ·omega
theorem uH:∀{l:List iO},(∀e∈l,IJ C e)→(l.length:Int)≤cM l
 |[],_=>by simp[cM]
 |e::l,h=>by
  have h1:=Ck (h e (by simp))
  have h2:=uH (l:=l) fun x hx=>h x (by simp[hx])
  unfold cM at h2 ⊢
  simp only[List.map_cons,List.sum_cons,List.length_cons]
  omega
theorem AD {l m:List iO}(h:l.Perm m):cM l=cM m:=by
 unfold cM
 induction h with
 |nil=>rfl
 |cons x _ ih=>simp only[List.map_cons,List.sum_cons,ih]
 |swap x y l=>simp only[List.map_cons,List.sum_cons];omega
 |trans _ _ h1 h2=>rw[h1,h2]
theorem uI (l:List PQ)(i:Nat)(y z:PQ)(h:l[i]? =some y):iR (l.set i z)=iR l-y.nx+z.nx:=by
 unfold iR
 induction l generalizing i with
 |nil=>simp at h
 |cons x l ih=>
  cases i with
  |zero=>
   simp only[List.getElem?_cons_zero,Option.some.injEq]at h
   subst h
   simp only[sz0,List.map_cons,List.sum_cons];omega
  |succ i=>
   rw[List.getElem?_cons_succ]at h
   simp only[sz1,List.map_cons,List.sum_cons,ih i h];omega
theorem qm:∀{l:List PQ},(∀y∈l,0≤y.nx)→0≤iR l
 |[],_=>by simp[iR]
 |y::l,h=>by
  have h1:=h y (by simp)
  have h2:=qm (l:=l) fun x hx=>h x (by simp[hx])
  unfold iR at h2 ⊢
  simp only[List.map_cons,List.sum_cons];omega
theorem a7A:∀{l:List PQ} {i:Nat} {y:PQ},(∀y∈l,0≤y.nx)→l[i]? =some y→y.nx≤iR l
 |[],i,y,_,h=>by simp at h
 |x::l,i,y,hn,h=>by
  have h1:=hn x (by simp)
  have h2:=qm (l:=l) fun x hx=>hn x (by simp[hx])
  cases i with
  |zero=>
   simp only[List.getElem?_cons_zero,Option.some.injEq]at h
   subst h
   unfold iR at h2 ⊢
   simp only[List.map_cons,List.sum_cons];omega
  |succ i=>
   rw[List.getElem?_cons_succ]at h
   have h3:=a7A (l:=l) (fun x hx=>hn x (by simp[hx])) h
   unfold iR at h3 ⊢
   simp only[List.map_cons,List.sum_cons];omega
theorem a7z.IW (h:a7z C s):∀y∈s.ready,0≤y.nx:=by
 intro y hy
 obtain⟨i,hi⟩:=List.getElem?_of_mem hy
 exact (h.at_ i y hi).2.1
theorem a7z.get (h:a7z C s){t:Nat}(ht:t<C.tasks.length):∃y,s.ready[t]? =some y:=⟨_,List.getElem?_eq_getElem (by rw[h.len];exact ht)⟩
theorem Wf.evP (h:Wf C P ex s):0≤cM P∧0≤cM (s.ev.map (·.e)):=by
 have h1:=uH (l:=P) fun e he=>(h.pg e he).ok
 have h2:=uH (l:=s.ev.map (·.e)) fun e he=>by
  obtain⟨x,hx,rfl⟩:=List.mem_map.1 he
  exact (h.yx x hx).ok
 omega
theorem Wf.yg (h:Wf C P ex s):0≤iR s.ready∧iR s.ready≤12000∧s.reps.length≤12000∧s.ev.length≤12000∧s.ord≤12000:=by
 have h0:=h.evP
 have h1:=qm h.cN.IW
 have h2:=h.Fz
 have h3:=h.reps
 have h4:=h.nY
 have h5:=uH (l:=s.ev.map (·.e)) fun e he=>by
  obtain⟨x,hx,rfl⟩:=List.mem_map.1 he
  exact (h.yx x hx).ok
 rw[List.length_map]at h5
 have h6:=h.ord.1
 omega
theorem Wf.e5c (h:Wf C P ex s)(hex:ex≤100){t:Nat}(ht:t<C.tasks.length):xw s t:=by
 obtain⟨f1,f2,f3,f4,f5⟩:=h.yg
 have h1:=h.tr
 have h2:=h.now
 obtain⟨y,hy⟩:=h.cN.get ht
 refine⟨by omega,by omega,y,hy,fun p hp hc=>?_⟩
 obtain⟨i,z,g1,g2,g3⟩:=h.cN.IV p hp
 have:i=t:=by omega
 subst this
 rw[hy]at g1
 cases g1
 omega
theorem Wf.e5d (hC:dE C)(h:Wf C P ex s)(hex:ex≤100):KP C s:=by
 obtain⟨f1,f2,f3,f4,f5⟩:=h.yg
 exact⟨fun t ht=>h.e5c hex ht,h.ob.lines,hC.of,by omega,⟨h.ord.1,by omega⟩⟩
end
end Go.Proofs.YtnpinhahjgbigaaGreatDoor
end
section
namespace Go.Proofs.YtnpinhahjgbigaaGreatDoor
open Go Go.Sb
section
variable {C:bw}{s:KS}{P:List iO}{ex:Int}
theorem iL {X:Type}{l:List X}{i j:Nat}{x y:X}(h:(l.set i x)[j]? =some y):(i=j∧y=x∧i<l.length)∨(i≠j∧l[j]? =some y):=by
 rw[List.getElem?_set]at h
 split at h
 ·rename_i he
  split at h
  ·rename_i hl
   cases h;exact .inl ⟨he,rfl,hl⟩
  ·cases h
 ·rename_i he
  exact .inr ⟨he,h⟩
theorem mV {X:Type}{l:List X}{i j:Nat}{y:X}(x:X)(h:l[j]? =some y):(l.set i x)[j]? =some (if i=j then x else y):=by
 have hl:=(List.getElem?_eq_some_iff.1 h).1
 rw[List.getElem?_set]
 by_cases he:i=j
 ·subst he;simp[hl]
 ·simp[he,h]
theorem KW {X:Type}{l m:List X}{j:Nat}{y:X}(h:l[j]? =some y):(l++m)[j]? =some y:=by
 rw[List.getElem?_append_left (List.getElem?_eq_some_iff.1 h).1];exact h
theorem IX (_hC:dE C)(h:Wf C P ex s){t:Nat}(ht:t<C.tasks.length)(hb:cM P+cM (s.ev.map (·.e))+iR s.ready+1≤12000):Wf C P ex (bO s t):=by
 obtain⟨y,hy⟩:=h.cN.get ht
 obtain⟨f1,f2,f3,f4,f5⟩:=h.yg
 obtain⟨y1,y2,y3,y4⟩:=h.cN.at_ t y hy
 have kv:=a7A h.cN.IW hy
 have hw:IntKind.i64.wrap (y.nx+1)=y.nx+1:=wrap64 _ (by omega)
 have sG:=h.now
 have f3h:=h.reps
 have qq:=h.tr
 unfold bO
 rw[hy]
 simp only
 by_cases hq:y.q.length=4
 ·rw[if_pos hq]
  have e:jV y t s.now=⟨y.pr,y.nx+1,y.q⟩:=by unfold jV;rw[hw,if_pos hq]
  rw[e]
  have hsum:iR (s.ready.set t ⟨y.pr,y.nx+1,y.q⟩)=iR s.ready+1:=by rw[uI _ _ _ _ hy];show iR s.ready-y.nx+(y.nx+1)=_;omega
  refine⟨h.now,h.Cj,h.ord,h.yx,h.pg,by show cM P+cM (s.ev.map (·.e))+iR (s.ready.set t _)≤12000;rw[hsum];omega,h.nY,by show (s.reps.length:Int)≤iR (s.ready.set t _);rw[hsum];omega,by show ((s.tr++[_]).length:Int)≤iR (s.ready.set t _)+4*s.now+ex;rw[hsum];simp;omega,?_,⟨h.ob.cache,h.ob.boxes,h.ob.groups,h.ob.counts,h.ob.aD,h.ob.lines⟩,⟨h.st.gS,h.st.reps,h.st.nd,h.st.chain,h.st.held,h.st.cr⟩,?_⟩
  ·refine⟨by show (s.ready.set t _).length=_;rw[List.length_set];exact h.cN.len,fun i z hz=>?_,fun i z hz=>?_,fun i z x hz hx=>?_,fun p hp=>?_,h.cN.KV,h.cN.Fy⟩
   ·rcases iL hz with ⟨rfl,rfl,_⟩|⟨_,hz⟩
    ·exact⟨y1,by show 0≤y.nx+1;omega,y3,fun x hx=>⟨(y4 x hx).1,by have:=(y4 x hx).2;show x.n<y.nx+1;omega⟩⟩
    ·exact h.cN.at_ i z hz
   ·rcases iL hz with ⟨rfl,rfl,_⟩|⟨_,hz⟩
    ·exact h.cN.qN t y hy
    ·exact h.cN.qN i z hz
   ·rcases iL hz with ⟨rfl,rfl,_⟩|⟨_,hz⟩
    ·exact h.cN.Ff t y x hy hx
    ·exact h.cN.Ff i z x hz hx
   ·obtain⟨i,z,g1,g2,g3⟩:=h.cN.IV p hp
    refine⟨i,_,mV _ g1,g2,?_⟩
    split
    ·rename_i he
     subst he
     rw[hy]at g1
     cases g1
     show p.1.n<y.nx+1;omega
    ·exact g3
  ·refine⟨h.rp.task,h.rp.over,?_,h.rp.live,fun x hx=>?_,fun x hx=>?_⟩
   ·show ((s.tr++[_]).filter _).length=_
    rw[List.filter_append,List.length_append,h.rp.count];rfl
   ·rcases List.mem_append.1 hx with hx|hx
    ·exact h.rp.code x hx
    ·rw[List.mem_singleton.1 hx];intro h;cases h
   ·rcases List.mem_append.1 hx with hx|hx
    ·exact h.rp.lock x hx
    ·rw[List.mem_singleton.1 hx];intro h;cases h
 ·rw[if_neg hq]
  have e:jV y t s.now=⟨y.pr,y.nx+1,y.q++[⟨t,y.nx,s.now⟩]⟩:=by unfold jV;rw[hw,if_neg hq]
  rw[e]
  have hsum:iR (s.ready.set t ⟨y.pr,y.nx+1,y.q++[⟨t,y.nx,s.now⟩]⟩)=iR s.ready+1:=by rw[uI _ _ _ _ hy];show iR s.ready-y.nx+(y.nx+1)=_;omega
  refine⟨h.now,h.Cj,h.ord,h.yx,h.pg,by show cM P+cM (s.ev.map (·.e))+iR (s.ready.set t _)≤12000;rw[hsum];omega,h.nY,by show ((s.reps++[_]).length:Int)≤iR (s.ready.set t _);rw[hsum];simp;omega,by show ((s.tr++[_]).length:Int)≤iR (s.ready.set t _)+4*s.now+ex;rw[hsum];simp;omega,?_,⟨h.ob.cache,h.ob.boxes,h.ob.groups,h.ob.counts,h.ob.aD,h.ob.lines⟩,⟨h.st.gS,fun a ha=>?_,h.st.nd,h.st.chain,h.st.held,h.st.cr⟩,?_⟩
  ·refine⟨by show (s.ready.set t _).length=_;rw[List.length_set];exact h.cN.len,fun i z hz=>?_,fun i z hz=>?_,fun i z x hz hx=>?_,fun p hp=>?_,?_,fun p hp=>?_⟩
   ·rcases iL hz with ⟨rfl,rfl,_⟩|⟨_,hz⟩
    ·refine⟨y1,by show 0≤y.nx+1;omega,by show (y.q++[_]).length≤4;simp;omega,fun x hx=>?_⟩
     rcases List.mem_append.1 hx with hx|hx
     ·exact⟨(y4 x hx).1,by have:=(y4 x hx).2;show x.n<y.nx+1;omega⟩
     ·rw[List.mem_singleton.1 hx];exact⟨rfl,by show y.nx<y.nx+1;omega⟩
    ·exact h.cN.at_ i z hz
   ·rcases iL hz with ⟨rfl,rfl,_⟩|⟨_,hz⟩
    ·show ((y.q++[_]).map _).Nodup
     rw[List.map_append,List.nodup_append]
     refine⟨h.cN.qN t y hy,by simp,fun a ha b hb hab=>?_⟩
     obtain⟨x,hx,rfl⟩:=List.mem_map.1 ha
     simp at hb
     have:=(y4 x hx).2
     omega
    ·exact h.cN.qN i z hz
   ·rcases iL hz with ⟨rfl,rfl,_⟩|⟨_,hz⟩
    ·rcases List.mem_append.1 hx with hx|hx
     ·obtain⟨p,hp,g⟩:=h.cN.Ff t y x hy hx
      exact⟨p,List.mem_append_left _ hp,g⟩
     ·rw[List.mem_singleton.1 hx]
      exact⟨_,List.mem_append_right _ (List.mem_singleton.2 rfl),rfl,rfl,rfl⟩
    ·obtain⟨p,hp,g⟩:=h.cN.Ff i z x hz hx
     exact⟨p,List.mem_append_left _ hp,g⟩
   ·rcases List.mem_append.1 hp with hp|hp
    ·obtain⟨i,z,g1,g2,g3⟩:=h.cN.IV p hp
     refine⟨i,_,mV _ g1,g2,?_⟩
     split
     ·rename_i he
      subst he
      rw[hy]at g1
      cases g1
      show p.1.n<y.nx+1;omega
     ·exact g3
    ·rw[List.mem_singleton.1 hp]
     refine⟨t,_,mV _ hy,rfl,?_⟩
     rw[if_pos rfl]
     show y.nx<y.nx+1;omega
   ·show ((s.pl++[_]).map _).Nodup
    rw[List.map_append,List.nodup_append]
    refine⟨h.cN.KV,by simp,fun a ha b hb hab=>?_⟩
    obtain⟨p,hp,rfl⟩:=List.mem_map.1 ha
    simp only[List.map_cons,List.map_nil,List.mem_singleton]at hb
    subst hb
    simp only[Prod.mk.injEq]at hab
    obtain⟨i,z,g1,g2,g3⟩:=h.cN.IV p hp
    have:i=t:=by omega
    subst this
    rw[hy]at g1
    cases g1
    omega
   ·rcases List.mem_append.1 hp with hp|hp
    ·obtain⟨r,g1,g⟩:=h.cN.Fy p hp
     exact⟨r,KW g1,g⟩
    ·rw[List.mem_singleton.1 hp]
     exact⟨⟨t,y.nx,s.now,-1,-1,false,0,0,0,0,-1⟩,by show (s.reps++[_])[s.reps.length]? =some _;simp,rfl,rfl,rfl,rfl,rfl⟩
  ·obtain⟨r,g1,g⟩:=h.st.reps a ha
   exact⟨r,KW g1,g⟩
  ·refine⟨fun x hx=>?_,fun x hx=>?_,?_,?_,fun x hx=>?_,fun x hx=>?_⟩
   ·rcases List.mem_append.1 hx with hx|hx
    ·exact h.rp.task x hx
    ·rw[List.mem_singleton.1 hx];exact⟨by show (0:Int)≤(t:Int);omega,by show (t:Int)<_;omega⟩
   ·rcases List.mem_append.1 hx with hx|hx
    ·exact h.rp.over x hx
    ·rw[List.mem_singleton.1 hx];intro h;exact absurd h (by show ¬(-1:Int)≥0;omega)
   ·show ((s.tr++[_]).filter _).length=((s.reps++[_]).filter _).length
    rw[List.filter_append,List.length_append,List.filter_append,List.length_append,h.rp.count];rfl
   ·show ((s.reps++[_]).filter _).length=_
    rw[List.filter_append,List.length_append,h.rp.live];rfl
   ·rcases List.mem_append.1 hx with hx|hx
    ·exact h.rp.code x hx
    ·rw[List.mem_singleton.1 hx];intro h;cases h
   ·rcases List.mem_append.1 hx with hx|hx
    ·exact h.rp.lock x hx
    ·rw[List.mem_singleton.1 hx];intro h;cases h
theorem gu (s:KS)(t:Nat):(bO s t).ev=s.ev∧(bO s t).ord=s.ord∧(bO s t).now=s.now∧(bO s t).lines=s.lines:=by
 unfold bO
 split
 ·exact⟨rfl,rfl,rfl,rfl⟩
 ·split<;>exact⟨rfl,rfl,rfl,rfl⟩
theorem Wf.lns (h:Wf C P ex s)(l:List (Bool×Bool))(hl:l.length=s.lines.length):Wf C P ex { s with lines:=l}:=
 ⟨h.now,h.Cj,h.ord,h.yx,h.pg,h.Fz,h.nY,h.reps,h.tr,⟨h.cN.len,h.cN.at_,h.cN.qN,h.cN.Ff,h.cN.IV,h.cN.KV,h.cN.Fy⟩,⟨h.ob.cache,h.ob.boxes,h.ob.groups,h.ob.counts,h.ob.aD,by rw[hl];exact h.ob.lines⟩,⟨h.st.gS,h.st.reps,h.st.nd,h.st.chain,h.st.held,h.st.cr⟩,⟨h.rp.task,h.rp.over,h.rp.count,h.rp.live,h.rp.code,h.rp.lock⟩⟩
theorem xB (l:List (Bool×Bool))(i:Int)(x:Bool×Bool):(LLin.kP l i x).length=l.length:=by unfold LLin.kP;split<;>simp
theorem Wf.tail {e:iO}(h:Wf C (e::P) ex s):Wf C P ex s∧cM P+cM (s.ev.map (·.e))+iR s.ready+Fx e≤12000∧s.ord+(cM P+cM (s.ev.map (·.e)))+Fx e≤12000:=by
 have hp:=Ck (h.pg e (by simp)).ok
 have h1:=h.Fz
 have h2:=h.nY
 have e1:cM (e::P)=Fx e+cM P:=by unfold cM;simp
 rw[e1]at h1 h2
 exact⟨⟨h.now,h.Cj,h.ord,h.yx,fun x hx=>h.pg x (by simp[hx]),by omega,by omega,h.reps,h.tr,h.cN,h.ob,h.st,h.rp⟩,by omega,by omega⟩
theorem a7B (h:Wf C P ex s){e:iO}(he:EvG C e)(hb:cM P+cM (s.ev.map (·.e))+iR s.ready+Fx e≤12000)(hb2:s.ord+(cM P+cM (s.ev.map (·.e)))+Fx e+1≤12000):Wf C P ex (a7i s e):=by
 have hp:=(gX (⟨e,s.ord⟩:dy) s.ev)
 have e1:cM ((oJ ⟨e,s.ord⟩ s.ev).map (·.e))=Fx e+cM (s.ev.map (·.e)):=by
  rw[AD (hp.map _)];unfold cM;simp
 refine⟨h.now,wx h.Cj h.ord.2,⟨by show 0≤s.ord+1;have:=h.ord.1;omega,fun x hx=>?_⟩,fun x hx=>?_,h.pg,by show cM P+cM ((oJ _ s.ev).map _)+iR s.ready≤12000;rw[e1];omega,by show s.ord+1+(cM P+cM ((oJ _ s.ev).map _))≤12000;rw[e1];omega,h.reps,h.tr,⟨h.cN.len,h.cN.at_,h.cN.qN,h.cN.Ff,h.cN.IV,h.cN.KV,h.cN.Fy⟩,⟨h.ob.cache,h.ob.boxes,h.ob.groups,h.ob.counts,h.ob.aD,h.ob.lines⟩,⟨h.st.gS,h.st.reps,h.st.nd,h.st.chain,h.st.held,h.st.cr⟩,⟨h.rp.task,h.rp.over,h.rp.count,h.rp.live,h.rp.code,h.rp.lock⟩⟩
 ·rcases List.mem_cons.1 (hp.mem_iff.1 hx) with rfl|hx
  ·show s.ord<s.ord+1;omega
  ·have:=h.ord.2 x hx;show x.o<s.ord+1;omega
 ·rcases List.mem_cons.1 (hp.mem_iff.1 hx) with rfl|hx
  ·exact he
  ·exact h.yx x hx
theorem xC (hC:dE C)(h:Wf C P ex s)(hb:cM P+cM (s.ev.map (·.e))+iR s.ready+1≤12000){z:Int}(hz:0≤z∧z<C.lines.length)(is:Bool):Wf C P ex (dV C s z is):=by
 unfold dV
 split
 ·refine IX hC h ?_ hb
  have hl:z.toNat<C.lines.length:=by omega
  have:=hC.of C.lines[z.toNat] (List.getElem_mem hl)
  have e:C.lines.getD z.toNat 0=C.lines[z.toNat]:=by rw[List.getD_eq_getElem?_getD,List.getElem?_eq_getElem hl];rfl
  rw[e];omega
 ·exact h
theorem Tt (hC:dE C){e:iO}(h:Wf C (e::P) ex s):Wf C P ex (dr C s e):=by
 have heg:=h.pg e (by simp)
 have he:=heg.ok
 have hpos:=Ck he
 obtain⟨h,hb,hb2⟩:=h.tail
 have ha:=he.a
 unfold dr
 by_cases h1:e.k=1
 ·rw[if_pos (by simp[h1])]
  exact IX hC h (by have:=he.task (.inl h1);omega) (by omega)
 rw[if_neg (by simp[h1])]
 by_cases h2:e.k=2
 ·rw[if_pos (by simp[h2])]
  exact xC hC (h.lns _ (xB _ _ _)) (by show cM P+cM (s.ev.map (·.e))+iR s.ready+1≤12000;omega) ⟨ha,he.line (.inl h2)⟩ _
 rw[if_neg (by simp[h2])]
 by_cases h3:e.k=3
 ·rw[if_pos (by simp[h3])]
  exact h.lns _ (xB _ _ _)
 rw[if_neg (by simp[h3])]
 by_cases h4:e.k=4
 ·rw[if_pos (by simp[h4])]
  exact xC hC (h.lns _ (xB _ _ _)) (by show cM P+cM (s.ev.map (·.e))+iR s.ready+1≤12000;omega) ⟨ha,he.line (.inr (.inr h4))⟩ _
 rw[if_neg (by simp[h4])]
 have h5:e.k=5:=by have:=he.k;omega
 rw[if_pos (by simp[h5])]
 have JL:=he.task (.inr h5)
 have hb5:=he.b h5
 have hew:Fx e=e.c:=by unfold Fx;rw[if_pos h5]
 have hr:=IX hC h (t:=e.a.toNat) (by omega) (by omega)
 split
 ·rename_i hcc
  obtain⟨k1,k2,k3,_⟩:=gu s e.a.toNat
  have d2d:=heg.lim
  rw[if_pos h5]at d2d
  have f3M:=hr.Fz
  have kv:iR (bO s e.a.toNat).ready≤iR s.ready+1:=by
   obtain⟨y,hy⟩:=h.cN.get (t:=e.a.toNat) (by omega)
   obtain⟨f1,f2,_⟩:=h.yg
   have kv:=a7A h.cN.IW hy
   have hy0:=(h.cN.at_ _ _ hy).2.1
   have hw:IntKind.i64.wrap (y.nx+1)=y.nx+1:=wrap64 _ (by omega)
   have hs:iR (s.ready.set e.a.toNat (jV y e.a.toNat s.now))=iR s.ready-y.nx+(jV y e.a.toNat s.now).nx:=uI _ _ _ _ hy
   have hn:(jV y e.a.toNat s.now).nx=y.nx+1:=by unfold jV;exact hw
   unfold bO
   rw[hy]
   simp only
   split
   ·show iR (s.ready.set _ _)≤_;rw[hs,hn];omega
   ·show iR (s.ready.set _ _)≤_;rw[hs,hn];omega
  have e5e:Fx ⟨e.t+e.b,e.k,e.a,e.b,e.c-1⟩=e.c-1:=by unfold Fx;rw[if_pos h5]
  have het:=he.t
  refine a7B hr ⟨⟨he.k,ha,he.task,he.line,⟨by show 0≤e.t+e.b;omega,?_⟩,fun _=>⟨hb5.1,hb5.2.1,by show 1≤e.c-1;omega,by show e.c-1≤256;omega⟩⟩,?_⟩ (by rw[k1,e5e];omega) (by rw[k1,k2,e5e];omega)
  ·show e.t+e.b≤1073741824
   have:(e.c-1)*1048576≤255*1048576:=Int.mul_le_mul_of_nonneg_right (by omega) (by omega)
   have:0≤(e.c-1)*1048576:=Int.mul_nonneg (by omega) (by omega)
   omega
  ·show e.t+e.b+(if e.k=5 then (e.c-1-1)*1048576 else 0)≤_
   rw[if_pos h5]
   have:(e.c-1-1)*1048576=(e.c-1)*1048576-1048576:=by omega
   omega
 ·exact hr
end
end Go.Proofs.YtnpinhahjgbigaaGreatDoor
end
section
namespace Go.Proofs.YtnpinhahjgbigaaGreatDoor
open Go Go.Sb
section
variable {C:bw}{s:KS}{P:List iO}{ex:Int}{a a':dD}{l:List dD}
theorem IY (C:bw)(s:KS)(e:iO):(dr C s e).now=s.now:=by
 have hd:∀(s:KS) (z:Int) (b:Bool),(dV C s z b).now=s.now:=by
  intro s z b;unfold dV;split
  ·exact (gu _ _).2.2.1
  ·rfl
 unfold dr
 by_cases h1:(e.k == 1)=true
 ·rw[if_pos h1];exact (gu _ _).2.2.1
 rw[if_neg h1]
 by_cases h2:(e.k == 2)=true
 ·rw[if_pos h2];exact hd _ _ _
 rw[if_neg h2]
 by_cases h3:(e.k == 3)=true
 ·rw[if_pos h3]
 rw[if_neg h3]
 by_cases h4:(e.k == 4)=true
 ·rw[if_pos h4];exact hd _ _ _
 rw[if_neg h4]
 by_cases h5:(e.k == 5)=true
 ·rw[if_pos h5]
  split
  ·exact (gu _ _).2.2.1
  ·exact (gu _ _).2.2.1
 rw[if_neg h5]
theorem Fg {e:iO}(he:IJ C e)(ht:s.now≤e.t)(h:∀x∈s.ev,s.now<x.e.t):∀x∈(dr C s e).ev,s.now<x.e.t:=by
 have hd:∀(s:KS) (z:Int) (b:Bool),(dV C s z b).ev=s.ev:=by
  intro s z b;unfold dV;split
  ·exact (gu _ _).1
  ·rfl
 unfold dr
 by_cases h1:(e.k == 1)=true
 ·rw[if_pos h1,(gu _ _).1];exact h
 rw[if_neg h1]
 by_cases h2:(e.k == 2)=true
 ·rw[if_pos h2,hd];exact h
 rw[if_neg h2]
 by_cases h3:(e.k == 3)=true
 ·rw[if_pos h3];exact h
 rw[if_neg h3]
 by_cases h4:(e.k == 4)=true
 ·rw[if_pos h4,hd];exact h
 rw[if_neg h4]
 by_cases h5:(e.k == 5)=true
 ·rw[if_pos h5]
  have hb:=he.b (by simpa using h5)
  split
  ·intro x hx
   rcases List.mem_cons.1 ((gX _ _).mem_iff.1 hx) with rfl|hx
   ·show s.now<e.t+e.b;omega
   ·rw[(gu _ _).1]at hx;exact h x hx
  ·rw[(gu _ _).1];exact h
 rw[if_neg h5];exact h
theorem a7C (hC:dE C)(hex:ex≤100):∀(P:List iO) (s:KS),Wf C P ex s→(∀e∈P,s.now≤e.t)→(∀x∈s.ev,s.now<x.e.t)→
  E8 C P s∧Wf C [] ex (P.foldl (dr C) s)∧(P.foldl (dr C) s).now=s.now∧(P.foldl (dr C) s).aR=s.aR∧∀x∈(P.foldl (dr C) s).ev,s.now<x.e.t
 |[],s,h,_,hl=>⟨trivial,h,rfl,rfl,hl⟩
 |e::P,s,h,ht,hl=>by
  have he:=(h.pg e (by simp)).ok
  have hn:=IY C s e
  obtain⟨g1,g2,g3,g4,g5⟩:=a7C hC hex P (dr C s e) (Tt hC h) (fun x hx=>by rw[hn];exact ht x (by simp[hx])) (by rw[hn];exact Fg he (ht e (by simp)) hl)
  rw[hn]at g3 g5
  rw[tK]at g4
  exact⟨⟨h.e5d hC hex,he,g1⟩,g2,g3,g4,g5⟩
theorem AE {t:Int}:∀{l:List dy},pN l→∀x∈l.dropWhile (fun x=>decide (x.e.t≤t)),t<x.e.t
 |[],_,x,hx=>by simp at hx
 |y::l,h,x,hx=>by
  by_cases hy:y.e.t≤t
  ·rw[List.dropWhile_cons_of_pos (by simpa using hy)]at hx
   exact AE h.tail x hx
  ·rw[List.dropWhile_cons_of_neg (by simpa using hy)]at hx
   rcases List.mem_cons.1 hx with rfl|hx
   ·omega
   ·have:=h.head x hx
    rw[dy.lt_iff]at this
    omega
theorem d2M (hC:dE C)(hex:ex≤100)(h:Wf C [] ex s)(hn:∀x∈s.ev,s.now≤x.e.t):
  E8 C ((s.ev.takeWhile fun x=>decide (x.e.t≤s.now)).map (·.e)) { s with ev:=s.ev.dropWhile fun x=>decide (x.e.t≤s.now)}∧Wf C [] ex (eS C s)∧(eS C s).now=s.now∧(eS C s).aR=s.aR∧∀x∈(eS C s).ev,s.now<x.e.t:=by
 have hsp:(s.ev.takeWhile fun x=>decide (x.e.t≤s.now))++(s.ev.dropWhile fun x=>decide (x.e.t≤s.now))=s.ev:=List.takeWhile_append_dropWhile
 have aH:cM ((s.ev.takeWhile fun x=>decide (x.e.t≤s.now)).map (·.e))+cM ((s.ev.dropWhile fun x=>decide (x.e.t≤s.now)).map (·.e))=cM (s.ev.map (·.e)):=by
  conv=>rhs;rw[←hsp]
  unfold cM
  rw[List.map_append,List.map_append,List.sum_append]
 have h0:cM ([]:List iO)=0:=rfl
 have hb1:=h.Fz
 have hb2:=h.nY
 rw[h0]at hb1 hb2
 have hdm:∀x∈s.ev.dropWhile (fun x=>decide (x.e.t≤s.now)),x∈s.ev:=fun x hx=>(List.dropWhile_sublist _).subset hx
 have htm:∀x∈s.ev.takeWhile (fun x=>decide (x.e.t≤s.now)),x∈s.ev:=fun x hx=>(List.takeWhile_sublist _).subset hx
 refine a7C hC hex _ { s with ev:=s.ev.dropWhile fun x=>decide (x.e.t≤s.now)} ⟨h.now,?_,⟨h.ord.1,fun x hx=>h.ord.2 x (hdm x hx)⟩,fun x hx=>h.yx x (hdm x hx),fun e he=>?_,?_,?_,h.reps,h.tr,⟨h.cN.len,h.cN.at_,h.cN.qN,h.cN.Ff,h.cN.IV,h.cN.KV,h.cN.Fy⟩,⟨h.ob.cache,h.ob.boxes,h.ob.groups,h.ob.counts,h.ob.aD,h.ob.lines⟩,⟨h.st.gS,h.st.reps,h.st.nd,h.st.chain,h.st.held,h.st.cr⟩,⟨h.rp.task,h.rp.over,h.rp.count,h.rp.live,h.rp.code,h.rp.lock⟩⟩ (fun e he=>?_) (AE h.Cj)
 ·exact h.Cj.sublist (List.dropWhile_sublist _)
 ·obtain⟨x,hx,rfl⟩:=List.mem_map.1 he
  exact h.yx x (htm x hx)
 ·show cM _+cM ((s.ev.dropWhile _).map _)+iR s.ready≤12000
  rw[aH];omega
 ·show s.ord+(cM _+cM ((s.ev.dropWhile _).map _))≤12000
  rw[aH];omega
 ·obtain⟨x,hx,rfl⟩:=List.mem_map.1 he
  exact hn x (htm x hx)
theorem dF {X:Type}(p:X→Bool):∀(l:List X) (n:Nat) (x y:X),l[n]? =some x→((l.set n y).filter p).length+(if p x then 1 else 0)=(l.filter p).length+(if p y then 1 else 0)
 |[],n,x,y,h=>by simp at h
 |z::l,0,x,y,h=>by
  simp only[List.getElem?_cons_zero,Option.some.injEq]at h
  subst h
  rw[sz0,List.filter_cons,List.filter_cons]
  cases p z<;>cases p y<;>simp
 |z::l,n+1,x,y,h=>by
  rw[List.getElem?_cons_succ]at h
  have ih:=dF p l n x y h
  rw[sz1,List.filter_cons,List.filter_cons]
  cases p z
  ·exact ih
  ·simp only[if_true,List.length_cons];omega
theorem Cl (h:Wf C P ex s){k at_ op code val:Int}{rep:Nat}(hk:k≠7)(hc:k=8→op=5∨op=6→code=0):Wf C P (ex+1) (cV s k at_ rep op code val):=by
 have qq:=h.tr
 unfold cV
 split
 ·rename_i x hx
  refine⟨h.now,h.Cj,h.ord,h.yx,h.pg,h.Fz,h.nY,h.reps,by show ((s.tr++[_]).length:Int)≤iR s.ready+4*s.now+(ex+1);simp;omega,⟨h.cN.len,h.cN.at_,h.cN.qN,h.cN.Ff,h.cN.IV,h.cN.KV,h.cN.Fy⟩,⟨h.ob.cache,h.ob.boxes,h.ob.groups,h.ob.counts,h.ob.aD,h.ob.lines⟩,⟨h.st.gS,h.st.reps,h.st.nd,h.st.chain,h.st.held,h.st.cr⟩,⟨h.rp.task,h.rp.over,?_,h.rp.live,fun x hx=>?_,fun x hx=>?_⟩⟩
  ·show ((s.tr++[_]).filter _).length=_
   rw[List.filter_append,List.length_append,h.rp.count]
   have:((k == 7)=true)=False:=by simp[hk]
   simp[hk]
  ·rcases List.mem_append.1 hx with hx|hx
   ·exact h.rp.code x hx
   ·rw[List.mem_singleton.1 hx];intro h7;exact absurd h7 hk
  ·rcases List.mem_append.1 hx with hx|hx
   ·exact h.rp.lock x hx
   ·rw[List.mem_singleton.1 hx];exact hc
 ·exact⟨h.now,h.Cj,h.ord,h.yx,h.pg,h.Fz,h.nY,h.reps,by omega,h.cN,h.ob,h.st,h.rp⟩
theorem IZ (h:Wf C P ex s){n:Nat}{r r':nj}(hr:s.reps[n]? =some r)(h1:r'.task=r.task)(h2:r'.TR=r.TR)(h3:r'.start=r.start)(h4:r'.end_=r.end_)(h5:r'.fault=r.fault):Wf C P ex { s with reps:=s.reps.set n r'}:=by
 have hg:∀(k:Nat) (x:nj),s.reps[k]? =some x→∃y,(s.reps.set n r')[k]? =some y∧y.task=x.task∧y.TR=x.TR∧y.start=x.start∧y.end_=x.end_∧y.fault=x.fault:=by
  intro k x hx
  refine⟨_,mV r' hx,?_⟩
  split
  ·rename_i he
   subst he
   rw[hr]at hx
   cases hx
   exact⟨h1,h2,h3,h4,h5⟩
  ·exact⟨rfl,rfl,rfl,rfl,rfl⟩
 have hm:∀x∈s.reps.set n r',x=r'∨x∈s.reps:=fun x hx=>by
  rcases List.mem_or_eq_of_mem_set hx with h|h
  ·exact .inr h
  ·exact .inl h
 have hrm:=List.mem_of_getElem? hr
 refine⟨h.now,h.Cj,h.ord,h.yx,h.pg,h.Fz,h.nY,by show ((s.reps.set n r').length:Int)≤_;rw[List.length_set];exact h.reps,h.tr,⟨h.cN.len,h.cN.at_,h.cN.qN,h.cN.Ff,h.cN.IV,h.cN.KV,fun p hp=>?_⟩,⟨h.ob.cache,h.ob.boxes,h.ob.groups,h.ob.counts,h.ob.aD,h.ob.lines⟩,⟨h.st.gS,fun a ha=>?_,h.st.nd,h.st.chain,h.st.held,h.st.cr⟩,⟨fun x hx=>?_,fun x hx=>?_,?_,?_,h.rp.code,h.rp.lock⟩⟩
 ·obtain⟨x,g,g1,g2,g3,g4,g5⟩:=h.cN.Fy p hp
  obtain⟨y,k,k1,k2,k3,k4,k5⟩:=hg _ x g
  exact⟨y,k,by rw[k1,g1],by rw[k2,g2],by rw[k3,g3],by rw[k4,g4],by rw[k5,g5]⟩
 ·obtain⟨x,g,g1,g3,g4,g5⟩:=h.st.reps a ha
  obtain⟨y,k,k1,k2,k3,k4,k5⟩:=hg _ x g
  exact⟨y,k,by rw[k1,g1],by rw[k3];exact g3,by rw[k4,g4],by rw[k5,g5]⟩
 ·rcases hm x hx with rfl|hx
  ·rw[h1];exact h.rp.task r hrm
  ·exact h.rp.task x hx
 ·rcases hm x hx with rfl|hx
  ·rw[h1,h4,h5];exact h.rp.over r hrm
  ·exact h.rp.over x hx
 ·have:=dF (fun x:nj=>x.fault) s.reps n r r' hr
  show _=((s.reps.set n r').filter _).length
  rw[h.rp.count]
  rw[h5]at this
  omega
 ·have:=dF kM s.reps n r r' hr
  have e:kM r'=kM r:=by unfold kM;rw[h3,h4]
  rw[e]at this
  show ((s.reps.set n r').filter _).length=_
  rw[←h.rp.live]
  omega
theorem rC (h:Wf C P ex s)(hl:s.aR=a::l)(hr:a'.rep=a.rep)(ht:a'.j.t=a.j.t)(hj:nW C s.aD a'):Wf C P ex { s with aR:=a'::l}:=by
 have hst:=h.st
 have FQ:=hst.gS
 have hr0:=hst.reps
 have AY:=hst.nd
 have hc0:=hst.chain
 have hh0:=hst.held
 have ri:=hst.cr
 rw[hl]at FQ hr0 AY hc0 hh0 ri
 refine⟨h.now,h.Cj,h.ord,h.yx,h.pg,h.Fz,h.nY,h.reps,h.tr,⟨h.cN.len,h.cN.at_,h.cN.qN,h.cN.Ff,h.cN.IV,h.cN.KV,h.cN.Fy⟩,⟨h.ob.cache,h.ob.boxes,h.ob.groups,h.ob.counts,h.ob.aD,h.ob.lines⟩,⟨fun b hb=>?_,fun b hb=>?_,?_,?_,fun i x hx hh=>?_,?_⟩,⟨h.rp.task,h.rp.over,h.rp.count,?_,h.rp.code,h.rp.lock⟩⟩
 ·rcases List.mem_cons.1 hb with rfl|hb
  ·exact hj
  ·exact FQ b (by simp[hb])
 ·rcases List.mem_cons.1 hb with rfl|hb
  ·rw[hr,ht];exact hr0 a (by simp)
  ·exact hr0 b (by simp[hb])
 ·show ((a'::l).map _).Nodup
  rw[List.map_cons,hr];exact AY
 ·refine List.pairwise_cons.2 ⟨fun b hb=>?_,(List.pairwise_cons.1 hc0).2⟩
  rw[ht]
  exact (List.pairwise_cons.1 hc0).1 b hb
 ·obtain⟨b,hb,e⟩:=hh0 i x hx hh
  rcases List.mem_cons.1 hb with rfl|hb
  ·exact⟨a',by simp,by rw[hr];exact e⟩
  ·exact⟨b,by simp[hb],e⟩
 ·show LFrame.du (iJ C (a'::l))≤s.cr
  rw[ry C l hr ht];exact ri
 ·show _=(a'::l).length
  rw[h.rp.live,hl];rfl
end
end Go.Proofs.YtnpinhahjgbigaaGreatDoor
end
section
namespace Go.Proofs.YtnpinhahjgbigaaGreatDoor
open Go Go.Sb
section
variable {C:bw}{s:KS}{P:List iO}{ex:Int}{a a':dD}{l:List dD}
theorem sH {x:cA}:∀{pl:List (cA×Nat)},(∃p∈pl,p.1.t=x.t∧p.1.n=x.n∧p.1.a=x.a)→∃p∈pl,(p.1.t=x.t∧p.1.n=x.n∧p.1.a=x.a)∧jC x pl=p.2
 |[],h=>by obtain⟨p,hp,_⟩:=h;simp at hp
 |q::pl,h=>by
  unfold jC
  by_cases hq:q.1.t=x.t∧q.1.n=x.n∧q.1.a=x.a
  ·rw[if_pos hq];exact⟨q,by simp,hq,rfl⟩
  ·rw[if_neg hq]
   obtain⟨p,hp,hm⟩:=h
   rcases List.mem_cons.1 hp with rfl|hp
   ·exact absurd hm hq
   ·obtain⟨p',h1,h2,h3⟩:=sH (pl:=pl) ⟨p,hp,hm⟩
    exact⟨p',by simp[h1],h2,h3⟩
theorem mo (x:cA):∀(pl:List (cA×Nat)),(g8 x pl).Sublist pl
 |[]=>.slnil
 |q::pl=>by
  unfold g8
  split
  ·exact List.sublist_cons_self _ _
  ·exact (mo x pl).cons_cons q
theorem xD {x:cA}{p:cA×Nat}:∀{pl:List (cA×Nat)},p∈pl→¬(p.1.t=x.t∧p.1.n=x.n∧p.1.a=x.a)→p∈g8 x pl
 |[],h,_=>by simp at h
 |q::pl,h,hn=>by
  unfold g8
  split
  ·rename_i hq
   rcases List.mem_cons.1 h with rfl|h
   ·exact absurd hq hn
   ·exact h
  ·rcases List.mem_cons.1 h with rfl|h
   ·simp
   ·exact List.mem_cons_of_mem _ (xD h hn)
theorem Fh {x:cA}:∀{pl:List (cA×Nat)},(pl.map fun p=>(p.1.t,p.1.n)).Nodup→(∃p∈pl,p.1.t=x.t∧p.1.n=x.n∧p.1.a=x.a)→∀p∈g8 x pl,¬(p.1.t=x.t∧p.1.n=x.n)
 |[],_,h,p,hp=>by simp[g8]at hp
 |q::pl,hn,h,p,hp=>by
  rw[List.map_cons,List.nodup_cons]at hn
  unfold g8 at hp
  split at hp
  ·rename_i hq
   intro hc
   exact hn.1 (by rw[hq.1,hq.2.1,←hc.1,←hc.2];exact List.mem_map_of_mem (f:=fun p:cA×Nat=>(p.1.t,p.1.n)) hp)
  ·rename_i hq
   obtain⟨p0,h0,hm⟩:=h
   have h0':p0∈pl:=by
    rcases List.mem_cons.1 h0 with rfl|h0
    ·exact absurd hm hq
    ·exact h0
   rcases List.mem_cons.1 hp with rfl|hp
   ·intro hc
    exact hn.1 (by rw[hc.1,hc.2,←hm.1,←hm.2.1];exact List.mem_map_of_mem (f:=fun p:cA×Nat=>(p.1.t,p.1.n)) h0')
   ·exact Fh hn.2 ⟨p0,h0',hm⟩ p hp
theorem Cm (L:List LCei.Lk):∀(js:List Nat) (b:Int),b≤LCei.nJ L b js
 |[],b=>Int.le_refl _
 |j::js,b=>by
  show b≤LCei.nJ L _ js
  refine Int.le_trans ?_ (Cm L js _)
  dsimp only
  split
  ·split<;>omega
  ·exact Int.le_refl _
theorem Fi (L:List LCei.Lk):∀(js:List Nat) (b:Int) (j:Nat) (x:LCei.Lk),j∈js→L[j]? =some x→x.1≤LCei.nJ L b js
 |[],b,j,x,h,_=>by simp at h
 |i::js,b,j,x,h,hx=>by
  show x.1≤LCei.nJ L _ js
  rcases List.mem_cons.1 h with rfl|h
  ·refine Int.le_trans ?_ (Cm L js _)
   dsimp only
   rw[hx]
   dsimp only
   split<;>omega
  ·exact Fi L js _ j x h hx
theorem AF (hC:dE C)(ht:a.j.t<C.tasks.length):(bS C a.j.t).pr≤eT C s a:=by
 have h:=(hC.task _ ht)
 have h1:=h.th
 have h2:=h.pr
 unfold eT
 split
 ·omega
 ·have:=Cm s.aD (LCei.bL s.aD a.rep s.aD.length) (bS C a.j.t).th
  omega
theorem Fj (hC:dE C)(h:Wf C P ex s){i:Nat}{x:LCei.Lk}(hx:s.aD[i]? =some x)(hh:x.2.2=true)(hr:x.2.1=(a.rep:Int)):x.1≤eT C s a∨64≤eT C s a:=by
 unfold eT
 split
 ·exact .inr (by omega)
 ·refine .inl (Fi s.aD _ _ i x ?_ hx)
  have hl:=(List.getElem?_eq_some_iff.1 hx).1
  unfold LCei.bL
  refine List.mem_filter.2 ⟨List.mem_range.2 hl,?_⟩
  unfold LCei.holds
  rw[hx]
  simp[hh,hr]
theorem I0 (hC:dE C)(h:Wf C P ex s):s.aR.length≤64:=by
 have key:∀(l:List dD) (b:Int),(∀x∈l,x.j.t<C.tasks.length∧(bS C x.j.t).pr≤b)→-1≤b→l.Pairwise (fun u w=>(bS C u.j.t).pr>eT C s w)→(l.length:Int)≤b+1:=by
  intro l
  induction l with
  |nil=>intro b _ hb _;simp;omega
  |cons x l ih=>
   intro b hx hb hp
   have hx1:=hx x (by simp)
   have hpr:=(hC.task _ hx1.1).pr
   have:=ih ((bS C x.j.t).pr-1) (fun y hy=>by
    have hy1:=hx y (by simp[hy])
    have h1:=(List.pairwise_cons.1 hp).1 y hy
    have h2:=AF (s:=s) hC hy1.1
    exact⟨hy1.1,by omega⟩) (by omega) (List.pairwise_cons.1 hp).2
   simp only[List.length_cons]
   omega
 have:=key s.aR 63 (fun x hx=>⟨(h.st.gS x hx).t,by have:=(hC.task _ (h.st.gS x hx).t).pr;omega⟩) (by omega) h.st.chain
 omega
theorem Wf.e5f (hC:dE C)(h:Wf C P ex s)(hex:ex≤100):Tk C s:=by
 obtain⟨f1,f2,f3,f4,f5⟩:=h.yg
 have h1:=h.tr
 have h2:=h.now
 have hsl:=I0 hC h
 refine⟨fun i j y z hi hj he=>?_,h.cN.len,fun i y hy=>(h.cN.at_ i y hy).1,fun i y x q hy hq=>?_,fun i hi=>(hC.task i hi).fr,⟨?_,fun x hx=>?_⟩,by omega,h.st.cr,h.ob.cache,by omega⟩
 ·have e1:=(h.cN.at_ i y hi).1
  have e2:=(h.cN.at_ j z hj).1
  have li:=(List.getElem?_eq_some_iff.1 hi).1
  have lj:=(List.getElem?_eq_some_iff.1 hj).1
  rw[h.cN.len]at li lj
  exact hC.inj i j li lj (by omega)
 ·have hx:x∈y.q:=by rw[hq];simp
  have hp:=h.cN.Ff i y x hy hx
  refine⟨((h.cN.at_ i y hy).2.2.2 x hx).1,hp,?_⟩
  obtain⟨p,p1,p2,p3⟩:=sH hp
  obtain⟨r,g,_⟩:=h.cN.Fy p p1
  rw[p3]
  exact (List.getElem?_eq_some_iff.1 g).1
 ·unfold iJ;rw[List.length_map,List.length_reverse];omega
 ·unfold iJ at hx
  obtain⟨b,hb,rfl⟩:=List.mem_map.1 hx
  exact (hC.task _ (h.st.gS b (List.mem_reverse.1 hb)).t).fr
theorem Fk (hC:dE C)(h:Wf C P ex s)(Jc:∀i,o6 s.ready=some i→∀b∈s.aR,(bS C i).pr>eT C s b):Wf C P (ex+1) (eU C s)∧(eU C s).ev=s.ev∧(eU C s).now=s.now:=by
 have qq:=h.tr
 have d2N:Wf C P (ex+1) s:=⟨h.now,h.Cj,h.ord,h.yx,h.pg,h.Fz,h.nY,h.reps,by omega,h.cN,h.ob,h.st,h.rp⟩
 unfold eU
 split
 ·exact⟨d2N,rfl,rfl⟩
 ·rename_i i hpk
  split
  ·exact⟨d2N,rfl,rfl⟩
  ·rename_i y hy
   split
   ·exact⟨d2N,rfl,rfl⟩
   ·rename_i x q hq
    have hil:i<C.tasks.length:=by rw[←h.cN.len];exact (List.getElem?_eq_some_iff.1 hy).1
    obtain⟨y1,y2,y3,y4⟩:=h.cN.at_ i y hy
    have hxm:x∈y.q:=by rw[hq];simp
    obtain⟨K1,TA⟩:=y4 x hxm
    have hpm:=h.cN.Ff i y x hy hxm
    obtain⟨p0,p1,p2,p3⟩:=sH hpm
    obtain⟨r,g,g1,g2,g3,g4,g5⟩:=h.cN.Fy p0 p1
    rw[p3]
    have hqN:=h.cN.qN i y hy
    rw[hq,List.map_cons,List.nodup_cons]at hqN
    rw[dY s.reps p0.2 _ g]
    have Ud:∀b∈s.aR,b.rep≠p0.2:=by
     intro b hb he
     obtain⟨r',k,_,k2,_⟩:=h.st.reps b hb
     rw[he,g]at k
     cases k
     omega
    have hfree:∀k,LCei.holds s.aD p0.2 k=false:=by
     intro k
     cases hk:LCei.holds s.aD p0.2 k
     ·rfl
     ·exfalso
      unfold LCei.holds at hk
      split at hk
      ·rename_i z hz
       simp only[Bool.and_eq_true,beq_iff_eq]at hk
       obtain⟨b,hb,e⟩:=h.st.held k z hz hk.1
       exact Ud b hb (by omega)
      ·cases hk
    have d2O:∀p∈g8 x s.pl,p.2≠p0.2:=by
     intro p hp he
     obtain⟨r',k,k1,k2,_⟩:=h.cN.Fy p ((mo x s.pl).subset hp)
     rw[he,g]at k
     cases k
     exact Fh h.cN.KV hpm p hp ⟨by rw[←k1,g1,p2.1],by rw[←k2,g2,p2.2.1]⟩
    have hsum:iR (s.ready.set i ⟨y.pr,y.nx,q⟩)=iR s.ready:=by rw[uI _ _ _ _ hy];show iR s.ready-y.nx+y.nx=_;omega
    have hjn:=a7y (L:=s.aD) hC (rep:=p0.2) hil hfree
    have sG:=h.now
    have hm:∀z∈s.reps.set p0.2 { r with start:=s.now,base:=depth C s.aR},z={ r with start:=s.now,base:=depth C s.aR}∨z∈s.reps:=fun z hz=>by
     rcases List.mem_or_eq_of_mem_set hz with h|h
     ·exact .inr h
     ·exact .inl h
    have hrm:=List.mem_of_getElem? g
    have hw:Wf C P ex { s with ready:=s.ready.set i ⟨y.pr,y.nx,q⟩,pl:=g8 x s.pl,cr:=max s.cr (depth C s.aR+(bS C i).fr),reps:=s.reps.set p0.2 { r with start:=s.now,base:=depth C s.aR},aR:=⟨iI C i,p0.2,false⟩::s.aR}:=by
     refine⟨h.now,h.Cj,h.ord,h.yx,h.pg,by show cM P+cM (s.ev.map (·.e))+iR (s.ready.set i _)≤12000;rw[hsum];exact h.Fz,h.nY,by show ((s.reps.set _ _).length:Int)≤iR (s.ready.set i _);rw[hsum,List.length_set];exact h.reps,by show (s.tr.length:Int)≤iR (s.ready.set i _)+4*s.now+ex;rw[hsum];exact h.tr,⟨by show (s.ready.set _ _).length=_;rw[List.length_set];exact h.cN.len,fun j z hz=>?_,fun j z hz=>?_,fun j z x' hz hx'=>?_,fun p hp=>?_,?_,fun p hp=>?_⟩,⟨h.ob.cache,h.ob.boxes,h.ob.groups,h.ob.counts,h.ob.aD,h.ob.lines⟩,⟨fun b hb=>?_,fun b hb=>?_,?_,?_,fun k z hz hh=>?_,?_⟩,⟨fun z hz=>?_,fun z hz=>?_,?_,?_,h.rp.code,h.rp.lock⟩⟩
     ·rcases iL hz with ⟨rfl,rfl,_⟩|⟨_,hz⟩
      ·refine⟨y1,y2,?_,fun x' hx'=>y4 x' (by rw[hq];simp[hx'])⟩
       rw[hq]at y3;simp at y3;show q.length≤4;omega
      ·exact h.cN.at_ j z hz
     ·rcases iL hz with ⟨rfl,rfl,_⟩|⟨_,hz⟩
      ·exact hqN.2
      ·exact h.cN.qN j z hz
     ·have Ub:∃z',s.ready[j]? =some z'∧x'∈z'.q∧¬(x'.t=x.t∧x'.n=x.n):=by
       rcases iL hz with ⟨rfl,rfl,_⟩|⟨hne,hz⟩
       ·refine⟨y,hy,by rw[hq];simp only[List.mem_cons];exact .inr hx',fun hc=>hqN.1 (by rw[←hc.2];exact List.mem_map_of_mem hx')⟩
       ·refine⟨z,hz,hx',fun hc=>?_⟩
        have:=((h.cN.at_ j z hz).2.2.2 x' hx').1
        omega
      obtain⟨z',m1,m2,m3⟩:=Ub
      obtain⟨p,q1,q2⟩:=h.cN.Ff j z' x' m1 m2
      exact⟨p,xD q1 (fun hc=>m3 ⟨by rw[←q2.1,hc.1],by rw[←q2.2.1,hc.2.1]⟩),q2⟩
     ·obtain⟨j,z,k1,k2,k3⟩:=h.cN.IV p ((mo x s.pl).subset hp)
      refine⟨j,_,mV _ k1,k2,?_⟩
      split
      ·rename_i he
       subst he
       rw[hy]at k1
       cases k1
       exact k3
      ·exact k3
     ·exact h.cN.KV.sublist ((mo x s.pl).map _)
     ·obtain⟨r',k,k'⟩:=h.cN.Fy p ((mo x s.pl).subset hp)
      refine⟨r',?_,k'⟩
      show (s.reps.set _ _)[p.2]? =_
      rw[List.getElem?_set_ne (Ne.symm (d2O p hp))];exact k
     ·rcases List.mem_cons.1 hb with rfl|hb
      ·exact hjn
      ·exact h.st.gS b hb
     ·rcases List.mem_cons.1 hb with rfl|hb
      ·refine⟨_,mV _ g,?_⟩
       rw[if_pos rfl]
       exact⟨by show r.task=(i:Int);rw[g1,p2.1,K1],sG.1,g4,g5⟩
      ·obtain⟨r',k,k'⟩:=h.st.reps b hb
       refine⟨r',?_,k'⟩
       show (s.reps.set _ _)[b.rep]? =_
       rw[List.getElem?_set_ne (Ne.symm (Ud b hb))];exact k
     ·show ((_::s.aR).map _).Nodup
      rw[List.map_cons,List.nodup_cons]
      refine⟨fun hc=>?_,h.st.nd⟩
      obtain⟨b,hb,he⟩:=List.mem_map.1 hc
      exact Ud b hb he
     ·exact List.pairwise_cons.2 ⟨fun b hb=>Jc i hpk b hb,h.st.chain⟩
     ·obtain⟨b,hb,e⟩:=h.st.held k z hz hh
      exact⟨b,List.mem_cons_of_mem _ hb,e⟩
     ·show LFrame.du (iJ C (_::s.aR))≤max s.cr (depth C s.aR+(bS C i).fr)
      rw[kJ,LFrame.Ei]
      have:LFrame.du [((p0.2:Int),(bS C (iI C i).t).fr)]=(bS C i).fr:=by unfold LFrame.du;simp;rfl
      rw[this]
      exact Int.le_max_right _ _
     ·rcases hm z hz with rfl|hz
      ·exact h.rp.task r hrm
      ·exact h.rp.task z hz
     ·rcases hm z hz with rfl|hz
      ·exact h.rp.over r hrm
      ·exact h.rp.over z hz
     ·have:=dF (fun x:nj=>x.fault) s.reps p0.2 r { r with start:=s.now,base:=depth C s.aR} g
      show _=((s.reps.set _ _).filter _).length
      rw[h.rp.count]
      simp only at this
      omega
     ·have:=dF kM s.reps p0.2 r { r with start:=s.now,base:=depth C s.aR} g
      have e1:kM r=false:=by unfold kM;rw[g3];rfl
      have e2:kM { r with start:=s.now,base:=depth C s.aR}=true:=by
       unfold kM
       simp only[g4]
       rw[decide_eq_true sG.1];rfl
      rw[e1,e2]at this
      show ((s.reps.set _ _).filter _).length=(_::s.aR).length
      rw[List.length_cons,←h.rp.live]
      simp at this
      omega
    refine⟨Cl hw (by omega) (fun hc=>by omega),?_,?_⟩
    ·obtain⟨t,e,_⟩:=mT { s with ready:=s.ready.set i ⟨y.pr,y.nx,q⟩,pl:=g8 x s.pl,cr:=max s.cr (depth C s.aR+(bS C i).fr),reps:=s.reps.set p0.2 { r with start:=s.now,base:=depth C s.aR},aR:=⟨iI C i,p0.2,false⟩::s.aR} 3 s.now p0.2 0 0 (depth C s.aR)
     rw[e]
    ·obtain⟨t,e,_⟩:=mT { s with ready:=s.ready.set i ⟨y.pr,y.nx,q⟩,pl:=g8 x s.pl,cr:=max s.cr (depth C s.aR+(bS C i).fr),reps:=s.reps.set p0.2 { r with start:=s.now,base:=depth C s.aR},aR:=⟨iI C i,p0.2,false⟩::s.aR} 3 s.now p0.2 0 0 (depth C s.aR)
     rw[e]
end
end Go.Proofs.YtnpinhahjgbigaaGreatDoor
end
section
namespace Go.Proofs.YtnpinhahjgbigaaGreatDoor
open Go Go.Sb
section
variable {C:bw}{s:KS}{P:List iO}{ex:Int}{a a':dD}{l:List dD}
theorem Wf.ud (h:Wf C P ex s){ex':Int}(hx:ex≤ex'):Wf C P ex' s:=
 ⟨h.now,h.Cj,h.ord,h.yx,h.pg,h.Fz,h.nY,h.reps,by have:=h.tr;omega,h.cN,h.ob,h.st,h.rp⟩
theorem Wf.f2X (hC:dE C)(h:Wf C P ex s)(hex:ex≤100):d2B C s:=by
 obtain⟨f1,f2,f3,f4,f5⟩:=h.yg
 have h1:=h.tr
 have h2:=h.now
 have h3:=h.ob.aD.1
 have h4:=hC.bP
 refine⟨h.e5f hC hex,fun a l hl=>?_,by omega,by omega⟩
 have ha:a∈s.aR:=by rw[hl];simp
 obtain⟨r,g,g1,_⟩:=h.st.reps a ha
 exact⟨(h.st.gS a ha).t,r,g,g1⟩
theorem AG (h:Wf C P ex s)(hl:s.aR=a::l):Wf C P (ex+1) (fE s)∧(fE s).ev=s.ev∧(fE s).now=s.now∧∃a',(fE s).aR=a'::l∧a'.j=a.j:=by
 unfold fE
 rw[hl]
 dsimp only
 split
 ·have hj:nW C s.aD { a with kR:=false}:=by
   have:=h.st.gS a (by rw[hl];simp)
   exact⟨this.t,this.over,this.at_,this.rest,this.left,this.aU,this.st,this.ov,this.flt⟩
  have hw:=rC (a':={ a with kR:=false}) h hl rfl rfl hj
  refine⟨Cl hw (by omega) (fun hc=>by omega),?_,?_,{ a with kR:=false},?_,rfl⟩
  ·obtain⟨t,e,_⟩:=mT { s with aR:={ a with kR:=false}::l} 5 s.now a.rep 0 0 0
   rw[e]
  ·obtain⟨t,e,_⟩:=mT { s with aR:={ a with kR:=false}::l} 5 s.now a.rep 0 0 0
   rw[e]
  ·rw[kK]
 ·exact⟨h.ud (by omega),rfl,rfl,a,hl,rfl⟩
theorem Tu (hC:dE C)(h:Wf C P ex s):Wf C P (ex+2) (bt C s).1∧(bt C s).1.ev=s.ev∧(bt C s).1.now=s.now∧((bt C s).2=true→∃a l,(bt C s).1.aR=a::l∧0<a.j.left):=by
 unfold bt
 cases hl:s.aR with
 |nil=>
  dsimp only
  obtain⟨g1,g2,g3⟩:=Fk hC h (fun i _ b hb=>by rw[hl]at hb;cases hb)
  exact⟨g1.ud (by omega),g2,g3,fun h=>by cases h⟩
 |cons a l=>
  dsimp only
  have ha:a∈s.aR:=by rw[hl];simp
  have oL:=h.st.gS a ha
  by_cases hw:qd C s a=true
  ·rw[if_pos hw]
   by_cases ho:(a.j.over||a.j.left == 0)=true
   ·rw[if_pos ho]
    obtain⟨r,g,_⟩:=h.st.reps a ha
    have hj:nW C s.aD { a with kR:=true}:=⟨oL.t,oL.over,oL.at_,oL.rest,oL.left,oL.aU,oL.st,oL.ov,oL.flt⟩
    have w1:=rC (a':={ a with kR:=true}) h hl rfl rfl hj
    rw[dY s.reps a.rep _ g]
    have w2:Wf C P ex { s with aR:={ a with kR:=true}::l,reps:=s.reps.set a.rep { r with nT:=IntKind.i64.wrap (r.nT+1)}}:=IZ (s:={ s with aR:={ a with kR:=true}::l}) w1 g rfl rfl rfl rfl rfl
    have w3:=Cl (k:=4) (at_:=s.now) (op:=0) (code:=0) (val:=0) (rep:=a.rep) w2 (by omega) (fun hc=>by omega)
    obtain⟨t,e,_⟩:=mT { s with aR:={ a with kR:=true}::l,reps:=s.reps.set a.rep { r with nT:=IntKind.i64.wrap (r.nT+1)}} 4 s.now a.rep 0 0 0
    rw[e]at w3 ⊢
    obtain⟨g1,g2,g3⟩:=Fk hC w3 (fun i hi b hb=>by
     have hi:o6 s.ready=some i:=hi
     unfold qd at hw
     rw[hi]at hw
     have hw:(bS C i).pr>eT C s a:=by simpa using hw
     rcases List.mem_cons.1 hb with rfl|hb
     ·exact hw
     ·have hc:=h.st.chain
      rw[hl]at hc
      have h1:=(List.pairwise_cons.1 hc).1 b hb
      have h2:=AF (s:=s) hC oL.t
      show (bS C i).pr>eT C s b
      omega)
    exact⟨g1.ud (by omega),g2,g3,fun h=>by cases h⟩
   ·rw[if_neg ho]
    simp only[Bool.or_eq_true,beq_iff_eq,not_or]at ho
    have hle:=oL.left
    have hj:nW C s.aD { a with j:={ a.j with dL:=true}}:=⟨oL.t,oL.over,oL.at_,oL.rest,oL.left,oL.aU,oL.st,oL.ov,oL.flt⟩
    have w1:=rC (a':={ a with j:={ a.j with dL:=true}}) h hl rfl rfl hj
    obtain⟨g1,g2,g3,a',g4,g5⟩:=AG (s:={ s with aR:={ a with j:={ a.j with dL:=true}}::l}) w1 rfl
    refine⟨g1.ud (by omega),g2,g3,fun _=>⟨a',l,g4,?_⟩⟩
    rw[g5];show 0<a.j.left;omega
  ·rw[if_neg hw]
   obtain⟨g1,g2,g3,_⟩:=AG h hl
   exact⟨g1.ud (by omega),g2,g3,fun h=>by cases h⟩
end
end Go.Proofs.YtnpinhahjgbigaaGreatDoor
end
section
namespace Go.Proofs.YtnpinhahjgbigaaGreatDoor
open Go Go.Sb
section
variable {C:bw}{s:KS}{P:List iO}{ex:Int}{a a':dD}{l:List dD}{L L':List LCei.Lk}
theorem Fl (x m:Int):(0≤LFlg.Em x m∧LFlg.Em x m≤255)∧0≤LFlg.En x m∧LFlg.En x m≤255:=by
 refine⟨?_,?_⟩
 ·unfold LFlg.Em ior
  rw[IntKind.wrap_u8];omega
 ·unfold LFlg.En Cw
  rw[IntKind.wrap_u8];omega
theorem Wf.f2Y (hC:dE C)(h:Wf C P ex s)(hex:ex≤100)(hl:s.aR=a::l):d2E C s a:=by
 obtain⟨f1,f2,f3,f4,f5⟩:=h.yg
 have h1:=h.tr
 have h2:=h.now
 have ha:a∈s.aR:=by rw[hl];simp
 have hj:=h.st.gS a ha
 obtain⟨r,g,_⟩:=h.st.reps a ha
 have e0i:=hC.hit
 have f3i:=hC.bT
 have Ch:=hj.regions hC
 have hpu:=hj.aU
 have hfr:=(hC.task _ hj.t).fr
 obtain⟨_,_,hop,_⟩:=qk hC hj.t
 refine⟨hj.t,(List.getElem?_eq_some_iff.1 g).1,by omega,fun _=>hj.at_,h.ob.cache,by omega,by omega,by omega,by omega,fun o ho=>?_⟩
 obtain⟨_,_,fG,_⟩:=xA hj ho
 have oS:=hop o (List.mem_of_getElem? fG)
 have hoa:=oS.a
 have rH:=h.ob.aD.1
 have hbx:=h.ob.boxes
 have hgr:=h.ob.groups
 have hct:=h.ob.counts
 exact⟨⟨hoa.1,fun hk=>by have:=oS.lock hk;omega,fun hk=>by have:=oS.box hk;omega,fun hk=>by have:=oS.group hk;omega,hgr.2,fun hk=>by have:=oS.count hk;omega,fun x hx=>by have:=hct.2 x hx;omega⟩,by omega,oS.mD⟩
theorem Wf.I1 (h:Wf C P ex s){ca:List (List Int)}{bo:List (Nat×List Int)}{gr:List Int}{co:List (Int×Int)}(Kz:LCache.Cs C.ways.toNat ca)(hbo:bo.length=s.boxes.length)(hgl:gr.length=s.groups.length)(hgr:∀x∈gr,0≤x∧x≤255)(mC:co.length=s.counts.length)(hco:∀x∈co,0≤x.1∧x.1≤x.2∧x.2≤8):Wf C P ex { s with cache:=ca,boxes:=bo,groups:=gr,counts:=co}:=
 ⟨h.now,h.Cj,h.ord,h.yx,h.pg,h.Fz,h.nY,h.reps,h.tr,⟨h.cN.len,h.cN.at_,h.cN.qN,h.cN.Ff,h.cN.IV,h.cN.KV,h.cN.Fy⟩,⟨Kz,by rw[hbo];exact h.ob.boxes,⟨by rw[hgl];exact h.ob.groups.1,hgr⟩,⟨by rw[mC];exact h.ob.counts.1,hco⟩,h.ob.aD,h.ob.lines⟩,⟨h.st.gS,h.st.reps,h.st.nd,h.st.chain,h.st.held,h.st.cr⟩,⟨h.rp.task,h.rp.over,h.rp.count,h.rp.live,h.rp.code,h.rp.lock⟩⟩
theorem oF (i:Nat)(z:LCei.Lk)(who:Int)(j:Nat)(hi:i<L.length):LCei.holds (L.set i z) who j=if i=j then z.2.2&&(z.2.1 == who) else LCei.holds L who j:=by
 unfold LCei.holds
 rw[List.getElem?_set]
 by_cases he:i=j
 ·subst he;simp[hi]
 ·simp[he]
theorem mW (hc:∀i:Nat,(L'[i]?).map (·.1)=(L[i]?).map (·.1)):∀(js:List Nat) (b:Int),LCei.nJ L' b js=LCei.nJ L b js
 |[],b=>rfl
 |j::js,b=>by
  show LCei.nJ L' _ js=LCei.nJ L _ js
  dsimp only
  have h:=hc j
  cases h1:L'[j]? with
  |none=>
   cases h2:L[j]? with
   |none=>exact mW hc js _
   |some y=>rw[h1,h2]at h;cases h
  |some x=>
   cases h2:L[j]? with
   |none=>rw[h1,h2]at h;cases h
   |some y=>
    rw[h1,h2]at h
    simp only[Option.map_some,Option.some.injEq]at h
    dsimp only
    rw[h]
    exact mW hc js _
theorem Wf.aD (h:Wf C P ex s)(hl:s.aR=a::l)(hr:a'.rep=a.rep)(ht:a'.j.t=a.j.t)(hj:nW C L' a')(hlen:L'.length=s.aD.length)(hc:∀i:Nat,(L'[i]?).map (·.1)=(s.aD[i]?).map (·.1))(hoth:∀b∈l,∀i,LCei.holds L' b.rep i=LCei.holds s.aD b.rep i)
  (KX:∀(i:Nat) (x:LCei.Lk),L'[i]? =some x→x.2.2=true→∃b∈a::l,x.2.1=(b.rep:Int)):Wf C P ex { s with aD:=L',aR:=a'::l}:=by
 have hst:=h.st
 have FQ:=hst.gS
 have hr0:=hst.reps
 have AY:=hst.nd
 have hc0:=hst.chain
 have ri:=hst.cr
 rw[hl]at FQ hr0 AY hc0 ri
 have b5o:∀b∈l,eT C { s with aD:=L',aR:=a'::l} b=eT C s b:=by
  intro b hb
  unfold eT
  split
  ·rfl
  ·show LCei.nJ L' _ (LCei.bL L' _ L'.length)=_
   rw[mW hc]
   congr 1
   unfold LCei.bL
   rw[hlen]
   exact List.filter_congr fun i _=>hoth b hb i
 refine⟨h.now,h.Cj,h.ord,h.yx,h.pg,h.Fz,h.nY,h.reps,h.tr,⟨h.cN.len,h.cN.at_,h.cN.qN,h.cN.Ff,h.cN.IV,h.cN.KV,h.cN.Fy⟩,⟨h.ob.cache,h.ob.boxes,h.ob.groups,h.ob.counts,⟨by show L'.length=_;rw[hlen];exact h.ob.aD.1,fun i x hx=>?_⟩,h.ob.lines⟩,⟨fun b hb=>?_,fun b hb=>?_,?_,?_,fun i x hx hh=>?_,?_⟩,⟨h.rp.task,h.rp.over,h.rp.count,?_,h.rp.code,h.rp.lock⟩⟩
 ·have hx:L'[i]? =some x:=hx
  have h1:=hc i
  rw[hx]at h1
  cases h2:s.aD[i]? with
  |none=>rw[h2]at h1;cases h1
  |some y=>
   rw[h2]at h1
   simp only[Option.map_some,Option.some.injEq]at h1
   rw[h1];exact h.ob.aD.2 i y h2
 ·rcases List.mem_cons.1 hb with rfl|hb
  ·exact hj
  ·have Cn:=FQ b (by simp[hb])
   obtain⟨st,e1,e2,e3,e4⟩:=Cn.st
   exact⟨Cn.t,Cn.over,Cn.at_,Cn.rest,Cn.left,Cn.aU,⟨st,e1,e2,e3,fun i=>by rw[hoth b hb i];exact e4 i⟩,Cn.ov,Cn.flt⟩
 ·rcases List.mem_cons.1 hb with rfl|hb
  ·rw[hr,ht];exact hr0 a (by simp)
  ·exact hr0 b (by simp[hb])
 ·show ((a'::l).map _).Nodup
  rw[List.map_cons,hr];exact AY
 ·refine List.pairwise_cons.2 ⟨fun b hb=>?_,?_⟩
  ·rw[ht,b5o b hb]
   exact (List.pairwise_cons.1 hc0).1 b hb
  ·refine List.Pairwise.imp_of_mem (fun {u w} _ hw hp=>?_) (List.pairwise_cons.1 hc0).2
   rw[b5o w hw];exact hp
 ·obtain⟨b,hb,e⟩:=KX i x hx hh
  rcases List.mem_cons.1 hb with rfl|hb
  ·exact⟨a',by simp,by rw[hr];exact e⟩
  ·exact⟨b,by simp[hb],e⟩
 ·show LFrame.du (iJ C (a'::l))≤s.cr
  rw[ry C l hr ht];exact ri
 ·show _=(a'::l).length
  rw[h.rp.live,hl];rfl
theorem d2P (h:Wf C P ex s){rep:Nat}(hr:rep<s.reps.length)(o:dG):Wf C P ex (oK C s rep o):=by
 unfold oK
 split
 ·have hx:=List.getElem?_eq_getElem hr
  rw[dY s.reps rep _ hx]
  have w1:=h.I1 (LCache.c7q h.ob.cache o.a) rfl rfl h.ob.groups.2 rfl h.ob.counts.2
  exact IZ (s:={ s with cache:=LCache.cst C.ways.toNat s.cache o.a,boxes:=s.boxes,groups:=s.groups,counts:=s.counts}) w1 hx (by split<;>rfl) (by split<;>rfl) (by split<;>rfl) (by split<;>rfl) (by split<;>rfl)
 ·exact h
theorem I2 (C:bw)(s:KS)(rep:Nat)(o:dG):(oK C s rep o).aR=s.aR∧(oK C s rep o).aD=s.aD∧(oK C s rep o).ev=s.ev∧(oK C s rep o).now=s.now:=by
 unfold oK
 split<;>exact⟨rfl,rfl,rfl,rfl⟩
end
end Go.Proofs.YtnpinhahjgbigaaGreatDoor
end
