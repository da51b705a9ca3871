/- What TopFaults stands on, part 4. Conditions: none. -/
import Derived.Test.YtnpinhahjgbigaaGreatDoorQc
set_option linter.unusedSimpArgs false
set_option linter.unusedVariables false
set_option linter.unusedSectionVars false
section
namespace Go.Proofs.YtnpinhahjgbigaaGreatDoor.LCei
open Go Go.Sb
section
variable {h0 h:Hp}{R:List As}{b:Nat}
abbrev Lk:=Int×Int×Bool
def oI (x:Lk):List Value:=[.int .i64 x.1,.int .i64 x.2.1,.bool x.2.2]
def tZ (b:Nat)(l:List Lk):As:=aEx fun s:Sl=>aStar (aBlk b [.slice s.p s.n s.c]) (aRow oI 3 s l)
variable {l:List Lk}
theorem eP:Sep h0 h (tZ b l::R)↔∃s:Sl,Sep h0 h (aBlk b [.slice s.p s.n s.c]::aRow oI 3 s l::R):=by
 unfold tZ;rw[Sep.ex];simp only[Sep.star]
theorem a2b (hs:Sep h0 h (tZ b l::R)):YW (some ⟨b,0,none⟩) h (fun v h'=>v= .int .i64 l.length∧h'=h):=by
 obtain⟨s,hs⟩:=eP.1 hs
 have hl:=hs.bn 1 rfl
 apply Szq
 unfold Bzq
 simp only[Option.isNone_some,aj,au]
 refine Sep.bu hs 0 rfl rfl ?_
 simp[hl]
theorem a2c {s:Sl}(hs:Sep h0 h (aBlk b [.slice s.p s.n s.c]::aRow oI 3 s l::R)){i:Nat}(hi:i<l.length):Nzk (some ⟨b,0,none⟩) (i:Int) h (fun v h'=>h'=h∧∃a,v= .pointer (some a)∧At s a i 3):=by
 have hl:=hs.bn 1 rfl
 apply Szo
 unfold Bzo
 rw[ae]
 refine aA (by simp) ?_
 rw[ae]
 refine (a2b (eP.2 ⟨s,hs⟩)).mono ?_
 rintro v h ⟨rfl,rfl⟩
 simp only[az,ak]
 refine aA (by simp;omega) ?_
 simp only[au]
 refine Sep.bu hs 0 rfl rfl ?_
 refine hs.idx 1 rfl (by omega) (by omega) fun a ha=>?_
 rw[Int.toNat_natCast]at ha
 exact⟨rfl,a,rfl,ha⟩
def ld (l:List Lk)(i:Nat)(who:Int):Int×List Lk:=match l[i]? with
 |some x=>if x.2.2 then (10,l) else (0,l.set i (x.1,who,true))
 |none=>(6,l)
theorem c7c (hs:Sep h0 h (tZ b l::R)){i:Nat}(hi:i<l.length)(who:Int):YU (some ⟨b,0,none⟩) (i:Int) who h (fun v h'=>v= .int .i64 (ld l i who).1∧Sep h0 h' (tZ b (ld l i who).2::R)):=by
 obtain⟨s,hs⟩:=eP.1 hs
 apply e9I
 unfold d9o
 rw[ae]
 refine (a2c hs hi).mono ?_
 rintro v h ⟨rfl,a,rfl,ha⟩
 simp only[aS,Option.isNone_some,aj,au]
 have hx:=List.getElem?_eq_getElem hi
 generalize l[i]=x at hx
 refine hs.AW 1 rfl (fun _=>rfl) ha hx rfl ?_
 cases hb:x.2.2
 ·have e:ld l i who=(0,l.set i (x.1,who,true)):=by unfold ld;rw[hx];simp[hb]
  rw[e]
  simp only[aj]
  refine hs.sR 1 (x.1,who,x.2.2) rfl (fun _=>rfl) ha hx (by omega) rfl rfl fun h hs=>?_
  simp only[sz0,sz1]at hs
  refine hs.sR 1 (x.1,who,true) rfl (fun _=>rfl) ha (List.getElem?_set_self hi) (by first|exact hi|simp) rfl rfl fun h hs=>?_
  simp only[sz0,sz1,List.set_set]at hs
  exact⟨rfl,eP.2 ⟨s,hs⟩⟩
 ·have e:ld l i who=(10,l):=by unfold ld;rw[hx];simp[hb]
  rw[e]
  exact⟨rfl,eP.2 ⟨s,hs⟩⟩
def cO (l:List Lk)(i:Nat)(who:Int):Int×List Lk:=match l[i]? with
 |some x=>if !x.2.2||x.2.1 != who then (8,l) else (0,l.set i (x.1,0,false))
 |none=>(6,l)
theorem El (hs:Sep h0 h (tZ b l::R)){i:Nat}(hi:i<l.length)(who:Int):Nzu (some ⟨b,0,none⟩) (i:Int) who h (fun v h'=>v= .int .i64 (cO l i who).1∧Sep h0 h' (tZ b (cO l i who).2::R)):=by
 obtain⟨s,hs⟩:=eP.1 hs
 apply e9J
 unfold d9p
 rw[ae]
 refine (a2c hs hi).mono ?_
 rintro v h ⟨rfl,a,rfl,ha⟩
 simp only[aS,Option.isNone_some,aj,au]
 have hx:=List.getElem?_eq_getElem hi
 generalize l[i]=x at hx
 refine hs.AW 1 rfl (fun _=>rfl) ha hx rfl ?_
 rw[ae]
 cases hb:x.2.2
 ·have e:cO l i who=(8,l):=by unfold cO;rw[hx];simp[hb]
  rw[e]
  simp only[Bool.not_false,aq,ak]
  exact⟨trivial,eP.2 ⟨s,hs⟩⟩
 ·simp only[Bool.not_true,aj]
  refine hs.iu 1 rfl (fun _=>rfl) ha hx rfl ?_
  rw[ak]
  cases hw:(x.2.1 != who)
  ·have e:cO l i who=(0,l.set i (x.1,0,false)):=by unfold cO;rw[hx];simp[hb,hw]
   rw[e]
   simp only[aj]
   refine hs.sR 1 (x.1,0,x.2.2) rfl (fun _=>rfl) ha hx (by omega) rfl rfl fun h hs=>?_
   simp only[sz0,sz1]at hs
   refine hs.sR 1 (x.1,0,false) rfl (fun _=>rfl) ha (List.getElem?_set_self hi) (by first|exact hi|simp) rfl rfl fun h hs=>?_
   simp only[sz0,sz1,List.set_set]at hs
   exact⟨rfl,eP.2 ⟨s,hs⟩⟩
  ·have e:cO l i who=(8,l):=by unfold cO;rw[hx];simp[hb,hw]
   rw[e]
   exact⟨rfl,eP.2 ⟨s,hs⟩⟩
def holds (l:List Lk)(who:Int)(i:Nat):Bool:=match l[i]? with
 |some x=>x.2.2&&(x.2.1 == who)
 |none=>false
def bL (l:List Lk)(who:Int)(k:Nat):List Nat:=(List.range k).filter (holds l who)
theorem wu (l:List Lk)(who:Int)(k:Nat):bL l who (k+1)=if holds l who k then bL l who k++[k] else bL l who k:=by
 unfold bL
 rw[List.range_succ,List.filter_append]
 cases hk:holds l who k<;>simp[hk]
def nI (n:Nat):List Value:=[.int .i64 (n:Int)]
theorem b6r {s:Sl}(hl8:l.length≤1000)(who:Int):∀(d k:Nat) (o:Sl) (h:Hp),k+d=l.length→Sep h0 h (aRow nI 1 o (bL l who k)::aBlk b [.slice s.p s.n s.c]::aRow oI 3 s l::R)→
  Kz8 (some ⟨b,0,none⟩) who o (l.length:Int) (k:Int) h (fun v h'=>∃o:Sl,v= .slice o.p o.n o.c∧Sep h0 h' (aRow nI 1 o (bL l who l.length)::aBlk b [.slice s.p s.n s.c]::aRow oI 3 s l::R))
 |0,k,o,h,hk,hs=>by
  apply Sz1
  unfold Bz1
  refine aA (by simp;omega) ?_
  obtain rfl:k=l.length:=by omega
  exact⟨o,rfl,hs⟩
 |d+1,k,o,h,hk,hs=>by
  have ih:=b6r (s:=s) hl8 who d (k+1)
  apply Sz1
  unfold Bz1
  refine aM (by simp;omega) ?_
  rw[ae]
  have hi:k<l.length:=by omega
  refine (a2c (hs.jN 3 [1,2,0] rfl (by simp):Sep h0 h (aBlk b [.slice s.p s.n s.c]::aRow oI 3 s l::aRow nI 1 o (bL l who k)::R)) hi).mono ?_
  rintro v h ⟨rfl,a,rfl,ha⟩
  simp only[aS,au]
  have hx:=List.getElem?_eq_getElem hi
  have hh:holds l who k=(l[k].2.2&&(l[k].2.1 == who)):=by unfold holds;rw[hx]
  generalize l[k]=x at hx hh
  refine hs.AW 2 rfl (fun _=>rfl) ha hx rfl ?_
  have hlen:(bL l who k).length≤k:=by unfold bL;exact Nat.le_trans (List.length_filter_le _ _) (by simp)
  have e1:IntKind.i64.wrap ((k:Int)+1)=((k+1:Nat):Int):=dK _ (by omega)
  have fin:∀c:Bool,c=holds l who k→(aI c (aJ #[.int .i64 (k:Int)] 3 fun np=>bU 3 1 8 #[.int .i64 (0:Int)] o ⟨(some np),1,1⟩ fun nn=>Kz8 (some ⟨b,0,none⟩) who nn (l.length:Int) (IntKind.i64.wrap ((k:Int)+(1:Int)))) (Kz8 (some ⟨b,0,none⟩) who o (l.length:Int) (IntKind.i64.wrap ((k:Int)+(1:Int))))) h
    (fun v h'=>∃o:Sl,v= .slice o.p o.n o.c∧Sep h0 h' (aRow nI 1 o (bL l who l.length)::aBlk b [.slice s.p s.n s.c]::aRow oI 3 s l::R)):=by
   intro c hc
   subst hc
   rw[e1]
   have hsu:=wu l who k
   cases hk2:holds l who k<;>rw[hk2]at hsu
   ·simp only[aj,Bool.false_eq_true,if_false]at hsu ⊢
    exact ih o h (by omega) (hsu ▸ hs)
   ·simp only[aq,if_true]at hsu ⊢
    have oS:=hs.bn 0 rfl
    refine Sep.new hs fun nb h hs=>?_
    simp only[sz2]at hs
    refine Sep.lE hs 1 0 k rfl rfl (fun _=>rfl) (by simp[nI,Value.oneCell']) rfl (by omega) (by omega) fun o' h hn hs=>?_
    simp only[sz0,sz1]at hs
    exact ih o' h (by omega) (hsu ▸ hs.drop)
  rw[ae]
  cases hb:x.2.2<;>rw[hb]at hh
  ·refine aA rfl ?_
   rw[ak]
   exact fin false (by rw[hh];rfl)
  ·refine aM rfl ?_
   refine hs.iu 2 rfl (fun _=>rfl) ha hx rfl ?_
   rw[ak]
   exact fin _ (by rw[hh];rfl)
theorem c7d (hl8:l.length≤1000)(who:Int)(hs:Sep h0 h (tZ b l::R)):a9X (some ⟨b,0,none⟩) who h (fun v h'=>∃o:Sl,v= .slice o.p o.n o.c∧Sep h0 h' (aRow nI 1 o (bL l who l.length)::tZ b l::R)):=by
 apply Szp
 unfold Bzp
 rw[ae]
 refine (a2b hs).mono ?_
 rintro v h ⟨rfl,rfl⟩
 simp only[az]
 obtain⟨s,hs⟩:=eP.1 hs
 refine (b6r (s:=s) (R:=R) hl8 who l.length 0 ⟨none,0,0⟩ h (by omega) (hs.fw nI 1)).mono ?_
 rintro v h ⟨o,rfl,hs⟩
 exact⟨o,rfl,Sep.swap (eP.2 ⟨s,(hs.jN 3 [1,2,0] rfl (by simp):Sep h0 h (aBlk b [.slice s.p s.n s.c]::aRow oI 3 s l::aRow nI 1 o (bL l who l.length)::R))⟩)⟩
def nJ (l:List Lk):Int→List Nat→Int:=fun base js=>js.foldl (fun m j=>match l[j]? with
 |some x=>if x.1>m then x.1 else m
 |none=>m) base
def eF (who:Int):List Lk→List Nat→List Lk:=fun l js=>js.foldl (fun l j=>(cO l j who).2) l
theorem tf (l:List Lk)(i:Nat)(who:Int):(cO l i who).2.length=l.length:=by
 unfold cO
 split
 ·split<;>simp
 ·rfl
theorem b6s {js:List Nat}(who:Int)(hjl:js.length≤1000){o all:Sl}(hall:all.n=js.length){n:Nat}(hj:∀j∈js,j<n):∀(d k:Nat) (l:List Lk) (h:Hp),k+d=js.length→l.length=n→Sep h0 h (aRow nI 1 o js::tZ b l::R)→
  b0d (some ⟨b,0,none⟩) who all o (js.length:Int) (k:Int) h (fun v h'=>v= .int .i64 (js.length:Int)∧Sep h0 h' (aRow nI 1 o js::tZ b (eF who l (js.drop k))::R))
 |0,k,l,h,hk,mF,hs=>by
  apply Szn
  unfold Bzn
  refine aA (by simp;omega) ?_
  rw[List.drop_of_length_le (by omega)]
  exact⟨by rw[hall],hs⟩
 |d+1,k,l,h,hk,mF,hs=>by
  have ih:=fun l=>b6s who hjl (o:=o) hall hj d (k+1) l
  apply Szn
  unfold Bzn
  refine aM (by simp;omega) ?_
  have hkj:k<js.length:=by omega
  have zP:=hs.bn 0 rfl
  have hxj:=List.getElem?_eq_getElem hkj
  have hjk:=hj js[k] (List.getElem_mem hkj)
  refine hs.idx 0 rfl (by omega) (by omega) fun a ha=>?_
  rw[Int.toNat_natCast]at ha
  refine hs.fR 0 rfl (fun _=>rfl) ha hxj rfl ?_
  rw[ae]
  refine (El hs.swap (i:=js[k]) (by omega) who).mono ?_
  rintro v h ⟨rfl,hs⟩
  simp only[az]
  rw[dK _ (by omega)]
  have e:eF who l (js.drop k)=eF who (cO l js[k] who).2 (js.drop (k+1)):=by
   rw[List.drop_eq_getElem_cons hkj];rfl
  rw[e]
  exact ih _ h (by omega) (by rw[tf];exact mF) hs.swap
theorem c7e (hl8:l.length≤1000)(who:Int)(hs:Sep h0 h (tZ b l::R)):YV (some ⟨b,0,none⟩) who h (fun v h'=>v= .int .i64 ((bL l who l.length).length:Int)∧Sep h0 h' (tZ b (eF who l (bL l who l.length))::R)):=by
 apply e9L
 unfold d9r
 rw[ae]
 refine (c7d hl8 who hs).mono ?_
 rintro v h ⟨o,rfl,hs⟩
 simp only[ez]
 have zP:=hs.bn 0 rfl
 have hlen:(bL l who l.length).length≤l.length:=by unfold bL;exact Nat.le_trans (List.length_filter_le _ _) (by simp)
 rw[show (o.n:Int)=((bL l who l.length).length:Int) by rw[zP]]
 refine (b6s who (by omega) zP (n:=l.length) (fun j hj=>by unfold bL at hj;simpa using (List.mem_filter.1 hj).1) (bL l who l.length).length 0 l h (by omega) rfl hs).mono ?_
 rintro v h ⟨rfl,hs⟩
 exact⟨rfl,hs.drop⟩
theorem b6t {ms:Sl}{zs:List Int}(hm:mr h0.size h0 .i64 ms zs)(hzl:zs.length≤1000):∀(d k:Nat) (h:Hp),k+d=zs.length→Sep h0 h (tZ b ((zs.take k).map fun z=>(z,0,false))::R)→
  b0b ⟨b,0,none⟩ ms (zs.length:Int) (k:Int) h (fun v h'=>v= .pointer (some ⟨b,0,none⟩)∧Sep h0 h' (tZ b (zs.map fun z=>(z,0,false))::R))
 |0,k,h,hk,hs=>by
  apply Szl
  unfold Bzl
  refine aA (by simp;omega) ?_
  rw[List.take_of_length_le (by omega)]at hs
  exact⟨rfl,hs⟩
 |d+1,k,h,hk,hs=>by
  have ih:=b6t hm hzl d (k+1)
  apply Szl
  unfold Bzl
  refine aM (by simp;omega) ?_
  have hkz:k<zs.length:=by omega
  refine hs.vp hm hkz ?_
  obtain⟨s,hs⟩:=eP.1 hs
  have hl:=hs.bn 1 rfl
  simp only[List.length_map,List.length_take]at hl
  refine Sep.bu hs 0 rfl rfl ?_
  refine Sep.new hs fun nb h hs=>?_
  simp only[sz2]at hs
  refine Sep.lE hs 2 0 (zs[k],(0:Int),false) rfl rfl (fun _=>rfl) (by simp[oI,Value.oneCell']) rfl (by omega) (by simp;omega) fun s' h hn hs=>?_
  simp only[sz0,sz1]at hs
  (refine Sep.st hs 1 rfl rfl rfl fun h hs=>?_;simp only[sz0,sz1]at hs)
  rw[wrap64 _ (by omega)]
  have hs:=hs.drop
  have e2:(List.take k zs).map (fun z=>((z,0,false):Lk))++[((zs[k],0,false):Lk)]=(List.take (k+1) zs).map fun z=>((z,0,false):Lk):=by
   rw[List.take_succ_eq_append_getElem hkz,List.map_append];rfl
  rw[e2]at hs
  exact ih h (by omega) (eP.2 ⟨s',hs⟩)
theorem c7f (hs:Sep h0 h R){ms:Sl}{zs:List Int}(hm:mr h0.size h0 .i64 ms zs)(hzl:zs.length≤1000):c5S ms h (fun v h'=>∃b,v= .pointer (some ⟨b,0,none⟩)∧Sep h0 h' (tZ b (zs.map fun z=>(z,0,false))::R)):=by
 apply e9H
 unfold d9n
 refine Sep.new hs fun nb h hs=>?_
 simp only[sz2]at hs
 rw[show (ms.n:Int)=(zs.length:Int) by rw[hm.n]]
 have hs:Sep h0 h (tZ nb ((zs.take 0).map fun z=>(z,0,false))::R):=eP.2 ⟨⟨none,0,0⟩,(hs.fw oI 3).swap⟩
 refine (b6t hm hzl zs.length 0 h (by omega) hs).mono ?_
 rintro v h ⟨rfl,hs⟩
 exact⟨nb,rfl,hs⟩
end
end Go.Proofs.YtnpinhahjgbigaaGreatDoor.LCei
end
section
namespace Go.Proofs.YtnpinhahjgbigaaGreatDoor.LFlg
open Go Go.Sb
section
variable {h0 h:Hp}{R:List As}{b:Nat}
def c7g (z:Int):List Value:=[.int .u8 z]
def aF (b:Nat)(l:List Int):As:=aEx fun s:Sl=>aStar (aBlk b [.slice s.p s.n s.c]) (aRow c7g 1 s l)
variable {l:List Int}
theorem Bi:Sep h0 h (aF b l::R)↔∃s:Sl,Sep h0 h (aBlk b [.slice s.p s.n s.c]::aRow c7g 1 s l::R):=by
 unfold aF;rw[Sep.ex];simp only[Sep.star]
theorem c7h (hs:Sep h0 h (aF b l::R)):c5C (some ⟨b,0,none⟩) h (fun v h'=>v= .int .i64 l.length∧h'=h):=by
 obtain⟨s,hs⟩:=Bi.1 hs
 have hl:=hs.bn 1 rfl
 apply e8v
 unfold d8l
 simp only[Option.isNone_some,aj,au]
 refine Sep.bu hs 0 rfl rfl ?_
 simp[hl]
theorem a2d (hs:Sep h0 h (aF b l::R)){i:Nat}{x:Int}(hx:l[i]? =some x)(hr:0≤x∧x≤255){g:Nat}{f c:Array Value}{y:Int}(hq:Nf Tryz.prog g (f++ #[.int .u8 x]++c) h (fun v h'=>v= .int .u8 y∧h'=h)):
  YJ (some ⟨b,0,none⟩) (i:Int) g f c h (fun v h'=>v= .tuple #[.int .i64 x,.int .i64 0]∧Sep h0 h' (aF b (l.set i y)::R)):=by
 have hi:i<l.length:=(List.getElem?_eq_some_iff.1 hx).1
 apply e8q
 unfold d8g
 rw[ae]
 refine aA (by simp) ?_
 rw[ae]
 refine (c7h hs).mono ?_
 rintro v h ⟨rfl,rfl⟩
 simp only[az,ak]
 refine aA (by simp;omega) ?_
 obtain⟨s,hs⟩:=Bi.1 hs
 have hl:=hs.bn 1 rfl
 simp only[au]
 refine Sep.bu hs 0 rfl rfl ?_
 refine hs.idx 1 rfl (by omega) (by omega) fun a ha=>?_
 rw[Int.toNat_natCast]at ha
 refine hs.fR 1 rfl (fun _=>rfl) ha hx rfl ?_
 refine Sep.bu hs 0 rfl rfl ?_
 refine⟨.int .u8 y,hq,?_⟩
 simp only[az]
 refine hs.idx 1 rfl (by omega) (by omega) fun a ha=>?_
 rw[Int.toNat_natCast]at ha
 refine hs.vo 1 y rfl (fun _=>rfl) ha hx (by omega) rfl rfl fun h hs=>?_
 simp only[sz0,sz1]at hs
 rw[wrap64 _ (by omega)]
 exact⟨rfl,Bi.2 ⟨s,hs⟩⟩
def Em (x m:Int):Int:=ior .u8 x (IntKind.u8.wrap (qt .i64 m 255))
def En (x m:Int):Int:=Cw .u8 x (IntKind.u8.wrap (qt .i64 m 255))
theorem c7i (hs:Sep h0 h (aF b l::R)){i:Nat}{x:Int}(hx:l[i]? =some x)(hr:0≤x∧x≤255)(m:Int):Nzd (some ⟨b,0,none⟩) (i:Int) m h (fun v h'=>v= .tuple #[.int .i64 x,.int .i64 0]∧Sep h0 h' (aF b (l.set i (Em x m))::R)):=by
 apply e8s
 unfold d8i
 refine Sep.new hs fun nb h hs=>?_
 simp only[sz2]at hs
 rw[ae]
 have hq:Nf Tryz.prog 291 (#[]++ #[.int .u8 x]++ #[.pointer (some ⟨nb,0,none⟩)]) h (fun v h'=>v= .int .u8 (Em x m)∧h'=h):=by
  rw[show (#[]++ #[Value.int .u8 x]++ #[Value.pointer (some ⟨nb,0,none⟩)]:Array Value)= #[.int .u8 x,.pointer (some ⟨nb,0,none⟩)] by simp]
  apply e8y
  unfold d8m
  simp only[au]
  refine Sep.aB hs 0 rfl rfl ?_
  exact⟨rfl,rfl⟩
 refine (a2d (hs.swap) hx hr hq).mono ?_
 rintro v h ⟨rfl,hs⟩
 exact⟨rfl,hs.swap.drop⟩
theorem c7j (hs:Sep h0 h (aF b l::R)){i:Nat}{x:Int}(hx:l[i]? =some x)(hr:0≤x∧x≤255)(m:Int):Nze (some ⟨b,0,none⟩) (i:Int) m h (fun v h'=>v= .tuple #[.int .i64 x,.int .i64 0]∧Sep h0 h' (aF b (l.set i (En x m))::R)):=by
 apply e8t
 unfold d8j
 refine Sep.new hs fun nb h hs=>?_
 simp only[sz2]at hs
 rw[ae]
 have hq:Nf Tryz.prog 292 (#[]++ #[.int .u8 x]++ #[.pointer (some ⟨nb,0,none⟩)]) h (fun v h'=>v= .int .u8 (En x m)∧h'=h):=by
  rw[show (#[]++ #[Value.int .u8 x]++ #[Value.pointer (some ⟨nb,0,none⟩)]:Array Value)= #[.int .u8 x,.pointer (some ⟨nb,0,none⟩)] by simp]
  apply e8z
  unfold d8n
  simp only[au]
  refine Sep.aB hs 0 rfl rfl ?_
  exact⟨rfl,rfl⟩
 refine (a2d (hs.swap) hx hr hq).mono ?_
 rintro v h ⟨rfl,hs⟩
 exact⟨rfl,hs.swap.drop⟩
theorem c7k (hs:Sep h0 h (aF b l::R)){i:Nat}{x:Int}(hx:l[i]? =some x)(hr:0≤x∧x≤255):c5B (some ⟨b,0,none⟩) (i:Int) h (fun v h'=>v= .tuple #[.int .i64 x,.int .i64 0]∧Sep h0 h' (aF b l::R)):=by
 apply e8u
 unfold d8k
 rw[ae]
 have hq:Nf Tryz.prog 332 (#[]++ #[.int .u8 x]++ #[]) h (fun v h'=>v= .int .u8 x∧h'=h):=by
  rw[show (#[]++ #[Value.int .u8 x]++ #[]:Array Value)= #[.int .u8 x] by simp]
  apply e8x
  exact⟨rfl,rfl⟩
 refine (a2d hs hx hr hq).mono ?_
 rintro v h ⟨rfl,hs⟩
 refine⟨rfl,?_⟩
 have hi:i<l.length:=(List.getElem?_eq_some_iff.1 hx).1
 have:l.set i x=l:=by
  rw[List.getElem?_eq_getElem hi]at hx
  cases hx
  exact List.set_getElem_self hi
 rw[this]at hs
 exact hs
def GF (x m:Int):Bool:=qt .i64 (qt .i64 x m) 255 == qt .i64 m 255
theorem c7l (hs:Sep h0 h (aF b l::R)){i:Nat}{x:Int}(hx:l[i]? =some x)(hr:0≤x∧x≤255)(m:Int):Nzc (some ⟨b,0,none⟩) (i:Int) m true h (fun v h'=>v= .tuple #[.bool (GF x m),.int .i64 0]∧Sep h0 h' (aF b l::R)):=by
 apply e8r
 unfold d8h
 rw[ae]
 refine (c7k hs hx hr).mono ?_
 rintro v h ⟨rfl,hs⟩
 exact⟨rfl,hs⟩
theorem c7m (hs:Sep h0 h R){n:Nat}(hn:n≤4):c5A (n:Int) h (fun v h'=>∃b,v= .pointer (some ⟨b,0,none⟩)∧Sep h0 h' (aF b (List.replicate n 0)::R)):=by
 apply e8p
 unfold d8f
 have e:(if (4:Int)<(if (0:Int)>(n:Int) then (0:Int) else (n:Int)) then (4:Int) else (if (0:Int)>(n:Int) then (0:Int) else (n:Int)))=(n:Int):=by
  rw[if_neg (show ¬(0:Int)>(n:Int) by omega),if_neg (by omega)]
 rw[e]
 refine hs.make c7g 1 0 rfl (by omega) (by omega) (by omega) fun s h hn hs=>?_
 rw[Int.toNat_natCast]at hs
 (refine Sep.new hs fun nb h hs=>?_;try simp only[sz2]at hs)
 exact⟨nb,rfl,Bi.2 ⟨s,hs⟩⟩
theorem Bj (n:Int)(hn:0≤n∧n≤1073741824):YY n h (fun v h'=>v= .int .i64 n∧h'=h):=by
 apply e9N
 unfold d9t
 rw[if_neg (show ¬(0:Int)>n by omega),if_neg (by omega)]
 exact⟨rfl,rfl⟩
def fD (o:dG)(ht ms:Int)(hit:Bool):Int:=if o.k == 1 then o.a else if o.k != 2 then 1 else if hit then ht else ms
theorem f0s (hs:Sep h0 h R)(o:dG)(m0 m1 ht ms:Int)(hit:Bool)(ho:0≤o.a∧o.a≤1073741824)(h1:0≤ht∧ht≤1073741824)(h2:0≤ms∧ms≤1073741824):
  YX o.k o.a o.b m0 m1 ht ms hit h (fun v h'=>v= .int .i64 (fD o ht ms hit)∧Sep h0 h' R):=by
 apply e9M
 unfold d9s
 refine Sep.new hs fun nb h hs=>?_
 simp only[sz2]at hs
 refine Sep.new hs fun nb2 h hs=>?_
 simp only[sz2]at hs
 refine Sep.aB hs 1 rfl rfl ?_
 unfold fD
 cases e1:(o.k == 1)
 ·simp only[aj,Bool.false_eq_true,if_false]
  refine Sep.aB hs 1 rfl rfl ?_
  cases e2:(o.k != 2)
  ·simp only[aj,Bool.false_eq_true,if_false]
   cases hit
   ·simp only[aj,Bool.false_eq_true,if_false]
    refine Sep.aB hs 0 rfl rfl ?_
    rw[ae]
    refine (Bj ms h2).mono ?_
    rintro v h ⟨rfl,rfl⟩
    exact⟨rfl,hs.drop.drop⟩
   ·simp only[aq,if_true]
    refine Sep.aB hs 0 rfl rfl ?_
    rw[ae]
    refine (Bj ht h1).mono ?_
    rintro v h ⟨rfl,rfl⟩
    exact⟨rfl,hs.drop.drop⟩
  ·exact⟨rfl,hs.drop.drop⟩
 ·simp only[aq,if_true]
  refine Sep.aB hs 1 rfl rfl ?_
  rw[ae]
  refine (Bj o.a ho).mono ?_
  rintro v h ⟨rfl,rfl⟩
  exact⟨rfl,hs.drop.drop⟩
end
end Go.Proofs.YtnpinhahjgbigaaGreatDoor.LFlg
end
section
namespace Go.Proofs.YtnpinhahjgbigaaGreatDoor
open Go Go.Sb
structure iO where
 t:Int
 k:Int
 a:Int
 b:Int
 c:Int
deriving DecidableEq
structure dy where
 e:iO
 o:Int
deriving DecidableEq
instance:Inhabited dy:=⟨⟨⟨0,0,0,0,0⟩,0⟩⟩
def dy.lt (x y:dy):Bool:=if x.e.t != y.e.t then decide (x.e.t<y.e.t) else decide (x.o<y.o)
theorem dy.lt_iff (x y:dy):x.lt y=true↔x.e.t<y.e.t∨(x.e.t=y.e.t∧x.o<y.o):=by
 unfold dy.lt
 by_cases h:x.e.t=y.e.t
 ·simp[h]
 ·simp[h]
theorem dy.ur (x y:dy):x.lt y=false↔y.e.t<x.e.t∨(x.e.t=y.e.t∧y.o≤x.o):=by
 rw[←Bool.not_eq_true,dy.lt_iff];omega
theorem dy.ow {x y z:dy}(h:x.lt y=false)(h':y.lt z=false):x.lt z=false:=by
 rw[dy.ur]at*;omega
theorem dy.sj {x y:dy}(h:x.lt y=true):y.lt x=false:=by
 rw[dy.ur];rw[dy.lt_iff]at h;omega
theorem dy.qY (x:dy):x.lt x=false:=by rw[dy.ur];omega
def qZ (f:Nat→dy)(n:Nat):Prop:=∀k,0<k→k<n→(f k).lt (f ((k-1) / 2))=false
def UpF (f:Nat→dy)(n j:Nat):Prop:=(∀k,0<k→k<n→k≠j→(f k).lt (f ((k-1) / 2))=false)∧(0<j→∀c,0<c→c<n→(c-1) / 2=j→(f c).lt (f ((j-1) / 2))=false)
def DnF (f:Nat→dy)(n i:Nat):Prop:=(∀k,0<k→k<n→(k-1) / 2≠i→(f k).lt (f ((k-1) / 2))=false)∧(0<i→∀c,0<c→c<n→(c-1) / 2=i→(f c).lt (f ((i-1) / 2))=false)
def TJ (f:Nat→dy)(i j:Nat):Nat→dy:=fun k=>if k=j then f i else if k=i then f j else f k
theorem UpF.e0k {f:Nat→dy}{n:Nat}(h:UpF f n 0):qZ f n:=fun k h0 hk=>h.1 k h0 hk (by omega)
theorem UpF.stop {f:Nat→dy}{n j:Nat}(h:UpF f n j)(hl:(f j).lt (f ((j-1) / 2))=false):qZ f n:=fun k h0 hk=>by
 by_cases e:k=j
 ·subst e;exact hl
 ·exact h.1 k h0 hk e
theorem UpF.go {f:Nat→dy}{n j:Nat}(h:UpF f n j)(hj:0<j)(hn:j<n)(hl:(f j).lt (f ((j-1) / 2))=true):UpF (TJ f ((j-1) / 2) j) n ((j-1) / 2):=by
 have hl':=dy.sj hl
 generalize hi:(j-1) / 2=i at*
 have hij:i<j:=by omega
 refine⟨fun k h0 hk hne=>?_,fun hi0 c hc0 hcn hc=>?_⟩
 ·unfold TJ
  by_cases e1:k=j
  ·subst e1
   rw[if_pos rfl,hi,if_neg (by omega),if_pos rfl]
   exact hl'
  ·rw[if_neg e1,if_neg hne]
   have hk1:=h.1 k h0 hk e1
   by_cases e2:(k-1) / 2=j
   ·rw[if_pos e2]
    have h2:=h.2 hj k h0 hk e2
    rw[hi]at h2;exact h2
   ·rw[if_neg e2]
    by_cases e3:(k-1) / 2=i
    ·rw[if_pos e3]
     rw[e3]at hk1
     exact dy.ow hk1 hl'
    ·rw[if_neg e3];exact hk1
 ·unfold TJ
  have hg:(i-1) / 2≠j:=by omega
  have hg2:(i-1) / 2≠i:=by omega
  rw[if_neg hg,if_neg hg2]
  have h1:=h.1 i hi0 (by omega) (by omega)
  by_cases e1:c=j
  ·rw[if_pos e1];exact h1
  ·rw[if_neg e1,if_neg (by omega)]
   have:=h.1 c hc0 hcn e1
   rw[hc]at this
   exact dy.ow this h1
theorem DnF.stop {f:Nat→dy}{n i:Nat}(h:DnF f n i)(hl:∀c,0<c→c<n→(c-1) / 2=i→(f c).lt (f i)=false):qZ f n:=fun k h0 hk=>by
 by_cases e:(k-1) / 2=i
 ·rw[e];exact hl k h0 hk e
 ·exact h.1 k h0 hk e
theorem DnF.go {f:Nat→dy}{n i j:Nat}(h:DnF f n i)(FQ:0<j)(hjn:j<n)(u9:(j-1) / 2=i)(hl:(f j).lt (f i)=true)(hm:∀c,0<c→c<n→(c-1) / 2=i→(f c).lt (f j)=false):DnF (TJ f i j) n j:=by
 have hl':=dy.sj hl
 have hij:i<j:=by omega
 refine⟨fun k h0 hk hne=>?_,fun _ c hc0 hcn hc=>?_⟩
 ·unfold TJ
  by_cases e1:k=j
  ·subst e1
   rw[if_pos rfl,u9,if_neg (by omega),if_pos rfl]
   exact hl'
  ·rw[if_neg e1,if_neg hne]
   by_cases e2:k=i
   ·rw[if_pos e2]
    rw[e2]at h0 ⊢
    rw[if_neg (by omega)]
    exact h.2 h0 j FQ hjn u9
   ·rw[if_neg e2]
    by_cases e3:(k-1) / 2=i
    ·rw[if_pos e3];exact hm k h0 hk e3
    ·rw[if_neg e3];exact h.1 k h0 hk e3
 ·unfold TJ
  rw[if_neg (by omega),if_neg (by omega),u9,if_neg (by omega),if_pos rfl]
  have:=h.1 c hc0 hcn (by omega)
  rw[hc]at this
  exact this
theorem qZ.root {f:Nat→dy}{n:Nat}(h:qZ f n):∀k,k<n→(f k).lt (f 0)=false:=by
 intro k
 induction k using Nat.strongRecOn with
 |_ k ih=>
  intro hk
  by_cases h0:k=0
  ·subst h0;exact dy.qY _
  ·exact dy.ow (h k (by omega) hk) (ih _ (by omega) (by omega))
def xH (l:List dy)(i j:Nat):List dy:=match l[i]?,l[j]? with
 |some x,some y=>(l.set i y).set j x
 |_,_=>l
theorem ox (l:List dy)(i j:Nat):(xH l i j).length=l.length:=by
 unfold xH;split<;>simp
theorem Bk {l:List dy}{i j:Nat}(hi:i<l.length)(hj:j<l.length)(k:Nat):(xH l i j).getD k default=TJ (l.getD · default) i j k:=by
 unfold xH TJ
 rw[List.getElem?_eq_getElem hi,List.getElem?_eq_getElem hj]
 simp only[List.getD_eq_getElem?_getD,List.getElem?_set,List.length_set]
 by_cases e1:k=j
 ·subst e1;simp[hj,hi]
 ·by_cases e2:k=i
  ·subst e2;simp[hi,hj,e1,Ne.symm e1]
  ·simp[e1,e2,Ne.symm e1,Ne.symm e2]
theorem tg {X:Type}{l:List X}{i:Nat}{x:X}(y:X)(h:l[i]? =some x):(y::l).Perm (x::l.set i y):=by
 induction l generalizing i with
 |nil=>simp at h
 |cons z l ih=>
  cases i with
  |zero=>
   simp only[List.getElem?_cons_zero,Option.some.injEq]at h
   subst h
   exact .swap _ _ _
  |succ i=>
   rw[List.getElem?_cons_succ]at h
   rw[sz1]
   exact (List.Perm.swap _ _ _).trans (((ih h).cons z).trans (.swap _ _ _))
theorem wv (l:List dy)(i j:Nat):(xH l i j).Perm l:=by
 unfold xH
 cases hi:l[i]? with
 |none=>exact .refl _
 |some x=>
  cases hj:l[j]? with
  |none=>exact .refl _
  |some y=>
   simp only
   have h1:=tg y hi
   by_cases e:i=j
   ·subst e
    rw[hi]at hj
    cases hj
    rw[List.set_set]
    exact ((List.perm_cons x).1 h1).symm
   ·have h2:(l.set i y)[j]? =some y:=by rw[List.getElem?_set_ne e,hj]
    have h3:=tg x h2
    exact ((List.perm_cons y).1 (h1.trans h3)).symm
abbrev q3 (l:List dy):Prop:=qZ (l.getD · default) l.length
def pN (l:List dy):Prop:=l.Pairwise fun x y=>x.lt y=true
theorem pN.head {x:dy}{l:List dy}(h:pN (x::l)):∀y∈l,x.lt y=true:=(List.pairwise_cons.1 h).1
theorem pN.tail {x:dy}{l:List dy}(h:pN (x::l)):pN l:=(List.pairwise_cons.1 h).2
def oJ (x:dy):List dy→List dy
 |[]=>[x]
 |y::l=>if x.lt y then x::y::l else y::oJ x l
theorem gX (x:dy):∀l,(oJ x l).Perm (x::l)
 |[]=>.refl _
 |y::l=>by
  unfold oJ
  split
  ·exact .refl _
  ·exact ((gX x l).cons y).trans (.swap _ _ _)
theorem wx {x:dy}:∀{l:List dy},pN l→(∀y∈l,y.o<x.o)→pN (oJ x l)
 |[],_,_=>by simp[oJ,pN]
 |y::l,h,ho=>by
  unfold oJ
  split
  ·rename_i hl
   refine List.pairwise_cons.2 ⟨fun z hz=>?_,h⟩
   rcases List.mem_cons.1 hz with rfl|hz
   ·exact hl
   ·have:=h.head z hz
    rw[dy.lt_iff]at*;omega
  ·rename_i hl
   refine List.pairwise_cons.2 ⟨fun z hz=>?_,wx h.tail fun y hy=>ho y (by simp[hy])⟩
   rcases List.mem_cons.1 ((gX x l).mem_iff.1 hz) with rfl|hz
   ·have:=ho y (by simp)
    simp only[Bool.not_eq_true]at hl
    rw[dy.ur]at hl;rw[dy.lt_iff];omega
   ·exact h.head z hz
theorem a2e {l:List dy}{k:Nat}(hk:k<l.length):l.getD k default∈l:=by
 rw[List.getD_eq_getElem?_getD,List.getElem?_eq_getElem hk];exact List.getElem_mem hk
theorem Ad {xs:List dy}{x:dy}{l:List dy}(hh:q3 xs)(hp:xs.Perm (x::l))(hs:pN (x::l)):xs[0]? =some x:=by
 have hlen:=hp.length_eq
 simp only[List.length_cons]at hlen
 have h0:0<xs.length:=by omega
 obtain⟨k,hk⟩:=List.getElem?_of_mem (hp.mem_iff.2 (List.mem_cons_self:x∈x::l))
 have eW:=(List.getElem?_eq_some_iff.1 hk).1
 have hr:=hh.root k eW
 have hm:=hp.mem_iff.1 (a2e h0)
 rcases List.mem_cons.1 hm with he|he
 ·rw[List.getElem?_eq_getElem h0]
  rw[List.getD_eq_getElem?_getD,List.getElem?_eq_getElem h0]at he
  simpa using he
 ·have h1:=hs.head _ he
  have h2:xs.getD k default=x:=by rw[List.getD_eq_getElem?_getD,hk];rfl
  simp only[h2]at hr
  rw[hr]at h1
  cases h1
end Go.Proofs.YtnpinhahjgbigaaGreatDoor
end
section
namespace Go.Proofs.YtnpinhahjgbigaaGreatDoor.LAgd
open Go Go.Sb
abbrev fx (x:dy):List Value:=[.int .i64 x.e.t,.int .i64 x.e.k,.int .i64 x.e.a,.int .i64 x.e.b,.int .i64 x.e.c,.int .i64 x.o]
abbrev gp (x:iO):List Value:=[.int .i64 x.t,.int .i64 x.k,.int .i64 x.a,.int .i64 x.b,.int .i64 x.c]
section
variable {α:Type}{Q:α→Hp→Prop}{h0 h:Hp}{L R:List As}{b:Nat}{s:Sl}{xs:List dy}
theorem iC (hs:Sep h0 h L)(k:Nat){a:Addr}{i:Nat}{x:dy}{K:Int→Int→Int→Int→Int→Int→M α}(hk:L[k]? =some (aRow fx 6 s xs))(ha:At s a i 6)(hx:xs[i]? =some x)(hK:K x.e.t x.e.k x.e.a x.e.b x.e.c x.o h Q):cf a K h Q:=by
 unfold cf
 refine hs.fR k hk (fun _=>rfl) ha hx rfl ?_
 refine hs.iu k hk (fun _=>rfl) ha hx rfl ?_
 refine hs.iu k hk (fun _=>rfl) ha hx rfl ?_
 refine hs.iu k hk (fun _=>rfl) ha hx rfl ?_
 refine hs.iu k hk (fun _=>rfl) ha hx rfl ?_
 refine hs.iu k hk (fun _=>rfl) ha hx rfl ?_
 exact hK
theorem Kf (hs:Sep h0 h L)(k:Nat){x:dy}{K:Int→Int→Int→Int→Int→Int→M α}(hk:L[k]? =some (aBlk b (fx x)))(hK:K x.e.t x.e.k x.e.a x.e.b x.e.c x.o h Q):cf ⟨b,0,none⟩ K h Q:=by
 unfold cf
 simp only[ay,Nat.zero_add]
 refine hs.aB k hk rfl ?_
 refine hs.aB k hk rfl ?_
 refine hs.aB k hk rfl ?_
 refine hs.aB k hk rfl ?_
 refine hs.aB k hk rfl ?_
 refine hs.aB k hk rfl ?_
 exact hK
theorem jX (hs:Sep h0 h L)(k:Nat){x:iO}{K:Int→Int→Int→Int→Int→M α}{cs:List Value}(hk:L[k]? =some (aBlk b cs))(hc:cs.take 5=gp x)(hK:K x.t x.k x.a x.b x.c h Q):jW ⟨b,0,none⟩ K h Q:=by
 have g:∀i,i<5→cs[i]? =(gp x)[i]? :=fun i hi=>by rw[←hc,List.getElem?_take,if_pos hi]
 unfold jW
 simp only[ay,Nat.zero_add]
 refine hs.aB k hk (by rw[g 0 (by omega)];rfl) ?_
 refine hs.aB k hk (by rw[g 1 (by omega)];rfl) ?_
 refine hs.aB k hk (by rw[g 2 (by omega)];rfl) ?_
 refine hs.aB k hk (by rw[g 3 (by omega)];rfl) ?_
 refine hs.aB k hk (by rw[g 4 (by omega)];rfl) ?_
 exact hK
theorem b0B {xs:List iO}(hs:Sep h0 h L)(k:Nat){a:Addr}{i:Nat}{x:iO}{K:Int→Int→Int→Int→Int→M α}(hk:L[k]? =some (aRow gp 5 s xs))(ha:At s a i 5)(hx:xs[i]? =some x)(hK:K x.t x.k x.a x.b x.c h Q):jW a K h Q:=by
 unfold jW
 refine hs.fR k hk (fun _=>rfl) ha hx rfl ?_
 refine hs.iu k hk (fun _=>rfl) ha hx rfl ?_
 refine hs.iu k hk (fun _=>rfl) ha hx rfl ?_
 refine hs.iu k hk (fun _=>rfl) ha hx rfl ?_
 refine hs.iu k hk (fun _=>rfl) ha hx rfl ?_
 exact hK
theorem nK {X:Type}{xs:List X}{i:Nat}{x:X}(y:X)(hx:xs[i]? =some x):(xs.set i y)[i]? =some y:=List.getElem?_set_self (List.getElem?_eq_some_iff.1 hx).1
theorem Kg (hs:Sep h0 h L)(k:Nat){a:Addr}{i:Nat}{x:dy}{K:M α}(y:dy)(hk:L[k]? =some (aRow fx 6 s xs))(ha:At s a i 6)(hx:xs[i]? =some x)(hK:∀h',Sep h0 h' (L.set k (aRow fx 6 s (xs.set i y)))→K h' Q):bq a y.e.t y.e.k y.e.a y.e.b y.e.c y.o K h Q:=by
 have eW:=(List.getElem?_eq_some_iff.1 hk).1
 unfold bq
 refine hs.vo k ⟨⟨y.e.t,x.e.k,x.e.a,x.e.b,x.e.c⟩,x.o⟩ hk (fun _=>rfl) ha hx (by omega) rfl rfl fun h hs=>?_
 refine hs.sR k ⟨⟨y.e.t,y.e.k,x.e.a,x.e.b,x.e.c⟩,x.o⟩ (List.getElem?_set_self eW) (fun _=>rfl) ha (nK _ hx) (by omega) rfl rfl fun h hs=>?_
 rw[List.set_set,List.set_set]at hs
 refine hs.sR k ⟨⟨y.e.t,y.e.k,y.e.a,x.e.b,x.e.c⟩,x.o⟩ (List.getElem?_set_self eW) (fun _=>rfl) ha (nK _ hx) (by omega) rfl rfl fun h hs=>?_
 rw[List.set_set,List.set_set]at hs
 refine hs.sR k ⟨⟨y.e.t,y.e.k,y.e.a,y.e.b,x.e.c⟩,x.o⟩ (List.getElem?_set_self eW) (fun _=>rfl) ha (nK _ hx) (by omega) rfl rfl fun h hs=>?_
 rw[List.set_set,List.set_set]at hs
 refine hs.sR k ⟨⟨y.e.t,y.e.k,y.e.a,y.e.b,y.e.c⟩,x.o⟩ (List.getElem?_set_self eW) (fun _=>rfl) ha (nK _ hx) (by omega) rfl rfl fun h hs=>?_
 rw[List.set_set,List.set_set]at hs
 refine hs.sR k ⟨⟨y.e.t,y.e.k,y.e.a,y.e.b,y.e.c⟩,y.o⟩ (List.getElem?_set_self eW) (fun _=>rfl) ha (nK _ hx) (by omega) rfl rfl fun h hs=>?_
 rw[List.set_set,List.set_set]at hs
 exact hK h hs
theorem q4 (hs:Sep h0 h L)(k:Nat){x0 x1 x2 x3 x4 x5 y0 y1 y2 y3 y4 y5:Int}{K:M α}(hk:L[k]? =some (aBlk b [.int .i64 x0,.int .i64 x1,.int .i64 x2,.int .i64 x3,.int .i64 x4,.int .i64 x5]))
  (hK:∀h',Sep h0 h' (L.set k (aBlk b (fx ⟨⟨y0,y1,y2,y3,y4⟩,y5⟩)))→K h' Q):bq ⟨b,0,none⟩ y0 y1 y2 y3 y4 y5 K h Q:=by
 have eW:=(List.getElem?_eq_some_iff.1 hk).1
 unfold bq
 simp only[ay,Nat.zero_add]
 refine hs.st k hk rfl rfl fun h hs=>?_
 refine hs.st k (List.getElem?_set_self eW) rfl rfl fun h hs=>?_
 refine hs.st k (List.getElem?_set_self (by simpa using eW)) rfl rfl fun h hs=>?_
 refine hs.st k (List.getElem?_set_self (by simpa using eW)) rfl rfl fun h hs=>?_
 refine hs.st k (List.getElem?_set_self (by simpa using eW)) rfl rfl fun h hs=>?_
 refine hs.st k (List.getElem?_set_self (by simpa using eW)) rfl rfl fun h hs=>?_
 simp only[List.set_set,sz0,sz1]at hs
 exact hK h hs
theorem Kh (hs:Sep h0 h L)(k:Nat){x0 x1 x2 x3 x4 y0 y1 y2 y3 y4:Int}{K:M α}(hk:L[k]? =some (aBlk b [.int .i64 x0,.int .i64 x1,.int .i64 x2,.int .i64 x3,.int .i64 x4]))
  (hK:∀h',Sep h0 h' (L.set k (aBlk b (gp ⟨y0,y1,y2,y3,y4⟩)))→K h' Q):YG ⟨b,0,none⟩ y0 y1 y2 y3 y4 K h Q:=by
 have eW:=(List.getElem?_eq_some_iff.1 hk).1
 unfold YG
 simp only[ay,Nat.zero_add]
 refine hs.st k hk rfl rfl fun h hs=>?_
 refine hs.st k (List.getElem?_set_self eW) rfl rfl fun h hs=>?_
 refine hs.st k (List.getElem?_set_self (by simpa using eW)) rfl rfl fun h hs=>?_
 refine hs.st k (List.getElem?_set_self (by simpa using eW)) rfl rfl fun h hs=>?_
 refine hs.st k (List.getElem?_set_self (by simpa using eW)) rfl rfl fun h hs=>?_
 simp only[List.set_set,sz0,sz1]at hs
 exact hK h hs
end
section
variable {h0 h:Hp}{L R:List As}{b:Nat}{s:Sl}{xs:List dy}
theorem GG (hs:Sep h0 h (aRow fx 6 s xs::R)){i j:Nat}{x y:dy}(hx:xs[i]? =some x)(hy:xs[j]? =some y):Y1 s (i:Int) (j:Int) h (fun v h'=>v= .bool (x.lt y)∧Sep h0 h' (aRow fx 6 s xs::R)):=by
 have hil:=(List.getElem?_eq_some_iff.1 hx).1
 have hjl:=(List.getElem?_eq_some_iff.1 hy).1
 apply e9X
 unfold d9H
 refine hs.idx 0 rfl (by omega) (by omega) fun a ha=>?_
 refine hs.idx 0 rfl (by omega) (by omega) fun c hc=>?_
 rw[Int.toNat_natCast]at ha hc
 have fin:∀(m n:Nat) (h:Hp),Sep h0 h (aBlk m (fx x)::aBlk n (fx y)::aRow fx 6 s xs::R)→oX ⟨m,0,none⟩ ⟨n,0,none⟩ h (fun v h'=>v= .bool (x.lt y)∧Sep h0 h' (aRow fx 6 s xs::R)):=by
  intro m n h hs
  apply e9Y
  unfold d9K dy.lt
  (refine Sep.aB hs 0 rfl rfl ?_;refine Sep.aB hs 1 rfl rfl ?_;simp only[ay,Nat.zero_add])
  cases he:(x.e.t != y.e.t)
  ·(simp only[aj];refine Sep.aB hs 0 rfl rfl ?_;refine Sep.aB hs 1 rfl rfl ?_)
   exact⟨rfl,hs.drop.drop⟩
  ·(simp only[aq];refine Sep.aB hs 0 rfl rfl ?_;refine Sep.aB hs 1 rfl rfl ?_)
   exact⟨rfl,hs.drop.drop⟩
 repeat' (first
  |with_reducible refine aK ?_ ?_
  |with_reducible refine iC hs 0 rfl ha hx ?_
  |with_reducible refine iC hs 0 rfl hc hy ?_
  |with_reducible refine iC hs 1 rfl ha hx ?_
  |with_reducible refine iC hs 1 rfl hc hy ?_
  |with_reducible refine iC hs 2 rfl ha hx ?_
  |with_reducible refine iC hs 2 rfl hc hy ?_
  |(with_reducible refine Sep.new hs fun nb h hs=>?_;simp only[sz2]at hs)
  |(with_reducible refine q4 hs 0 rfl fun h hs=>?_;simp only[sz0,sz1]at hs)
  |(with_reducible refine q4 hs 1 rfl fun h hs=>?_;simp only[sz0,sz1]at hs))
 all_goals first|exact fin _ _ _ hs|exact fin _ _ _ hs.swap
theorem GH (hs:Sep h0 h (aRow fx 6 s xs::R)){i j:Nat}(hi:i<xs.length)(hj:j<xs.length):Y2 s (i:Int) (j:Int) h (fun _ h'=>Sep h0 h' (aRow fx 6 s (xH xs i j)::R)):=by
 have hx:=List.getElem?_eq_getElem hi
 have hy:=List.getElem?_eq_getElem hj
 have e:xH xs i j=(xs.set i xs[j]).set j xs[i]:=by unfold xH;rw[hx,hy]
 rw[e]
 generalize xs[i]=x at*
 generalize xs[j]=y at*
 apply e9Z
 unfold d9L
 refine hs.idx 0 rfl (by omega) (by omega) fun a ha=>?_
 refine hs.idx 0 rfl (by omega) (by omega) fun c hc=>?_
 rw[Int.toNat_natCast]at ha hc
 have fin:(bd s (i:Int) 6 fun iv=>bq iv y.e.t y.e.k y.e.a y.e.b y.e.c y.o <| bd s (j:Int) 6 fun gG=>bq gG x.e.t x.e.k x.e.a x.e.b x.e.c x.o <| af (Value.tuple #[])) h (fun _ h'=>Sep h0 h' (aRow fx 6 s ((xs.set i y).set j x)::R)):=by
  refine hs.idx 0 rfl (by omega) (by omega) fun a ha=>?_
  rw[Int.toNat_natCast]at ha
  refine Kg hs 0 y rfl ha hx fun h hs=>?_
  simp only[sz0]at hs
  refine hs.idx 0 rfl (by omega) (by simp;omega) fun a ha=>?_
  rw[Int.toNat_natCast]at ha
  refine Kg hs 0 x rfl ha (List.getElem?_eq_getElem (by simpa using hj)) fun h hs=>?_
  exact hs
 refine aK ?_ ?_
 ·refine iC hs 0 rfl ha hy ?_
  refine iC hs 0 rfl hc hx ?_
  exact fin
 ·refine iC hs 0 rfl hc hx ?_
  refine iC hs 0 rfl ha hy ?_
  exact fin
theorem b0C {ord:Int}(hs:Sep h0 h (aBlk b [.slice s.p s.n s.c,.int .i64 ord]::aRow fx 6 s xs::R))(hl:xs.length≤100000)(x:dy):
  c5W (some ⟨b,0,none⟩) x.e.t x.e.k x.e.a x.e.b x.e.c x.o h (fun _ h'=>∃s':Sl,Sep h0 h' (aBlk b [.slice s'.p s'.n s'.c,.int .i64 ord]::aRow fx 6 s' (xs++[x])::R)):=by
 apply f0b
 unfold d9U
 refine Sep.new hs fun nb h hs=>?_
 simp only[sz2]at hs
 refine q4 hs 0 rfl fun h hs=>?_
 simp only[sz0]at hs
 simp only[au]
 have fin:∀(m:Nat) (h:Hp),Sep h0 h (aBlk m (fx x)::aBlk nb (fx x)::aBlk b [.slice s.p s.n s.c,.int .i64 ord]::aRow fx 6 s xs::R)→
   (bU 258 6 48 #[.int .i64 (0:Int),.int .i64 (0:Int),.int .i64 (0:Int),.int .i64 (0:Int),.int .i64 (0:Int),.int .i64 (0:Int)] s ⟨(some ⟨m,0,none⟩),1,1⟩ fun dB=>
   an ⟨b,0,none⟩ (.slice dB.p dB.n dB.c) <| af (Value.tuple #[])) h (fun _ h'=>∃s':Sl,Sep h0 h' (aBlk b [.slice s'.p s'.n s'.c,.int .i64 ord]::aRow fx 6 s' (xs++[x])::R)):=by
  intro m h hs
  refine Sep.lE hs 3 0 x rfl rfl (fun _=>rfl) (by simp[Value.oneCell']) rfl (by omega) (by omega) fun s' h hn hs=>?_
  simp only[sz0,sz1]at hs
  (refine Sep.st hs 2 rfl rfl rfl fun h hs=>?_;simp only[sz0,sz1]at hs)
  exact⟨s',hs.drop.drop⟩
 repeat' (first
  |with_reducible refine aK ?_ ?_
  |with_reducible refine Sep.bu hs 1 rfl rfl ?_
  |with_reducible refine Sep.bu hs 2 rfl rfl ?_
  |with_reducible refine Kf hs 0 rfl ?_
  |(with_reducible refine Sep.new hs fun nb h hs=>?_;simp only[sz2]at hs))
 all_goals exact fin _ _ hs
theorem c7n {ord:Int}(hs:Sep h0 h (aBlk b [.slice s.p s.n s.c,.int .i64 ord]::aRow fx 6 s xs::R))(hl:xs.length≤100000){ys:List dy}{x:dy}(hx:xs=ys++[x]):
  c5V (some ⟨b,0,none⟩) h (fun v h'=>v= .iface 258 (.agg #[.int .i64 x.e.t,.int .i64 x.e.k,.int .i64 x.e.a,.int .i64 x.e.b,.int .i64 x.e.c,.int .i64 x.o])∧∃s':Sl,Sep h0 h' (aBlk b [.slice s'.p s'.n s'.c,.int .i64 ord]::aRow fx 6 s' ys::R)):=by
 have mF:=hs.bn 1 rfl
 have hxl:xs.length=ys.length+1:=by rw[hx];simp
 have hxg:xs[ys.length]? =some x:=by rw[hx];simp
 apply f0a
 unfold d9M
 simp only[au]
 refine Sep.bu hs 0 rfl rfl ?_
 refine Sep.bu hs 0 rfl rfl ?_
 have e:IntKind.i64.wrap ((s.n:Int)-1)=(ys.length:Int):=by rw[wrap64 _ (by omega)];omega
 rw[e]
 refine hs.idx 1 rfl (by omega) (by omega) fun a ha=>?_
 rw[Int.toNat_natCast]at ha
 refine iC hs 1 rfl ha hxg ?_
 refine Sep.new hs fun nb h hs=>?_
 simp only[sz2]at hs
 refine q4 hs 0 rfl fun h hs=>?_
 simp only[sz0]at hs
 refine Sep.bu hs 1 rfl rfl ?_
 refine hs.slc 2 rfl (fun _=>rfl) (by omega) (by omega) (by omega) rfl fun s' hn hs=>?_
 simp only[sz0,sz1,Int.toNat_natCast,Int.toNat_zero,List.drop_zero]at hs
 (refine Sep.st hs 1 rfl rfl rfl fun h hs=>?_;simp only[sz0,sz1]at hs)
 refine Kf hs 0 rfl ?_
 have e2:xs.take ys.length=ys:=by rw[hx];simp
 rw[e2]at hs
 exact⟨rfl,s',hs.drop⟩
theorem half (j:Nat)(hj:j≤1000000):IntKind.i64.wrap (Int.tdiv (IntKind.i64.wrap ((j:Int)-1)) 2)=(((j-1) / 2:Nat):Int):=by
 rw[wrap64 ((j:Int)-1) (by omega)]
 by_cases h:j=0
 ·subst h;decide
 ·have e:((j:Int)-1)=((j-1:Nat):Int):=by omega
  rw[e]
  have e2:Int.tdiv ((j-1:Nat):Int) 2=(((j-1) / 2:Nat):Int):=by
   rw[Int.tdiv_eq_ediv_of_nonneg (by omega)];omega
  rw[e2,wrap64 _ (by omega)]
theorem up0 {ord:Int}:∀(j:Nat) (xs:List dy) (h:Hp),Sep h0 h (aBlk b [.slice s.p s.n s.c,.int .i64 ord]::aRow fx 6 s xs::R)→j<xs.length→xs.length≤100001→UpF (xs.getD · default) xs.length j→
  b0l (some ⟨b,0,none⟩) (j:Int) h (fun _ h'=>∃ys,ys.Perm xs∧q3 ys∧Sep h0 h' (aBlk b [.slice s.p s.n s.c,.int .i64 ord]::aRow fx 6 s ys::R)):=by
 intro j
 induction j using Nat.strongRecOn with
 |_ j ih=>
  intro xs h hs hj hl hu
  apply f0h
  unfold d9Y
  refine⟨by omega,?_⟩
  rw[half j (by omega)]
  rw[ae]
  by_cases hz:j=0
  ·subst hz
   refine aM (by simp) ?_
   rw[ak,aq]
   exact⟨xs,.refl _,hu.e0k,hs⟩
  ·have hi:(j-1) / 2<j:=by omega
   generalize hii:(j-1) / 2=i at*
   refine aA (by simp;omega) ?_
   simp only[au]
   refine Sep.bu hs 0 rfl rfl ?_
   rw[ae]
   have hx:=List.getElem?_eq_getElem hj
   have hil:i<xs.length:=by omega
   have hy:=List.getElem?_eq_getElem hil
   refine (GG hs.swap hx hy).mono ?_
   rintro v h ⟨rfl,hs⟩
   simp only[av,ak]
   have g1:xs.getD j default=xs[j]:=by rw[List.getD_eq_getElem?_getD,hx];rfl
   have g2:xs.getD i default=xs[i]:=by rw[List.getD_eq_getElem?_getD,hy];rfl
   cases hc:xs[j].lt xs[i]
   ·refine aM rfl ?_
    refine⟨xs,.refl _,hu.stop ?_,hs.swap⟩
    simp only[hii,g1,g2]
    exact hc
   ·refine aA rfl ?_
    have hs:=hs.swap
    refine Sep.bu hs 0 rfl rfl ?_
    rw[ae]
    refine (GH hs.swap hil hj).mono ?_
    rintro v h hs
    have hgo:UpF ((xH xs i j).getD · default) (xH xs i j).length i:=by
     rw[ox]
     have e:((xH xs i j).getD · default)=TJ (xs.getD · default) i j:=funext fun k=>Bk hil hj k
     rw[e]
     have:=hu.go (by omega) hj (by simp only[hii,g1,g2];exact hc)
     rw[hii]at this
     exact this
    refine (ih i hi (xH xs i j) h hs.swap (by rw[ox];omega) (by rw[ox];exact hl) hgo).mono ?_
    rintro v h ⟨ys,h1,h2,h3⟩
    exact⟨ys,h1.trans (wv xs i j),h2,h3⟩
theorem GI {n i:Nat}(hd:DnF (xs.getD · default) n i)(hc:n≤2*i+1):qZ (xs.getD · default) n:=hd.stop fun c h0 h1 h2=>by omega
theorem e0l {ord:Int}(i1:Int)(n:Nat):∀(d i:Nat) (xs:List dy) (h:Hp),n≤i+d→Sep h0 h (aBlk b [.slice s.p s.n s.c,.int .i64 ord]::aRow fx 6 s xs::R)→n≤xs.length→xs.length≤100001→i<n∨(n=0∧i=0)→DnF (xs.getD · default) n i→
  b0m (some ⟨b,0,none⟩) i1 (n:Int) (i:Int) h (fun v h'=>(∃z,v= .bool z)∧∃ys,ys.Perm xs∧(∀k,n≤k→ys[k]? =xs[k]?)∧qZ (ys.getD · default) n∧Sep h0 h' (aBlk b [.slice s.p s.n s.c,.int .i64 ord]::aRow fx 6 s ys::R)):=by
 intro d
 induction d with
 |zero=>
  intro i xs h hid hs hn hl hin hd
  have AY:n=0:=by omega
  apply Szt
  unfold Bzt
  rw[wrap64 (2*(i:Int)) (by omega),wrap64 (2*(i:Int)+1) (by omega)]
  refine aM (by simp;omega) ?_
  exact⟨⟨_,rfl⟩,xs,.refl _,fun _ _=>rfl,GI hd (by omega),hs⟩
 |succ d ih=>
  intro i xs h hid hs hn hl hin hd
  apply Szt
  unfold Bzt
  by_cases f0t:n=0
  ·subst f0t
   refine aM ?_ ?_
   ·rw[wrap64 (2*(i:Int)) (by omega),wrap64 (2*(i:Int)+1) (by omega)]
    simp;omega
   ·exact⟨⟨_,rfl⟩,xs,.refl _,fun _ _=>rfl,GI hd (by omega),hs⟩
  have hil:i<n:=by omega
  rw[wrap64 (2*(i:Int)) (by omega),wrap64 (2*(i:Int)+1) (by omega),wrap64 (2*(i:Int)+1+1) (by omega)]
  by_cases h1:n≤2*i+1
  ·refine aM (by simp;omega) ?_
   exact⟨⟨_,rfl⟩,xs,.refl _,fun _ _=>rfl,GI hd h1,hs⟩
  ·refine aA (by simp;omega) ?_
   have e1:(2*(i:Int)+1)=((2*i+1:Nat):Int):=by omega
   have e2:(((2*i+1:Nat):Int)+1)=((2*i+2:Nat):Int):=by omega
   rw[e1,e2]
   have gg:∀k (hk:k<xs.length),xs.getD k default=xs[k]:=fun k hk=>by rw[List.getD_eq_getElem?_getD,List.getElem?_eq_getElem hk];rfl
   have k8:∀(j:Nat) (h:Hp),Sep h0 h (aBlk b [.slice s.p s.n s.c,.int .i64 ord]::aRow fx 6 s xs::R)→j<n→0<j→(j-1) / 2=i→(∀c,0<c→c<n→(c-1) / 2=i→(xs.getD c default).lt (xs.getD j default)=false)→
     b0n (some ⟨b,0,none⟩) i1 (n:Int) (i:Int) (j:Int) h (fun v h'=>(∃z,v= .bool z)∧∃ys,ys.Perm xs∧(∀k,n≤k→ys[k]? =xs[k]?)∧qZ (ys.getD · default) n∧Sep h0 h' (aBlk b [.slice s.p s.n s.c,.int .i64 ord]::aRow fx 6 s ys::R)):=by
    intro j h hs hjn FQ u9 hm
    apply f0m
    unfold e0a
    simp only[au]
    refine Sep.bu hs 0 rfl rfl ?_
    rw[ae]
    have hjl:j<xs.length:=by omega
    have RA:i<xs.length:=by omega
    refine (GG hs.swap (List.getElem?_eq_getElem hjl) (List.getElem?_eq_getElem RA)).mono ?_
    rintro v h ⟨rfl,hs⟩
    simp only[av]
    cases hc:xs[j].lt xs[i]
    ·refine aM rfl ?_
     refine⟨⟨_,rfl⟩,xs,.refl _,fun _ _=>rfl,hd.stop fun c h0 h1 h2=>?_,hs.swap⟩
     have h3:=hm c h0 h1 h2
     rw[gg j hjl]at h3
     show (xs.getD c default).lt (xs.getD i default)=false
     rw[gg i RA]
     exact dy.ow h3 hc
    ·refine aA rfl ?_
     have hs:=hs.swap
     refine Sep.bu hs 0 rfl rfl ?_
     rw[ae]
     refine (GH hs.swap RA hjl).mono ?_
     rintro v h hs
     have hgo:DnF ((xH xs i j).getD · default) n j:=by
      have e:((xH xs i j).getD · default)=TJ (xs.getD · default) i j:=funext fun k=>Bk RA hjl k
      rw[e]
      exact hd.go FQ hjn u9 (by simp only[gg j hjl,gg i RA];exact hc) hm
     refine (ih j (xH xs i j) h (by omega) hs.swap (by rw[ox];exact hn) (by rw[ox];exact hl) (.inl hjn) hgo).mono ?_
     rintro v h ⟨h0,ys,h1,h2,h3,h4⟩
     refine⟨h0,ys,h1.trans (wv xs i j),fun k hk=>?_,h3,h4⟩
     rw[h2 k hk]
     unfold xH
     rw[List.getElem?_eq_getElem RA,List.getElem?_eq_getElem hjl]
     simp only[]
     rw[List.getElem?_set_ne (by omega),List.getElem?_set_ne (by omega)]
   have h1l:2*i+1<xs.length:=by omega
   rw[ae]
   by_cases h2:2*i+2<n
   ·refine aM (by simp;omega) ?_
    simp only[au]
    refine Sep.bu hs 0 rfl rfl ?_
    rw[ae]
    have h2l:2*i+2<xs.length:=by omega
    refine (GG hs.swap (List.getElem?_eq_getElem h2l) (List.getElem?_eq_getElem h1l)).mono ?_
    rintro v h ⟨rfl,hs⟩
    simp only[av,ak]
    cases hc:xs[2*i+2].lt xs[2*i+1]
    ·refine aA rfl (k8 _ _ hs.swap (by omega) (by omega) (by omega) fun c h0 h3 h4=>?_)
     have h5:c=2*i+1∨c=2*i+2:=by omega
     rcases h5 with rfl|rfl
     ·exact dy.qY _
     ·rw[gg _ h2l,gg _ h1l];exact hc
    ·refine aM rfl (k8 _ _ hs.swap (by omega) (by omega) (by omega) fun c h0 h3 h4=>?_)
     have h5:c=2*i+1∨c=2*i+2:=by omega
     rcases h5 with rfl|rfl
     ·rw[gg _ h2l,gg _ h1l];exact dy.sj hc
     ·exact dy.qY _
   ·refine aA (by simp;omega) ?_
    rw[ak]
    refine aA rfl (k8 _ _ hs (by omega) (by omega) (by omega) fun c h0 h3 h4=>?_)
    have h5:c=2*i+1:=by omega
    rw[h5]
    exact dy.qY _
def lG (b:Nat)(S:List dy)(ord:Int):As:=aEx fun t:Sl×List dy=>aStar (aPure (q3 t.2∧t.2.Perm S∧pN S∧∀x∈S,x.o<ord)) (aStar (aBlk b [.slice t.1.p t.1.n t.1.c,.int .i64 ord]) (aRow fx 6 t.1 t.2))
variable {S:List dy}{ord:Int}
theorem jA:Sep h0 h (lG b S ord::R)↔∃(s:Sl)(xs:List dy),(q3 xs∧xs.Perm S∧pN S∧∀x∈S,x.o<ord)∧Sep h0 h (aBlk b [.slice s.p s.n s.c,.int .i64 ord]::aRow fx 6 s xs::R):=by
 unfold lG;rw[Sep.ex];simp only[Sep.star,Sep.pure]
 constructor
 ·rintro ⟨⟨s,xs⟩,hp,hs⟩;exact⟨s,xs,hp,hs⟩
 ·rintro ⟨s,xs,hp,hs⟩;exact⟨⟨s,xs⟩,hp,hs⟩
theorem Ki (hs:Sep h0 h (lG b S ord::R)):Y0 (some ⟨b,0,none⟩) h (fun v h'=>v= .int .i64 S.length∧h'=h):=by
 obtain⟨s,xs,⟨h1,h2,h3,h4⟩,hs⟩:=jA.1 hs
 have hl:=hs.bn 1 rfl
 apply e9V
 unfold d9F
 simp only[Option.isNone_some,aj,au]
 refine Sep.bu hs 0 rfl rfl ?_
 rw[hl,h2.length_eq]
 exact⟨rfl,rfl⟩
theorem RB {xs:List dy}(hh:q3 xs)(x:dy):UpF ((xs++[x]).getD · default) (xs++[x]).length xs.length:=by
 have g:∀k,k<xs.length→(xs++[x]).getD k default=xs.getD k default:=fun k hk=>by
  rw[List.getD_eq_getElem?_getD,List.getD_eq_getElem?_getD,List.getElem?_append_left hk]
 refine⟨fun k h0 hk hne=>?_,fun hj c h0 hc h1=>?_⟩
 ·simp at hk
  simp only[]
  rw[g k (by omega),g _ (by omega)]
  exact hh k h0 (by omega)
 ·simp at hc;omega
theorem b0D (hs:Sep h0 h (aBlk b [.slice s.p s.n s.c,.int .i64 ord]::aRow fx 6 s xs::R))(hl:xs.length≤100000)(hh:q3 xs)(x:dy):
  Y3 (some ⟨b,0,none⟩) x.e.t x.e.k x.e.a x.e.b x.e.c x.o h (fun _ h'=>∃(s':Sl) (ys:List dy),ys.Perm (xs++[x])∧q3 ys∧Sep h0 h' (aBlk b [.slice s'.p s'.n s'.c,.int .i64 ord]::aRow fx 6 s' ys::R)):=by
 apply f0c
 unfold d9V
 rw[ae]
 refine (b0C hs hl x).mono ?_
 rintro v h ⟨s',hs⟩
 have mF:=hs.bn 1 rfl
 simp only[List.length_append,List.length_cons,List.length_nil]at mF
 simp only[au]
 refine Sep.bu hs 0 rfl rfl ?_
 rw[ae]
 apply Szs
 unfold Bzs
 simp only[ak,az]
 rw[ae]
 have e:IntKind.i64.wrap ((s'.n:Int)-1)=(xs.length:Int):=by rw[wrap64 _ (by omega)];omega
 rw[e]
 apply f0g
 unfold d9X
 refine (up0 xs.length (xs++[x]) h hs (by simp) (by simp;omega) (RB hh x)).mono ?_
 rintro v h ⟨ys,h1,h2,hs⟩
 exact⟨s',ys,h1,h2,hs⟩
theorem c7o (hs:Sep h0 h (aBlk b [.slice s.p s.n s.c,.int .i64 ord]::aRow fx 6 s xs::R))(hl:xs.length≤100000)(hh:q3 xs){x:dy}(hx:xs[0]? =some x):
  c5Y (some ⟨b,0,none⟩) h (fun v h'=>v= .iface 258 (.agg #[.int .i64 x.e.t,.int .i64 x.e.k,.int .i64 x.e.a,.int .i64 x.e.b,.int .i64 x.e.c,.int .i64 x.o])∧
   ∃(s':Sl) (zs:List dy),(x::zs).Perm xs∧q3 zs∧Sep h0 h' (aBlk b [.slice s'.p s'.n s'.c,.int .i64 ord]::aRow fx 6 s' zs::R)):=by
 have h0l:=(List.getElem?_eq_some_iff.1 hx).1
 have mF:=hs.bn 1 rfl
 apply f0d
 unfold d9W
 simp only[au]
 refine Sep.bu hs 0 rfl rfl ?_
 rw[ae]
 apply Szs
 unfold Bzs
 simp only[ak,az]
 obtain⟨m,hm⟩:∃m,xs.length=m+1:=⟨xs.length-1,by omega⟩
 have e:IntKind.i64.wrap ((s.n:Int)-1)=(m:Int):=by rw[wrap64 _ (by omega)];omega
 rw[e]
 refine Sep.bu hs 0 rfl rfl ?_
 rw[ae]
 refine (GH (i:=0) (j:=m) hs.swap h0l (by omega)).mono ?_
 rintro v h hs
 rw[ae]
 apply f0l
 unfold d9Z
 have hsl:(xH xs 0 m).length=m+1:=by rw[ox,hm]
 have hd:DnF ((xH xs 0 m).getD · default) m 0:=by
  have e:((xH xs 0 m).getD · default)=TJ (xs.getD · default) 0 m:=funext fun k=>Bk h0l (by omega) k
  rw[e]
  refine⟨fun k h0 hk hp=>?_,fun h=>by omega⟩
  unfold TJ
  rw[if_neg (by omega),if_neg (by omega),if_neg (by omega),if_neg hp]
  exact hh k h0 (by omega)
 refine (e0l 0 m m 0 (xH xs 0 m) h (by omega) hs.swap (by omega) (by omega) (by omega) hd).mono ?_
 rintro v h ⟨⟨z,rfl⟩,ys,h1,h2,h3,hs⟩
 simp only[av]
 have hyl:ys.length=m+1:=by rw[h1.length_eq,hsl]
 have hym:ys[m]? =some x:=by
  rw[h2 m (by omega)]
  unfold xH
  rw[List.getElem?_eq_getElem h0l,List.getElem?_eq_getElem (by omega:m<xs.length)]
  simp only[]
  rw[List.getElem?_set_self (by simp;omega)]
  rw[List.getElem?_eq_getElem h0l]at hx
  exact hx
 have hyx:ys=ys.take m++[x]:=by
  have e1:ys[m]'(by omega)=x:=(List.getElem?_eq_some_iff.1 hym).2
  rw[←e1,List.take_append_getElem (by omega)]
  rw[List.take_of_length_le (by omega)]
 rw[ae]
 refine (c7n hs (by omega) hyx).mono ?_
 rintro v h ⟨rfl,s',hs⟩
 refine⟨rfl,s',ys.take m,?_,?_,hs⟩
 ·refine List.Perm.trans ?_ (h1.trans (wv xs 0 m))
  conv=>rhs;rw[hyx]
  exact (List.perm_append_comm (l₁:=[x]))
 ·intro k hk0 hk
  simp only[List.length_take]at hk
  have g:∀j,j<m→(ys.take m).getD j default=ys.getD j default:=fun j hj=>by
   rw[List.getD_eq_getElem?_getD,List.getD_eq_getElem?_getD,List.getElem?_take,if_pos hj]
  simp only[]
  rw[g k (by omega),g _ (by omega)]
  exact h3 k hk0 (by omega)
theorem e0m (hs:Sep h0 h (lG b S ord::R))(hl:S.length≤100000)(ho:0≤ord∧ord≤1000000000)(x:iO):
  Nzh (some ⟨b,0,none⟩) x.t x.k x.a x.b x.c h (fun _ h'=>Sep h0 h' (lG b (oJ ⟨x,ord⟩ S) (ord+1)::R)):=by
 obtain⟨s,xs,⟨h1,h2,h3,h4⟩,hs⟩:=jA.1 hs
 apply e9R
 unfold d9w
 refine Sep.new hs fun nb h hs=>?_
 simp only[sz2]at hs
 simp only[Option.isNone_some,Bool.not_false,aq,au,ay,Nat.zero_add]
 have fin:(ai (Y3 (some ⟨b,0,none⟩) x.t x.k x.a x.b x.c ord) fun _r=>Kz9 (some ⟨b,0,none⟩)) h (fun _ h'=>Sep h0 h' (lG b (oJ ⟨x,ord⟩ S) (ord+1)::R)):=by
  rw[ae]
  have CW:Sep h0 h (aBlk b [.slice s.p s.n s.c,.int .i64 ord]::aRow fx 6 s xs::aBlk nb (gp x)::R):=hs.jN 3 [1,2,0] rfl (by simp)
  refine (b0D CW (by rw[h2.length_eq];exact hl) h1 ⟨x,ord⟩).mono ?_
  rintro v h ⟨s',ys,g1,g2,hs⟩
  apply e9S
  unfold d9x
  simp only[au,ay,Nat.zero_add]
  refine Sep.aB hs 0 rfl rfl ?_
  (refine Sep.st hs 0 rfl rfl rfl fun h hs=>?_;simp only[sz0,sz1]at hs)
  rw[wrap64 _ (by omega)]at hs
  have hs:Sep h0 h (aBlk nb (gp x)::aBlk b [.slice s'.p s'.n s'.c,.int .i64 (ord+1)]::aRow fx 6 s' ys::R):=hs.jN 3 [2,0,1] rfl (by simp)
  refine jA.2 ⟨s',ys,⟨g2,?_,wx h3 h4,fun z hz=>?_⟩,hs.drop⟩
  ·refine (g1.trans (List.perm_append_comm.trans ?_)).trans (gX _ _).symm
   exact h2.cons _
  ·rcases List.mem_cons.1 ((gX _ _).mem_iff.1 hz) with rfl|hz
   ·show ord<ord+1;omega
   ·have:=h4 z hz;omega
 repeat' (first
  |with_reducible refine aK ?_ ?_
  |with_reducible refine Sep.aB hs 1 rfl rfl ?_
  |with_reducible refine jX hs 0 rfl rfl ?_)
 all_goals exact fin
def a2f:List dy→Value
 |[]=>.tuple #[.int .i64 0,.bool false]
 |x::_=>.tuple #[.int .i64 x.e.t,.bool true]
theorem c7p (hs:Sep h0 h (lG b S ord::R)):c5U (some ⟨b,0,none⟩) h (fun v h'=>v=a2f S∧h'=h):=by
 apply e9W
 unfold d9G
 rw[ae]
 refine (Ki hs).mono ?_
 rintro v h ⟨rfl,rfl⟩
 simp only[az]
 cases S with
 |nil=>exact⟨rfl,rfl⟩
 |cons x l=>
  refine aA (by simp;omega) ?_
  obtain⟨s,xs,⟨h1,h2,h3,h4⟩,hs⟩:=jA.1 hs
  have hx:=Ad h1 h2 h3
  have h0l:=(List.getElem?_eq_some_iff.1 hx).1
  simp only[au]
  refine Sep.bu hs 0 rfl rfl ?_
  refine hs.idx 1 rfl (by omega) (by omega) fun a ha=>?_
  refine hs.fR 1 rfl (fun _=>rfl) ha hx rfl ?_
  exact⟨rfl,rfl⟩
theorem e0n (at_:Int){out:Sl}{acc:List iO}:∀(S:List dy) (out:Sl) (acc:List iO) (h:Hp),S.length+acc.length≤100000→Sep h0 h (lG b S ord::aRow gp 5 out acc::R)→
  b0e (some ⟨b,0,none⟩) at_ out h (fun v h'=>∃o:Sl,v= .slice o.p o.n o.c∧Sep h0 h' (lG b (S.dropWhile fun x=>decide (x.e.t≤at_)) ord::aRow gp 5 o (acc++(S.takeWhile fun x=>decide (x.e.t≤at_)).map (·.e))::R)):=by
 intro S
 induction S with
 |nil=>
  intro out acc h hl hs
  apply Szr
  unfold Bzr
  rw[ae]
  refine (Ki hs).mono ?_
  rintro v h ⟨rfl,rfl⟩
  simp only[az]
  rw[ae]
  refine aA (by simp) ?_
  rw[ak,aj]
  exact⟨out,rfl,by simpa using hs⟩
 |cons x S ih=>
  intro out acc h hl hs
  simp only[List.length_cons]at hl
  apply Szr
  unfold Bzr
  rw[ae]
  refine (Ki hs).mono ?_
  rintro v h ⟨rfl,rfl⟩
  simp only[az]
  rw[ae]
  refine aM (by first|(simp;done)|(simp;omega)) ?_
  obtain⟨s,xs,⟨h1,h2,h3,h4⟩,hs⟩:=jA.1 hs
  have hx:=Ad h1 h2 h3
  have h0l:=(List.getElem?_eq_some_iff.1 hx).1
  have hxl:=h2.length_eq
  simp only[List.length_cons]at hxl
  simp only[au]
  refine Sep.bu hs 0 rfl rfl ?_
  refine hs.idx 1 rfl (by omega) (by omega) fun a ha=>?_
  refine hs.fR 1 rfl (fun _=>rfl) ha hx rfl ?_
  rw[ak]
  by_cases hc:x.e.t≤at_
  ·rw[decide_eq_true hc,aq,ae]
   refine (c7o hs (by omega) h1 hx).mono ?_
   rintro v h ⟨rfl,s',zs,g1,g2,hs⟩
   have f0u:Sep h0 h (lG b S ord::aRow gp 5 out acc::R):=jA.2 ⟨s',zs,⟨g2,(List.perm_cons x).1 (g1.trans h2),h3.tail,fun y hy=>h4 y (by simp[hy])⟩,hs⟩
   rw[show ∀(u:Value) (k:Value→M Value),a7L 258 (.iface 258 u) k=k u from fun _ _=>rfl]
   unfold b5R
   simp only[cG,bW,az,cH]
   have hs:=f0u
   refine Sep.new hs fun nb h hs=>?_
   simp only[sz2]at hs
   refine q4 hs 0 rfl fun h hs=>?_
   simp only[sz0]at hs
   refine jX (x:=x.e) hs 0 rfl rfl ?_
   refine Sep.new hs fun nb2 h hs=>?_
   simp only[sz2]at hs
   refine Sep.lE hs 3 0 x.e rfl rfl (fun _=>rfl) (by simp[Value.oneCell']) rfl (by omega) (by omega) fun o' h hn hs=>?_
   simp only[sz0,sz1]at hs
   refine (ih o' (acc++[x.e]) h (by simp;omega) hs.drop.drop).mono ?_
   rintro v h ⟨o,rfl,hs⟩
   refine⟨o,rfl,?_⟩
   rw[List.dropWhile_cons_of_pos (by simpa using hc),List.takeWhile_cons_of_pos (by simpa using hc)]
   simpa using hs
  ·rw[decide_eq_false hc,aj]
   refine⟨out,rfl,?_⟩
   rw[List.dropWhile_cons_of_neg (by simpa using hc),List.takeWhile_cons_of_neg (by simpa using hc)]
   simp only[List.map_nil,List.append_nil]
   exact jA.2 ⟨s,xs,⟨h1,h2,h3,h4⟩,hs⟩
theorem Gq (hs:Sep h0 h (lG b S ord::R))(hl:S.length≤100000)(at_:Int):YZ (some ⟨b,0,none⟩) at_ h (fun v h'=>∃o:Sl,v= .slice o.p o.n o.c∧
  Sep h0 h' (aRow gp 5 o ((S.takeWhile fun x=>decide (x.e.t≤at_)).map (·.e))::lG b (S.dropWhile fun x=>decide (x.e.t≤at_)) ord::R)):=by
 apply e9U
 unfold d9y
 refine (e0n (out:=⟨none,0,0⟩) (acc:=[]) at_ S ⟨none,0,0⟩ [] h (by simpa using hl) (hs.fw gp 5).swap).mono ?_
 rintro v h ⟨o,rfl,hs⟩
 exact⟨o,rfl,by simpa using hs.swap⟩
theorem qX (hs:Sep h0 h R):c5T ⟨none,0,0⟩ h (fun v h'=>∃b,v= .pointer (some ⟨b,0,none⟩)∧Sep h0 h' (lG b [] 0::R)):=by
 apply e9P
 unfold d9u
 refine Sep.new hs fun nb h hs=>?_
 simp only[sz2]at hs
 apply e9Q
 unfold d9v
 refine aA (by simp) ?_
 refine⟨nb,rfl,jA.2 ⟨⟨none,0,0⟩,[],⟨fun k h0 hk=>by simp at hk,.refl _,by simp[pN],by simp⟩,(hs.fw fx 6).swap⟩⟩
end
end Go.Proofs.YtnpinhahjgbigaaGreatDoor.LAgd
end
section
namespace Go.Proofs.YtnpinhahjgbigaaGreatDoor.LCache
open Go Go.Sb
section
variable {h0 h:Hp}{R L:List As}{b w:Nat}{rows:List (List Int)}
def sof (rows:List (List Int))(x:Int):Nat:=(x%rows.length).toNat
def rof (rows:List (List Int))(x:Int):List Int:=rows.getD (sof rows x) []
def cst (w:Nat)(rows:List (List Int))(x:Int):List (List Int):=rows.set (sof rows x) (acc w (rof rows x) x)
theorem GJ (hc:Cs w rows){x:Int}:sof rows x<rows.length:=by
 have:=hc.n
 unfold sof
 have h1:=Int.emod_lt_of_pos x (show (0:Int)<rows.length by omega)
 have h2:=Int.emod_nonneg x (show (rows.length:Int)≠0 by omega)
 omega
theorem a2g (hc:Cs w rows){x:Int}:x%rows.length=(sof rows x:Nat):=by
 have:=hc.n
 unfold sof
 have h2:=Int.emod_nonneg x (show (rows.length:Int)≠0 by omega)
 omega
theorem a2h (hc:Cs w rows){x:Int}:rof rows x=rows[sof rows x]'(GJ hc):=by
 unfold rof
 rw[List.getD_eq_getElem?_getD,List.getElem?_eq_getElem (GJ hc)]
 rfl
theorem c7q (hc:Cs w rows)(x:Int):Cs w (cst w rows x):=by
 refine⟨by unfold cst;simpa using hc.n,hc.ways,fun row hr=>?_⟩
 unfold cst at hr
 rcases List.mem_or_eq_of_mem_set hr with h|h
 ·exact hc.ok row h
 ·subst h
  exact c6S (by rw[a2h hc];exact hc.ok _ (List.getElem_mem _)) hc.ways.1 x
theorem e0o (hs:Sep h0 h (cq b w rows::R))(hc:Cs w rows){x:Int}(hx:0≤x∧x≤255):
  Nzq (some ⟨b,0,none⟩) x h (fun v h'=>v= .tuple #[.bool (decide (x∈rof rows x)),.int .i64 0]∧Sep h0 h' (cq b w (cst w rows x)::R)):=by
 have:=a1X hs hc hx (GJ hc) (a2g hc)
 rw[←a2h hc]at this
 exact this
theorem b6u (hs:Sep h0 h (cq b w rows::R))(hc:Cs w rows){i:Nat}(hi:i<rows.length):a9P (some ⟨b,0,none⟩) i h (fun v h'=>∃out:Sl,v= .slice out.p out.n out.c∧Sep h0 h' (cq b w rows::aRow dv 1 out rows[i]::R)):=by
 obtain⟨s,hs⟩:=cu.1 hs
 have hn:=hs.swap.Uv
 apply e8X
 unfold d8L
 (simp only[Option.isNone_some,Bool.false_or,au,ay,Nat.zero_add,ae];rw[decide_eq_false (by omega),aj];refine Sep.bu hs 0 rfl rfl ?_;rw[ak];rw[decide_eq_false (by omega),aj];refine Sep.bu hs 0 rfl rfl ?_)
 obtain⟨ss,hl,hs⟩:=hs.swap.Ji i hi
 have TA:=hs.bn 0 rfl
 have hrn:=(hc.ok _ (List.getElem_mem hi)).n
 have hw:=hc.ways
 (refine Sep.idx hs 1 rfl (by first|omega|(simp only[List.length_set,List.length_map,List.length_replicate,List.length_append,List.length_cons,List.length_nil,List.length_reverse,List.length_range];omega)|(simp;omega)) (by first|omega|(simp only[List.length_set,List.length_map,List.length_replicate,List.length_append,List.length_cons,List.length_nil,List.length_reverse,List.length_range];omega)|(simp;omega)) fun aa sV=>?_;try simp only[Int.toNat_natCast]at sV)
 refine hs.Un 1 rfl (fun _=>rfl) sV (List.getElem?_eq_getElem (by omega)) rfl ?_
 refine b7w (by omega) (by omega) (by omega) (by omega) fun x hv1 hn1 hc1=>?_
 have hs:=hs.AX dv 1 x (by simpa using hn1) (by simpa using hc1)
 refine hs.b7u 0 rows[i] rfl (fun _=>rfl) ?_ TA ?_ rfl (by omega) (by simp;omega) fun s' h' hn' hs=>?_
 ·have:=hs.Ut 1 (m:=rows[i].length) rfl (fun _=>rfl) (Vw.refl _ 1) (by omega) (by simp)
  rw[TA]
  simpa using this
 ·intro v hv
  obtain⟨z,_,hz⟩:=List.mem_flatMap.1 hv
  simp only[List.mem_singleton]at hz
  subst hz;rfl
 simp only[sz0,List.nil_append]at hs
 have hs:=Sep.b5z hl hi (Sep.jN 5 hs [1,2,3,4,0] rfl (by simp))
 rw[List.set_getElem_self]at hs
 exact⟨s',rfl,cu.2 ⟨s,Sep.jN 3 hs [1,0,2] rfl (by simp)⟩⟩
theorem c7r (hs:Sep h0 h (cq b w rows::R))(hc:Cs w rows):Nzr (some ⟨b,0,none⟩) h (fun v h'=>∃b',v= .pointer (some ⟨b',0,none⟩)∧Sep h0 h' (cq b' w rows::cq b w rows::R)):=by
 obtain⟨s,hs⟩:=cu.1 hs
 have hn:=hs.swap.Uv
 have hcn:=hc.n
 have loop:∀(b':Nat) (d k:Nat) (h:Hp),k+d=rows.length→Sep h0 h (cq b' w (rows.take k++List.replicate d [])::cq b w rows::R)→
   Kzf (some ⟨b,0,none⟩) (some ⟨b',0,none⟩) (rows.length:Int) (k:Int) h (fun v h'=>∃b',v= .pointer (some ⟨b',0,none⟩)∧Sep h0 h' (cq b' w rows::cq b w rows::R)):=by
  intro b' d
  induction d with
  |zero=>
   intro k h hk hs
   apply Szj
   unfold Bzj
   (simp only[au,ay,Nat.zero_add];rw[decide_eq_false (by omega),aj])
   rw[List.take_of_length_le (by omega),List.replicate_zero,List.append_nil]at hs
   exact⟨b',rfl,hs⟩
  |succ d ih=>
   intro k h hk hs
   have hk':k<rows.length:=by omega
   have hlen:(rows.take k++List.replicate (d+1) []).length=rows.length:=by simp;omega
   have fin:∀(h:Hp) (s' out:Sl),Sep h0 h (aBlk b' [.int .i64 w,.slice s'.p s'.n s'.c]::aGrid dv 1 s' (rows.take k++List.replicate (d+1) [])::aRow dv 1 out rows[k]::cq b w rows::R)→
     (bd s' (k:Int) 1 fun aa=>an aa (.slice out.p out.n out.c) (Kzf (some ⟨b,0,none⟩) (some ⟨b',0,none⟩) (rows.length:Int) (IntKind.i64.wrap ((k:Int)+1)))) h (fun v h'=>∃b',v= .pointer (some ⟨b',0,none⟩)∧Sep h0 h' (cq b' w rows::cq b w rows::R)):=by
    intro h s' out hs
    have hn':=hs.swap.Uv
    obtain⟨ss,hl,hs⟩:=hs.swap.Ji k (by omega)
    refine hs.idx 1 rfl (by omega) (by omega) fun aa sV=>?_
    simp only[Int.toNat_natCast]at sV
    refine hs.vo 1 out rfl (fun _=>rfl) sV (List.getElem?_eq_getElem (by omega)) (by omega) rfl rfl fun h hs=>?_
    simp only[sz0,sz1]at hs
    have hs:=Sep.FT (Sep.jN 6 hs [4,1,2,3,5,0] rfl (by simp)) hl (by omega)
    have e:(rows.take k++List.replicate (d+1) []).set k rows[k]=rows.take (k+1)++List.replicate d []:=by
     rw[List.set_append_right _ _ (by simp;omega),List.replicate_succ,List.length_take,show k-min k rows.length=0 by omega,sz0,List.take_succ_eq_append_getElem hk',List.append_assoc]
     rfl
    rw[e]at hs
    rw[wrap64 _ (by omega),show (k:Int)+1=((k+1:Nat):Int) by omega]
    exact ih (k+1) h (by omega) (cu.2 ⟨s',(Sep.jN 4 hs [3,1,0,2] rfl (by simp)).drop⟩)
   apply Szj
   unfold Bzj
   (simp only[au,ay,Nat.zero_add];rw[decide_eq_true (by omega),aq])
   refine⟨?_,?_⟩
   ·obtain⟨s',hs⟩:=cu.1 hs
    (refine Sep.bu hs 0 rfl rfl ?_;simp only[ae])
    refine (b6u (Sep.jN 3 hs [2,0,1] rfl (by simp)) hc hk').mono ?_
    rintro v h ⟨out,rfl,hs⟩
    (simp only[ez])
    exact fin h s' out (Sep.jN 4 hs [2,3,1,0] rfl (by simp))
   ·rw[ae]
    refine (b6u hs.swap hc hk').mono ?_
    rintro v h ⟨out,rfl,hs⟩
    obtain⟨s',hs⟩:=cu.1 (Sep.jN 3 hs [2,1,0] rfl (by simp))
    (simp only[ez];refine Sep.bu hs 0 rfl rfl ?_)
    exact fin h s' out hs
 have go:∀(b':Nat) (h:Hp),Sep h0 h (cq b' w (List.replicate rows.length [])::cq b w rows::R)→(aw ⟨b,1,none⟩ fun x=>Kzf (some ⟨b,0,none⟩) (some ⟨b',0,none⟩) (x.n:Int) 0) h (fun v h'=>∃b',v= .pointer (some ⟨b',0,none⟩)∧Sep h0 h' (cq b' w rows::cq b w rows::R)):=by
  intro b' h hs
  obtain⟨s,hs⟩:=cu.1 hs.swap
  have hn:=hs.swap.Uv
  (refine Sep.bu hs 0 rfl rfl ?_)
  rw[hn]
  exact loop b' rows.length 0 h (by omega) (cu.2 ⟨s,hs⟩).swap
 apply e8W
 unfold d8K
 (simp only[Option.isNone_some,au,ay,Nat.zero_add,aj])
 refine⟨?_,?_⟩
 ·(refine Sep.bu hs 0 rfl rfl ?_;refine Sep.aB hs 0 rfl rfl ?_;simp only[ae])
  rw[hn]
  refine (qX (cu.2 ⟨s,hs⟩) hcn hc.ways).mono ?_
  rintro v h ⟨b',rfl,hs⟩
  simp only[aS]
  exact go b' h hs
 ·(refine Sep.aB hs 0 rfl rfl ?_;refine Sep.bu hs 0 rfl rfl ?_;simp only[ae])
  rw[hn]
  refine (qX (cu.2 ⟨s,hs⟩) hcn hc.ways).mono ?_
  rintro v h ⟨b',rfl,hs⟩
  simp only[aS]
  exact go b' h hs
end
end Go.Proofs.YtnpinhahjgbigaaGreatDoor.LCache
end
section
namespace Go.Proofs.YtnpinhahjgbigaaGreatDoor.LMbx
open Go Go.Sb
abbrev b0E:Option Addr→List Value:=fun p=>[.pointer p]
def RC (p:Option Addr)(y:Nat×List Int):As:=aEx fun b:Nat=>aStar (aPure (p=some ⟨b,0,none⟩)) (kZ iB b y.1 y.2)
def dW (b:Nat)(ys:List (Nat×List Int)):As:=aEx fun s:Sl=>aStar (aBlk b [.slice s.p s.n s.c]) (aHR b0E 1 RC s ys)
section
variable {h0 h:Hp}{R:List As}{b:Nat}{ys:List (Nat×List Int)}
theorem wy {p:Option Addr}{y:Nat×List Int}:Sep h0 h (RC p y::R)↔∃b,p=some ⟨b,0,none⟩∧Sep h0 h (kZ iB b y.1 y.2::R):=by
 unfold RC;rw[Sep.ex];simp only[Sep.star,Sep.pure]
theorem jh:Sep h0 h (dW b ys::R)↔∃s:Sl,Sep h0 h (aBlk b [.slice s.p s.n s.c]::aHR b0E 1 RC s ys::R):=by
 unfold dW;rw[Sep.ex];simp only[Sep.star]
theorem c7s (hs:Sep h0 h (dW b ys::R)):c5N (some ⟨b,0,none⟩) h (fun v h'=>v= .int .i64 ys.length∧h'=h):=by
 obtain⟨s,hs⟩:=jh.1 hs
 have hn:=hs.swap.d3o
 apply e9z
 unfold d9g
 (simp only[Option.isNone_some,au,aj];refine Sep.bu hs 0 rfl rfl ?_)
 rw[hn]
 exact⟨rfl,rfl⟩
theorem Rw (hs:Sep h0 h (dW b ys::R)){i:Nat}(hi:i<ys.length):a9U (some ⟨b,0,none⟩) i h (fun v h'=>h'=h∧∃rb,v= .pointer (some ⟨rb,0,none⟩)∧∃H,Sep h0 h (kZ iB rb (ys[i]'hi).1 (ys[i]'hi).2::H)∧∀h' y',Sep h0 h' (kZ iB rb y'.1 y'.2::H)→Sep h0 h' (dW b (ys.set i y')::R)):=by
 apply e9y
 unfold d9f
 (simp only[au,ae];rw[decide_eq_false (by omega),aj];simp only[ae])
 refine (c7s hs).mono ?_
 rintro v h' ⟨rfl,rfl⟩
 obtain⟨s,hs⟩:=jh.1 hs
 have hn:=hs.swap.d3o
 (simp only[az];rw[ak];rw[decide_eq_false (by omega),aj];refine Sep.bu hs 0 rfl rfl ?_)
 obtain⟨ss,hl,hs⟩:=hs.swap.b5A i hi
 obtain⟨rb,hrb,hs⟩:=wy.1 hs
 have hsn:=hs.bn 1 rfl
 ((refine Sep.idx hs 1 rfl (by first|omega|(simp only[List.length_set,List.length_map,List.length_replicate,List.length_append,List.length_cons,List.length_nil,List.length_reverse,List.length_range];omega)|(simp;omega)) (by first|omega|(simp only[List.length_set,List.length_map,List.length_replicate,List.length_append,List.length_cons,List.length_nil,List.length_reverse,List.length_range];omega)|(simp;omega)) fun aa sV=>?_;try simp only[Int.toNat_natCast]at sV);refine Sep.b5y hs 1 rfl (fun _=>rfl) sV (List.getElem?_eq_getElem (by first|omega|(simp only[List.length_set,List.length_map,List.length_replicate,List.length_append,List.length_cons,List.length_nil,List.length_reverse,List.length_range];omega)|(simp;omega))) rfl ?_)
 rw[hrb]
 refine⟨rfl,rb,rfl,_,hs,fun h' y' CW=>?_⟩
 have CW:=wy.2 ⟨rb,hrb,CW⟩
 have CW:=Sep.d3m hl hi CW
 exact jh.2 ⟨s,CW.swap⟩
theorem c7t (hs:Sep h0 h (dW b ys::R)){i:Nat}(hi:i<ys.length)(x:Int):Nzf (some ⟨b,0,none⟩) i x h (fun v h'=>v= .int .i64 (if ys[i].2.length=ys[i].1 then 7 else 0)∧Sep h0 h' (dW b (ys.set i (ys[i].1,if ys[i].2.length=ys[i].1 then ys[i].2 else ys[i].2++[x]))::R)):=by
 apply e9w
 unfold d9d
 rw[ae]
 refine (Rw hs hi).mono ?_
 rintro v h' ⟨rfl,rb,rfl,H,hs,tj⟩
 (simp only[aS,Option.isNone_some,Bool.not_false,aq,ae])
 refine (b0y hs x).mono ?_
 rintro v h' ⟨rfl,hs⟩
 (simp only[az])
 exact⟨rfl,tj _ (ys[i].1,_) hs⟩
theorem c7u (hs:Sep h0 h (dW b ys::R)){i:Nat}(hi:i<ys.length):YS (some ⟨b,0,none⟩) i h (fun v h'=>v=Ac ys[i].2∧Sep h0 h' (dW b (ys.set i (ys[i].1,ys[i].2.tail))::R)):=by
 apply e9x
 unfold d9e
 rw[ae]
 refine (Rw hs hi).mono ?_
 rintro v h' ⟨rfl,rb,rfl,H,hs,tj⟩
 (simp only[aS,Option.isNone_some,Bool.not_false,aq,ae])
 refine (a1Z hs).mono ?_
 rintro v h' ⟨rfl,hs⟩
 have:=tj _ (ys[i].1,ys[i].2.tail) hs
 revert this
 cases ys[i].2 with
 |nil=>intro hs;unfold Ac;(simp only[bD,az]);exact⟨rfl,hs⟩
 |cons x q=>intro hs;unfold Ac;(simp only[bD,az]);exact⟨rfl,hs⟩
def jI (n:Int):Nat:=if n<1∨n>8 then 1 else n.toNat
end
section new
variable {h1:Hp}{rs:Sl}{iD:List Int}
theorem qX (hz:mr h1.size h1 .i64 rs iD)(hlen:iD.length≤1000):c5M rs h1 (fun v h'=>∃b,v= .pointer (some ⟨b,0,none⟩)∧Sep h1 h' [dW b (iD.map fun n=>(jI n,[]))]):=by
 have mF:=hz.n
 apply e9u
 unfold d9b
 have hs:=Sep.init h1
 (refine Sep.new hs fun nb h hs=>?_;try simp only[sz2]at hs)
 have loop:∀(d k:Nat) (h:Hp),k+d=iD.length→Sep h1 h [dW nb ((iD.take k).map fun n=>(jI n,[]))]→
   Kzk ⟨nb,0,none⟩ rs (rs.n:Int) (k:Int) h (fun v h'=>∃b,v= .pointer (some ⟨b,0,none⟩)∧Sep h1 h' [dW b (iD.map fun n=>(jI n,[]))]):=by
  intro d
  induction d with
  |zero=>
   intro k h hk hs
   apply Szk
   unfold Bzk
   (rw[decide_eq_false (by omega),aj])
   rw[List.take_of_length_le (by omega)]at hs
   exact⟨nb,rfl,hs⟩
  |succ d ih=>
   intro k h hk hs
   have eW:k<iD.length:=by omega
   have JL:iD.take (k+1)=iD.take k++[iD[k]]:=List.take_succ_eq_append_getElem eW
   apply Szk
   unfold Bzk
   (rw[decide_eq_true (by omega),aq];refine Sep.vp hs hz (by first|omega|(simp only[List.length_set,List.length_map,List.length_replicate,List.length_append,List.length_cons,List.length_nil,List.length_reverse,List.length_range];omega)|(simp;omega)) ?_)
   have k7:∀n:Int,n=jI iD[k]→1≤n→n≤8→b0a ⟨nb,0,none⟩ n rs (rs.n:Int) (k:Int) h (fun v h'=>∃b,v= .pointer (some ⟨b,0,none⟩)∧Sep h1 h' [dW b (iD.map fun n=>(jI n,[]))]):=by
    intro n hn n1 n8
    obtain⟨s,hs⟩:=jh.1 hs
    obtain⟨ss,hl,hs⟩:=mH.1 hs.swap
    have hsl:ss.length=k:=by rw[hl];simp;omega
    have fin:∀(h:Hp) (rb:Nat) (sl:Sl) (X:List As),Sep h1 h (aBlk nb [.slice sl.p sl.n sl.c]::kZ iB rb n.toNat []::aRow b0E 1 sl (ss++[some ⟨rb,0,none⟩])::db (List.zipWith RC ss ((iD.take k).map fun n=>(jI n,[])))::X)→
      Kzk ⟨nb,0,none⟩ rs (rs.n:Int) (IntKind.i64.wrap ((k:Int)+1)) h (fun v h'=>∃b,v= .pointer (some ⟨b,0,none⟩)∧Sep h1 h' [dW b (iD.map fun n=>(jI n,[]))]):=by
     intro h rb sl X hs
     rw[wrap64 _ (by omega),show (k:Int)+1=((k+1:Nat):Int) by omega]
     refine ih (k+1) h (by omega) ?_
     rw[JL,List.map_append]
     have hs:=wy (y:=(n.toNat,[])).2 ⟨rb,rfl,hs.swap⟩
     have hs:=Sep.b5B (y:=(n.toNat,[])) hl (Sep.jN 4 hs [0,2,3,1] rfl (by simp))
     rw[show n.toNat=jI iD[k] by omega]at hs
     have hs:=jh.2 ⟨sl,hs.swap⟩
     exact hs.only
    have T8:uq n=false:=by unfold uq;simp;omega
    apply e9v
    unfold d9c
    refine aK ?_ ?_
    ·have hs:Sep h1 h [_,_,_]:=hs.re [2,0,1] rfl
     (refine Sep.bu hs 0 rfl rfl ?_;simp only[ae])
     refine (Ke hs n T8).mono ?_
     rintro v h ⟨rb,rfl,hs⟩
     (simp only[aS];(refine Sep.new hs fun qQ h hs=>?_;try simp only[sz2]at hs);(refine Sep.lE hs 3 0 _ rfl rfl (fun _=>rfl) (by simp[Value.oneCell']) rfl (by omega) (by first|omega|(simp only[List.length_set,List.length_map,List.length_replicate,List.length_append,List.length_cons,List.length_nil,List.length_reverse,List.length_range];omega)|(simp;omega)) fun sl h XM hs=>?_;simp only[sz0,sz1]at hs);(refine Sep.st hs 2 rfl rfl rfl fun h hs=>?_;simp only[sz0,sz1]at hs))
     exact fin h rb _ _ (Sep.jN 5 hs [2,1,3,4,0] rfl (by simp))
    ·have hs:Sep h1 h [_,_,_]:=hs.re [2,0,1] rfl
     rw[ae]
     refine (Ke hs n T8).mono ?_
     rintro v h ⟨rb,rfl,hs⟩
     (simp only[aS])
     refine aK ?_ ?_
     ·(refine Sep.bu hs 1 rfl rfl ?_;(refine Sep.new hs fun qQ h hs=>?_;try simp only[sz2]at hs);(refine Sep.lE hs 3 0 _ rfl rfl (fun _=>rfl) (by simp[Value.oneCell']) rfl (by omega) (by first|omega|(simp only[List.length_set,List.length_map,List.length_replicate,List.length_append,List.length_cons,List.length_nil,List.length_reverse,List.length_range];omega)|(simp;omega)) fun sl h XM hs=>?_;simp only[sz0,sz1]at hs);(refine Sep.st hs 2 rfl rfl rfl fun h hs=>?_;simp only[sz0,sz1]at hs))
      exact fin h rb _ _ (Sep.jN 5 hs [2,1,3,4,0] rfl (by simp))
     ·((refine Sep.new hs fun qQ h hs=>?_;try simp only[sz2]at hs);refine Sep.bu hs 2 rfl rfl ?_;(refine Sep.lE hs 3 0 _ rfl rfl (fun _=>rfl) (by simp[Value.oneCell']) rfl (by omega) (by first|omega|(simp only[List.length_set,List.length_map,List.length_replicate,List.length_append,List.length_cons,List.length_nil,List.length_reverse,List.length_range];omega)|(simp;omega)) fun sl h XM hs=>?_;simp only[sz0,sz1]at hs);(refine Sep.st hs 2 rfl rfl rfl fun h hs=>?_;simp only[sz0,sz1]at hs))
      exact fin h rb _ _ (Sep.jN 5 hs [2,1,3,4,0] rfl (by simp))
   refine aE (fun hc=>?_) (fun hc=>?_)
   ·exact k7 1 (by unfold jI;rw[if_pos (by simpa using hc)];rfl) (by omega) (by omega)
   ·have hc:¬(iD[k]<1∨iD[k]>8):=by simpa using hc
    exact k7 _ (by unfold jI;rw[if_neg hc];omega) (by omega) (by omega)
 have hs:=jh.2 ⟨⟨none,0,0⟩,((hs.fw b0E 1).d3n (f:=RC)).swap⟩
 exact loop iD.length 0 h (by omega) (by simpa using hs)
end new
end Go.Proofs.YtnpinhahjgbigaaGreatDoor.LMbx
end
section
set_option maxRecDepth 100000
namespace Go.Proofs.YtnpinhahjgbigaaGreatDoor
open Go Go.Sb
def c7v (g h i j:Int)(a:Sl)(k:Int)(b d e f:Sl):M Value:=Nf Tryz.prog 31 #[.agg #[.int .i64 g,.int .i64 h,.int .i64 i,.int .i64 j,.slice a.p a.n a.c,.int .i64 k,.slice b.p b.n b.c,.slice d.p d.n d.c,.slice e.p e.n e.c,.slice f.p f.n f.c]]
def e0p (I J K L:Int)(i:Sl)(N:Int)(j k l m:Sl):M Value:=
 aJ #[.int .i64 I,.int .i64 J,.int .i64 K,.int .i64 L,.slice i.p i.n i.c,.int .i64 N,.slice j.p j.n j.c,.slice k.p k.n k.c,.slice l.p l.n l.c,.slice m.p m.n m.c] 27 fun a=>
 ab .i64 a fun s=>
 ab .i64 (a.add 1) fun t=>
 ab .i64 (a.add 2) fun u=>
 ab .i64 (a.add 3) fun B=>
 aw (a.add 4) fun C=>
 ab .i64 (a.add 5) fun D=>
 aw (a.add 6) fun E=>
 aw (a.add 7) fun F=>
 aw (a.add 8) fun G=>
 aw (a.add 9) fun H=>
 ai (c4B s t u B C D E F G H) fun ah=>
 ki gx (aP .i64) ah fun an o=>
 aI (o != 0) (
 af (.tuple #[.pointer none,.int .i64 o])) (
 ab .i64 a fun A=>
 ab .i64 (a.add 1) fun r=>
 ab .i64 (a.add 2) fun bc=>
 ab .i64 (a.add 3) fun P=>
 aw (a.add 4) fun d=>
 ab .i64 (a.add 5) fun Q=>
 aw (a.add 6) fun e=>
 aw (a.add 7) fun f=>
 aw (a.add 8) fun g=>
 aw (a.add 9) fun h=>
 ab .i64 a fun R=>
 ab .i64 (a.add 1) fun S=>
 aw (a.add 4) fun T=>
 ab .i64 (a.add 5) fun ak=>
 aw (a.add 6) fun V=>
 aw (a.add 7) fun aj=>
 aw (a.add 9) fun Z=>
 FC 10 [
 (1,ai (c5T (Sl.mk none 0 0)) fun v=>gx v fun O=>af (.pointer O)),
 (8,ai (YP R S) fun aa=>gx aa fun X=>af (.pointer X)),
 (11,ai (c5M T) fun x=>gx x fun Y=>af (.pointer Y)),
 (14,ai (c5A ak) fun ac=>gx ac fun am=>af (.pointer am)),
 (17,ai (c5y V) fun y=>gx y fun U=>af (.pointer U)),
 (20,ai (c5S aj) fun ad=>gx ad fun al=>af (.pointer al)),
 (24,ai (c5D (Z.n:Int)) fun ae=>gx ae fun W=>af (.pointer W)),
 (26,ai (c5F) fun ag=>gx ag fun w=>af (.pointer w)),
 (27,mv fun q=>af (.map (some q))),
 (28,mv fun z=>af (.map (some z)))] (fun _=>undef) fun b=>
 gx (b 1) fun ap=>
 gx (b 8) fun aq=>
 gx (b 11) fun ar=>
 gx (b 14) fun au=>
 gx (b 17) fun av=>
 gx (b 20) fun ax=>
 gx (b 24) fun ay=>
 gx (b 26) fun az=>
 unM (b 27) fun ba=>
 unM (b 28) fun bb=>
 aJ #[.int .i64 A,.int .i64 r,.int .i64 bc,.int .i64 P,.slice d.p d.n d.c,.int .i64 Q,.slice e.p e.n e.c,.slice f.p f.n f.c,.slice g.p g.n g.c,.slice h.p h.n h.c,.int .i64 0,.pointer ap,.pointer aq,.pointer ar,.pointer au,.pointer av,.pointer ax,.pointer ay,.pointer an,.pointer az,.slice none (0) (0),.slice none (0) (0),.map ba,.map bb,.slice none (0) (0)] 138 fun ao=>
 af (.tuple #[.pointer (some ao),.int .i64 0]))
theorem f0v (bE bF bG bH aV bI aW aX aY aZ){h Q}:e0p bE bF bG bH aV bI aW aX aY aZ h Q→c7v bE bF bG bH aV bI aW aX aY aZ h Q:=Nf.bh Tryz.call31 Tryz.func31 rfl mixed (cuts:=[]) (dm:=[(4,[2000000,0,2,3,4,5,6,7,9,10,12,13,15,16,18,19,21,22,23,25,2000001,1,8,11,14,17,20,24,26,27,28,2000001,29,30,31,32])]) (by kernel_rfl)
end Go.Proofs.YtnpinhahjgbigaaGreatDoor
end
section
set_option maxRecDepth 100000
namespace Go.Proofs.YtnpinhahjgbigaaGreatDoor
open Go Go.Sb
def f0w:M Value:=Nf Tryz.prog 7 #[]
def Nzv (f:Option Addr)(a b c d e:Int):M Value:=Nf Tryz.prog 32 #[.pointer f,.agg #[.int .i64 a,.int .i64 b,.int .i64 c,.int .i64 d,.int .i64 e]]
def c7w (b:Option Addr)(a:Int):M Value:=Nf Tryz.prog 33 #[.pointer b,.int .i64 a]
def c7x (a:Option Addr):M Value:=Nf Tryz.prog 34 #[.pointer a]
def c7y (a:Option Addr):M Value:=Nf Tryz.prog 35 #[.pointer a]
def c7z (a:Option Addr):M Value:=Nf Tryz.prog 36 #[.pointer a]
def c7A (a:Option Addr):M Value:=Nf Tryz.prog 37 #[.pointer a]
def c7B (a:Option Addr):M Value:=Nf Tryz.prog 25 #[.pointer a]
def c7C (f:Option Addr)(a b c d e:Int):M Value:=Nf Tryz.prog 82 #[.pointer f,.agg #[.int .i64 a,.int .i64 b,.int .i64 c,.int .i64 d,.int .i64 e]]
def c7D (f:Option Addr)(a b c d e:Int):M Value:=Nf Tryz.prog 86 #[.pointer f,.agg #[.int .i64 a,.int .i64 b,.int .i64 c,.int .i64 d,.int .i64 e]]
def b0F (a:Option Addr):M Value:=Nf Tryz.prog 87 #[.pointer a]
def b0G (b a:Option Addr):M Value:=Nf Tryz.prog 88 #[.pointer b,.pointer a]
def c7E (d a:Option Addr)(b:Int)(c:Bool):M Value:=Nf Tryz.prog 89 #[.pointer d,.pointer a,.int .i64 b,.bool c]
def c7F (b a:Option Addr):M Value:=Nf Tryz.prog 92 #[.pointer b,.pointer a]
def Nzl (b:Option Addr)(a:Int):M Value:=Nf Tryz.prog 146 #[.pointer b,.int .i64 a]
def Nzi (c:Option Addr)(a:Int)(b:Bool):M Value:=Nf Tryz.prog 148 #[.pointer c,.int .i64 a,.bool b]
def Nza (a:Option Addr):M Value:=Nf Tryz.prog 152 #[.pointer a]
def Nzg (a:Option Addr):M Value:=Nf Tryz.prog 153 #[.pointer a]
def c7G (b a:Option Addr):M Value:=Nf Tryz.prog 154 #[.pointer b,.pointer a]
def uu (j:Option Addr)(i a k b c d e f g h:Int):M Value:=Nf Tryz.prog 156 #[.pointer j,.int .i64 i,.int .i64 a,.int .i64 k,.agg #[.int .i64 b,.int .i64 c,.int .i64 d,.int .i64 e,.int .i64 f,.int .i64 g,.int .i64 h]]
def a2u (e:Option Addr)(d a b c:Int):M Value:=Nf Tryz.prog 159 #[.pointer e,.int .i64 d,.agg #[.int .i64 a,.int .i64 b,.int .i64 c]]
def c7H (h i j k:Int)(a:Sl)(l:Int)(b d e f g:Sl)(m:Int):M Value:=Nf Tryz.prog 8 #[.agg #[.int .i64 h,.int .i64 i,.int .i64 j,.int .i64 k,.slice a.p a.n a.c,.int .i64 l,.slice b.p b.n b.c,.slice d.p d.n d.c,.slice e.p e.n e.c,.slice f.p f.n f.c],.slice g.p g.n g.c,.int .i64 m]
def c7I (h i j k:Int)(a:Sl)(l:Int)(b d e f g:Sl)(m:Int):M Value:=Nf Tryz.prog 10 #[.agg #[.int .i64 h,.int .i64 i,.int .i64 j,.int .i64 k,.slice a.p a.n a.c,.int .i64 l,.slice b.p b.n b.c,.slice d.p d.n d.c,.slice e.p e.n e.c,.slice f.p f.n f.c],.slice g.p g.n g.c,.int .i64 m]
def c7J (h i j k:Int)(a:Sl)(l:Int)(b d e f g:Sl):M Value:=Nf Tryz.prog 19 #[.agg #[.int .i64 h,.int .i64 i,.int .i64 j,.int .i64 k,.slice a.p a.n a.c,.int .i64 l,.slice b.p b.n b.c,.slice d.p d.n d.c,.slice e.p e.n e.c,.slice f.p f.n f.c],.slice g.p g.n g.c]
def e0s (h i j k:Int)(a:Sl)(l:Int)(b d e f g:Sl):M Value:=Nf Tryz.prog 59 #[.agg #[.int .i64 h,.int .i64 i,.int .i64 j,.int .i64 k,.slice a.p a.n a.c,.int .i64 l,.slice b.p b.n b.c,.slice d.p d.n d.c,.slice e.p e.n e.c,.slice f.p f.n f.c],.slice g.p g.n g.c]
def c7K (d e f g a b c:Int):M Value:=Nf Tryz.prog 120 #[.agg #[.int .i64 d,.int .i64 e,.int .i64 f,.int .i64 g,.int .i64 a,.int .i64 b,.int .i64 c]]
def TK (a:Int):M Value:=Nf Tryz.prog 121 #[.int .i64 a]
def c7L (h i j k:Int)(a:Sl)(l:Int)(b d e f g:Sl)(m:Int):M Value:=Nf Tryz.prog 6 #[.agg #[.int .i64 h,.int .i64 i,.int .i64 j,.int .i64 k,.slice a.p a.n a.c,.int .i64 l,.slice b.p b.n b.c,.slice d.p d.n d.c,.slice e.p e.n e.c,.slice f.p f.n f.c],.slice g.p g.n g.c,.int .u16 m]
def e0t (b:Option Addr)(I J K L N:Int):M Value:=
 aJ #[.int .i64 I,.int .i64 J,.int .i64 K,.int .i64 L,.int .i64 N] 47 fun a=>
 ab .i64 (a.add 3) fun V=>
 ai (aI (decide (V≥(1:Int))) (ab .i64 (a.add 3) fun F=>
 af (decide (F≤1048576))) (af false)) fun w=>
 ai (aI w (ab .i64 (a.add 4) fun z=>
 af (decide (z≥1))) (af false)) fun x=>
 ai (aI x (ab .i64 (a.add 4) fun H=>
 af (decide (H≤256))) (af false)) fun G=>
 ai (aI b.isNone (af true) (ab .i64 (a.add 1) fun R=>
 af (decide (R<1)))) fun s=>
 ai (aI s (af true) (ab .i64 (a.add 1) fun S=>
 af (decide (S>5)))) fun t=>
 aI t (
 af (.int .i64 1)) (
 ab .i64 a fun X=>
 ax b fun g=>
 ab .i64 (g.add 10) fun W=>
 ai (aI (decide (X<W)) (af true) (ab .i64 a fun T=>
 af (decide (T>(16777216:Int))))) fun u=>
 ai (aI u (af true) (ab .i64 (a.add 1) fun d=>
 af ((d == 5)&&(!G)))) fun v=>
 aI v (
 af (.int .i64 5)) (
 jW a fun m n o p q=>
 ai (c7C b m n o p q) fun P=>
 da P fun O=>
 aI (!O) (
 af (.int .i64 6)) (
 ax b fun r=>
 bz (r.add 11) fun f=>
 ai (Y0 f) fun Q=>
 aP .i64 Q fun U=>
 aI (decide (U≥(256:Int))) (
 af (.int .i64 7)) (
 ax b fun c=>
 aG (
 bz (c.add 11) fun y=>
 jW a fun h i j k l=>
 ai (Nzh y h i j k l) fun Z=>
 af (.int .i64 0)) (
 jW a fun A B C D E=>
 bz (c.add 11) fun e=>
 ai (Nzh e A B C D E) fun Y=>
 af (.int .i64 0))))))
theorem f0x (k0 jc jd je jf jg){h Q}:e0t k0 jc jd je jf jg h Q→Nzv k0 jc jd je jf jg h Q:=Nf.bh Tryz.call32 Tryz.func32 rfl mixed (cuts:=[]) (dm:=[(10,[])]) (by kernel_rfl)
def Kzg (b:Option Addr)(a:Int):M Value:=Cut Tryz.prog 33 (aQ Tryz.f33 5) (bf [(0,.pointer b),(1,.int .i64 a)] 103 0)
def Kzq (d:Option Addr)(b:Int)(a:Sl)(e f:Int):M Value:=Cut Tryz.prog 33 (aQ Tryz.f33 7) (bf [(0,.pointer d),(1,.int .i64 b),(38,.slice a.p a.n a.c),(39,.int .i64 e),(40,.int .i64 f)] 103 0)
def Kzl (d:Option Addr)(b:Int)(a:Option Addr)(c:Bool):M Value:=Cut Tryz.prog 33 (aQ Tryz.f33 14) (bf [(0,.pointer d),(1,.int .i64 b),(7,.pointer a),(8,.bool c)] 103 0)
def b0H (c:Option Addr)(b:Int)(a:Option Addr)(d:Int):M Value:=Cut Tryz.prog 33 (aQ Tryz.f33 19) (bf [(0,.pointer c),(1,.int .i64 b),(7,.pointer a),(9,.int .i64 d)] 103 0)
def e0z (b:Option Addr)(a:Int):M Value:=
 aI b.isNone (
 af (.int .i64 1)) (
 ax b fun c=>
 ab .i64 (c.add 10) fun d=>
 aI ((decide (a<d))||(decide (a>16777216))) (
 af (.int .i64 5)) (
 Kzg b a))
def Bzu (a:Option Addr)(b:Int):M Value:=
 ax a fun g=>
 ab .i64 (g.add 10) fun m=>
 aI (decide (m<b)) (
 ax a fun f=>
 ax a fun c=>
 aG (
 bz (f.add 11) fun h=>
 ab .i64 (c.add 10) fun i=>
 ai (YZ h i) fun j=>
 sI j fun d=>
 Kzq a b d (d.n:Int) 0) (
 ab .i64 (c.add 10) fun o=>
 bz (f.add 11) fun l=>
 ai (YZ l o) fun k=>
 sI k fun e=>
 Kzq a b e (e.n:Int) 0)) (
 af (.int .i64 0))
def Bzv (a:Option Addr)(c:Int)(f:Sl)(g d:Int):M Value:=
 aI (decide (d<g)) (
 bd f d 5 fun i=>
 jW i fun j k l m n=>
 aJ #[.int .i64 0,.int .i64 0,.int .i64 0,.int .i64 0,.int .i64 0] 47 fun h=>
 YG h j k l m n <|
 jW h fun o p q r s=>
 ai (c7D a o p q r s) fun v=>
 Kzq a c f g (IntKind.i64.wrap (d+(1:Int)))) (
 ai (b0F a) fun t=>
 ki gx da t fun b e=>
 aI (!b.isNone) (
 ai (b0G a b) fun u=>
 Kzl a c b e) (
 Kzl a c b e))
def e0K (a:Option Addr)(c:Int)(b:Option Addr)(g:Bool):M Value:=
 ai (c7E a b c g) fun m=>
 aP .i64 m fun d=>
 ax a fun i=>
 ab .i64 (i.add 10) fun n=>
 ax a fun j=>
 an (j.add 10) (.int .i64 (IntKind.i64.wrap (n+d))) <|
 aI b.isNone (
 Kzg a c) (
 aI g (
 ax a fun k=>
 aw (k.add 21) fun f=>
 ax b fun l=>
 ab .i64 (l.add 1) fun e=>
 bd f e 11 fun o=>
 ab .i64 (o.add 9) fun h=>
 bd f e 11 fun p=>
 an (p.add 9) (.int .i64 (IntKind.i64.wrap (h+d))) <|
 b0H a c b d) (
 b0H a c b d))
def e0L (b:Option Addr)(c:Int)(a:Option Addr)(f:Int):M Value:=
 ax a fun d=>
 bz d fun i=>
 ai (a9R i f) fun g=>
 aP .i64 g fun m=>
 ax a fun e=>
 bz e fun j=>
 ai (YR j) fun h=>
 da h fun k=>
 aI k (
 ai (c7F b a) fun l=>
 Kzg b c) (
 Kzg b c)
theorem f0z (k0 bJ){h Q}:e0z k0 bJ h Q→c7w k0 bJ h Q:=Nf.bh Tryz.call33 Tryz.func33 rfl mixed (cuts:=[(5,[0,1]),(7,[0,1,38,39,40]),(14,[0,1,7,8]),(19,[0,1,7,9])]) (dm:=[(6,[]),(18,[0,1,2,3,4,5,6,7,8,9,10,11,12])]) (by kernel_rfl)
theorem Szu (k0 bJ){h Q}:Bzu k0 bJ h Q→Kzg k0 bJ h Q:=Cut.bh Tryz.func33 mixed (cuts:=[(5,[0,1]),(7,[0,1,38,39,40]),(14,[0,1,7,8]),(19,[0,1,7,9])]) (dm:=[(6,[]),(18,[0,1,2,3,4,5,6,7,8,9,10,11,12])]) (by kernel_rfl)
theorem Szv (k0 bJ t38 t39 t40){h Q}:Bzv k0 bJ t38 t39 t40 h Q→Kzq k0 bJ t38 t39 t40 h Q:=Cut.bh Tryz.func33 mixed (cuts:=[(5,[0,1]),(7,[0,1,38,39,40]),(14,[0,1,7,8]),(19,[0,1,7,9])]) (dm:=[(6,[]),(18,[0,1,2,3,4,5,6,7,8,9,10,11,12])]) (by kernel_rfl)
theorem f0A (k0 bJ a7 cS){h Q}:e0K k0 bJ a7 cS h Q→Kzl k0 bJ a7 cS h Q:=Cut.bh Tryz.func33 mixed (cuts:=[(5,[0,1]),(7,[0,1,38,39,40]),(14,[0,1,7,8]),(19,[0,1,7,9])]) (dm:=[(6,[]),(18,[0,1,2,3,4,5,6,7,8,9,10,11,12])]) (by kernel_rfl)
theorem f0B (k0 bJ a7 n9){h Q}:e0L k0 bJ a7 n9 h Q→b0H k0 bJ a7 n9 h Q:=Cut.bh Tryz.func33 mixed (cuts:=[(5,[0,1]),(7,[0,1,38,39,40]),(14,[0,1,7,8]),(19,[0,1,7,9])]) (dm:=[(6,[]),(18,[0,1,2,3,4,5,6,7,8,9,10,11,12])]) (by kernel_rfl)
def e0M (b:Option Addr):M Value:=
 aI b.isNone (
 af (.slice none (0) (0))) (
 ax b fun d=>
 aw (d.add 24) fun f=>
 ai (d7W f) fun e=>
 sI e fun a=>
 af (.slice a.p a.n a.c))
theorem f0C (k0){h Q}:e0M k0 h Q→c7x k0 h Q:=Nf.bh Tryz.call34 Tryz.func34 rfl mixed (cuts:=[]) (dm:=[]) (by kernel_rfl)
def e0N (b:Option Addr):M Value:=
 aI b.isNone (
 af (.slice none (0) (0))) (
 ax b fun d=>
 aw (d.add 21) fun f=>
 ai (d7X f) fun e=>
 sI e fun a=>
 af (.slice a.p a.n a.c))
theorem f0D (k0){h Q}:e0N k0 h Q→c7y k0 h Q:=Nf.bh Tryz.call35 Tryz.func35 rfl mixed (cuts:=[]) (dm:=[]) (by kernel_rfl)
def e0O (a:Option Addr):M Value:=
 aI a.isNone (
 af (.int .i64 0)) (
 ax a fun b=>
 ab .i64 (b.add 10) fun c=>
 af (.int .i64 c))
theorem f0E (k0){h Q}:e0O k0 h Q→c7z k0 h Q:=Nf.bh Tryz.call36 Tryz.func36 rfl mixed (cuts:=[]) (dm:=[]) (by kernel_rfl)
def e0P (a:Option Addr):M Value:=
 aI a.isNone (
 af (.int .i64 0)) (
 ax a fun b=>
 bz (b.add 19) fun d=>
 ai (c5H d) fun c=>
 aP .i64 c fun e=>
 af (.int .i64 e))
theorem f0F (k0){h Q}:e0P k0 h Q→c7A k0 h Q:=Nf.bh Tryz.call37 Tryz.func37 rfl mixed (cuts:=[]) (dm:=[]) (by kernel_rfl)
def e0Q (b:Option Addr):M Value:=
 aI b.isNone (
 af (.slice none (0) (0))) (
 ax b fun d=>
 bz (d.add 19) fun f=>
 ai (d7T f) fun e=>
 sI e fun a=>
 af (.slice a.p a.n a.c))
theorem f0G (k0){h Q}:e0Q k0 h Q→c7B k0 h Q:=Nf.bh Tryz.call25 Tryz.func25 rfl mixed (cuts:=[]) (dm:=[]) (by kernel_rfl)
def a2G (b:Option Addr)(a:Addr):M Value:=Cut Tryz.prog 82 (aQ Tryz.f82 6) (bf [(0,.pointer b),(3,.pointer (some a))] 33 0)
def e0R (c:Option Addr)(m o p q r:Int):M Value:=
 aJ #[.int .i64 m,.int .i64 o,.int .i64 p,.int .i64 q,.int .i64 r] 47 fun a=>
 ax c fun f=>
 aw (f.add 8) fun d=>
 ab .i64 (a.add 1) fun b=>
 aI (b == 2) (
 aI (b == 2) (
 a2G c a) (
 ab .i64 (a.add 2) fun s=>
 ai (aI (decide (s≥0)) (ab .i64 (a.add 2) fun t=>
 af (decide (t<(d.n:Int)))) (af false)) fun g=>
 af (.bool g))) (
 aI (b == 3) (
 aI (b == 3) (
 a2G c a) (
 ab .i64 (a.add 2) fun j=>
 ai (aI (decide (j≥0)) (ab .i64 (a.add 2) fun k=>
 af (decide (k<(d.n:Int)))) (af false)) fun h=>
 af (.bool h))) (
 aI (b == 4) (
 a2G c a) (
 ab .i64 (a.add 2) fun l=>
 ai (aI (decide (l≥0)) (ab .i64 (a.add 2) fun e=>
 af (decide (e<(d.n:Int)))) (af false)) fun i=>
 af (.bool i))))
def e0S (d:Option Addr)(a:Addr):M Value:=
 ax d fun b=>
 aw (b.add 9) fun e=>
 ab .i64 (a.add 2) fun f=>
 ai (aI (decide (f≥0)) (ab .i64 (a.add 2) fun g=>
 af (decide (g<(e.n:Int)))) (af false)) fun c=>
 af (.bool c)
theorem f0H (k0 jc jd je jf jg){h Q}:e0R k0 jc jd je jf jg h Q→c7C k0 jc jd je jf jg h Q:=Nf.bh Tryz.call82 Tryz.func82 rfl mixed (cuts:=[(6,[0,3])]) (dm:=[]) (by kernel_rfl)
theorem f0I (k0 e3){h Q}:e0S k0 e3 h Q→a2G k0 e3 h Q:=Cut.bh Tryz.func82 mixed (cuts:=[(6,[0,3])]) (dm:=[]) (by kernel_rfl)
def e0T (b:Option Addr)(O P Q R S:Int):M Value:=
 aJ #[.int .i64 O,.int .i64 P,.int .i64 Q,.int .i64 R,.int .i64 S] 47 fun a=>
 ab .i64 (a.add 1) fun c=>
 aI (c == 1) (
 ab .i64 (a.add 2) fun N=>
 ai (Nzl b N) fun av=>
 af (.tuple #[])) (
 aI (c == 2) (
 ax b fun g=>
 aG (
 bz (g.add 17) fun B=>
 ab .i64 (a.add 2) fun C=>
 ai (YK B C) fun D=>
 ki da (aP .i64) D fun u ak=>
 ab .i64 (a.add 2) fun E=>
 ai (Nzi b E u) fun am=>
 af (.tuple #[])) (
 ab .i64 (a.add 2) fun T=>
 bz (g.add 17) fun W=>
 ai (YK W T) fun t=>
 ki da (aP .i64) t fun Z ah=>
 ab .i64 (a.add 2) fun U=>
 ai (Nzi b U Z) fun aw=>
 af (.tuple #[]))) (
 aI (c == 3) (
 ax b fun d=>
 aG (
 bz (d.add 17) fun aa=>
 ab .i64 (a.add 2) fun F=>
 ai (YM aa F) fun G=>
 aP .i64 G fun ao=>
 af (.tuple #[])) (
 ab .i64 (a.add 2) fun s=>
 bz (d.add 17) fun V=>
 ai (YM V s) fun X=>
 aP .i64 X fun ay=>
 af (.tuple #[]))) (
 aI (c == 4) (
 ax b fun e=>
 aG (
 bz (e.add 17) fun H=>
 ab .i64 (a.add 2) fun I=>
 ai (YL H I) fun J=>
 ki da (aP .i64) J fun v al=>
 ab .i64 (a.add 2) fun K=>
 ai (Nzi b K v) fun ap=>
 af (.tuple #[])) (
 ab .i64 (a.add 2) fun k=>
 bz (e.add 17) fun ac=>
 ai (YL ac k) fun Y=>
 ki da (aP .i64) Y fun j aj=>
 ab .i64 (a.add 2) fun l=>
 ai (Nzi b l j) fun az=>
 af (.tuple #[]))) (
 aI (c == 5) (
 ab .i64 (a.add 2) fun m=>
 ai (Nzl b m) fun ar=>
 ab .i64 (a.add 4) fun ad=>
 aI (decide (ad>(1:Int))) (
 ab .i64 a fun ae=>
 ab .i64 (a.add 3) fun h=>
 an a (.int .i64 (IntKind.i64.wrap (ae+h))) <|
 ab .i64 (a.add 4) fun ag=>
 an (a.add 4) (.int .i64 (IntKind.i64.wrap (ag-(1:Int)))) <|
 ax b fun f=>
 aG (
 bz (f.add 11) fun L=>
 jW a fun w x y z A=>
 ai (Nzh L w x y z A) fun aq=>
 af (.tuple #[])) (
 jW a fun n o p q r=>
 bz (f.add 11) fun i=>
 ai (Nzh i n o p q r) fun au=>
 af (.tuple #[]))) (
 af (.tuple #[]))) (
 af (.tuple #[]))))))
theorem f0J (k0 jc jd je jf jg){h Q}:e0T k0 jc jd je jf jg h Q→c7D k0 jc jd je jf jg h Q:=Nf.bh Tryz.call86 Tryz.func86 rfl mixed (cuts:=[]) (dm:=[(5,[]),(8,[]),(10,[]),(17,[])]) (by kernel_rfl)
def Kzr (c a:Option Addr)(b:Bool):M Value:=Cut Tryz.prog 87 (aQ Tryz.f87 17) (bf [(0,.pointer c),(7,.pointer a),(8,.bool b)] 101 0)
def e0U (a:Option Addr):M Value:=
 ax a fun v=>
 bz (v.add 18) fun P=>
 ai (a8Y P) fun T=>
 tM T fun O=>
 bB O fun H I=>
 kg H fun G=>
 bB G fun x y=>
 aP .i64 x fun z=>
 bB y fun A B=>
 aP .i64 A fun C=>
 bB B fun D E=>
 aP .i64 D fun F=>
 fO E <|
 bB I fun J K=>
 aP .i64 J fun j=>
 bB K fun L N=>
 da L fun i=>
 fO N <|
 aJ #[.int .i64 0,.int .i64 0,.int .i64 0] 225 fun c=>
 an c (.int .i64 z) <|
 an (c.add 1) (.int .i64 C) <|
 an (c.add 2) (.int .i64 F) <|
 ai (Nza a) fun U=>
 gx U fun b=>
 aI (b.isNone&&(!i)) (
 af (.tuple #[.pointer none,.bool false])) (
 aI b.isNone (
 ai (Nzg a) fun aj=>
 ai (Nza a) fun V=>
 gx V fun Y=>
 af (.tuple #[.pointer Y,.bool false])) (
 ai (aI i (ai (c7G a b) fun W=>
 aP .i64 W fun aa=>
 af (decide (j>aa))) (af false)) fun Q=>
 aI Q (
 ax b fun u=>
 bz u fun R=>
 ai (a9S R) fun q=>
 da q fun d=>
 aI (!d) (
 ax b fun t=>
 an (t.add 2) (.bool true) <|
 ax a fun w=>
 aw (w.add 21) fun g=>
 ax b fun s=>
 ab .i64 (s.add 1) fun h=>
 bd g h 11 fun k=>
 ab .i64 (k.add 6) fun S=>
 bd g h 11 fun ac=>
 an (ac.add 6) (.int .i64 (IntKind.i64.wrap (S+1))) <|
 ax a fun e=>
 ax b fun f=>
 aG (
 ab .i64 (e.add 10) fun l=>
 ab .i64 (f.add 1) fun m=>
 ai (uu a 4 l m 0 0 0 0 0 0 0) fun ad=>
 ai (Nzg a) fun ae=>
 ai (Nza a) fun n=>
 gx n fun o=>
 af (.tuple #[.pointer o,.bool false])) (
 ab .i64 (f.add 1) fun r=>
 ab .i64 (e.add 10) fun Z=>
 ai (uu a 4 Z r 0 0 0 0 0 0 0) fun ag=>
 ai (Nzg a) fun ah=>
 ai (Nza a) fun X=>
 gx X fun p=>
 af (.tuple #[.pointer p,.bool false]))) (
 Kzr a b d)) (
 Kzr a b false)))
def e1c (c a:Option Addr)(b:Bool):M Value:=
 ax a fun h=>
 g9 (h.add 2) fun f=>
 aI f (
 ax a fun i=>
 an (i.add 2) (.bool false) <|
 ax c fun d=>
 ax a fun e=>
 aG (
 ab .i64 (d.add 10) fun j=>
 ab .i64 (e.add 1) fun k=>
 ai (uu c 5 j k 0 0 0 0 0 0 0) fun m=>
 af (.tuple #[.pointer a,.bool b])) (
 ab .i64 (e.add 1) fun g=>
 ab .i64 (d.add 10) fun l=>
 ai (uu c 5 l g 0 0 0 0 0 0 0) fun n=>
 af (.tuple #[.pointer a,.bool b]))) (
 af (.tuple #[.pointer a,.bool b]))
theorem f0L (k0){h Q}:e0U k0 h Q→b0F k0 h Q:=Nf.bh Tryz.call87 Tryz.func87 rfl mixed (cuts:=[(17,[0,7,8])]) (dm:=[(13,[0,1,2,3,4,5,6,7,8,9,10,11]),(14,[]),(19,[])]) (by kernel_rfl)
theorem f0M (k0 a7 cS){h Q}:e1c k0 a7 cS h Q→Kzr k0 a7 cS h Q:=Cut.bh Tryz.func87 mixed (cuts:=[(17,[0,7,8])]) (dm:=[(13,[0,1,2,3,4,5,6,7,8,9,10,11]),(14,[]),(19,[])]) (by kernel_rfl)
def b0T (c a:Option Addr)(d:Addr)(b:Bool)(e:Addr):M Value:=Cut Tryz.prog 88 (aQ Tryz.f88 6) (bf [(0,.pointer c),(1,.pointer a),(4,.pointer (some d)),(6,.bool b),(7,.pointer (some e))] 98 0)
def a2O (c a:Option Addr)(d:Addr)(b:Bool):M Value:=Cut Tryz.prog 88 (aQ Tryz.f88 9) (bf [(0,.pointer c),(1,.pointer a),(4,.pointer (some d)),(6,.bool b)] 98 0)
def a2P (e b:Option Addr)(f:Addr)(c:Bool)(d g:Int)(a:Bool):M Value:=Cut Tryz.prog 88 (aQ Tryz.f88 10) (bf [(0,.pointer e),(1,.pointer b),(4,.pointer (some f)),(6,.bool c),(8,.int .i64 d),(9,.int .i64 g),(10,.bool a)] 98 0)
def Kza (c a:Option Addr)(d:Addr)(b:Bool):M Value:=Cut Tryz.prog 88 (aQ Tryz.f88 12) (bf [(0,.pointer c),(1,.pointer a),(4,.pointer (some d)),(6,.bool b)] 98 0)
def e1d (c b:Option Addr):M Value:=
 ax b fun i=>
 bz i fun v=>
 ai (YQ v) fun E=>
 tM E fun A=>
 bB A fun w x=>
 kg w fun s=>
 bB s fun j k=>
 aP .i64 j fun l=>
 bB k fun m n=>
 aP .i64 m fun o=>
 bB n fun p q=>
 aP .i64 p fun r=>
 fO q <|
 bB x fun y z=>
 da y fun H=>
 fO z <|
 aJ #[.int .i64 0,.int .i64 0,.int .i64 0] 90 fun a=>
 an a (.int .i64 l) <|
 an (a.add 1) (.int .i64 o) <|
 an (a.add 2) (.int .i64 r) <|
 aI (!H) (
 af (.tuple #[])) (
 ab .i64 a fun D=>
 aI (D == 2) (
 ax c fun B=>
 aw (B.add 21) fun G=>
 ax b fun f=>
 ab .i64 (f.add 1) fun C=>
 bd G C 11 fun e=>
 ax c fun d=>
 aG (
 bz (d.add 12) fun t=>
 ab .i64 (a.add 1) fun h=>
 ai (Nzq t h) fun u=>
 ki da (aP .i64) u fun I L=>
 b0T c b a I e) (
 ab .i64 (a.add 1) fun J=>
 bz (d.add 12) fun K=>
 ai (Nzq K J) fun F=>
 ki da (aP .i64) F fun g N=>
 b0T c b a g e)) (
 a2O c b a false))
def e1i (d c:Option Addr)(e:Addr)(b:Bool)(a:Addr):M Value:=
 aI b (
 ab .i64 (a.add 7) fun f=>
 an (a.add 7) (.int .i64 (IntKind.i64.wrap (f+(1:Int)))) <|
 a2O d c e b) (
 ab .i64 (a.add 8) fun g=>
 an (a.add 8) (.int .i64 (IntKind.i64.wrap (g+(1:Int)))) <|
 a2O d c e b)
def e1j (b c:Option Addr)(a:Addr)(e:Bool):M Value:=
 ax c fun d=>
 aG (
 ab .i64 (d.add 1) fun n=>
 ab .i64 a fun g=>
 ab .i64 (a.add 1) fun h=>
 ab .i64 (a.add 2) fun i=>
 ai (a2u b n g h i) fun o=>
 un3 (aP .i64) (aP .i64) da o fun j k l=>
 a2P b c a e j k l) (
 ab .i64 a fun p=>
 ab .i64 (a.add 1) fun m=>
 ab .i64 (a.add 2) fun q=>
 ab .i64 (d.add 1) fun f=>
 ai (a2u b f p m q) fun u=>
 un3 (aP .i64) (aP .i64) da u fun r s t=>
 a2P b c a e r s t)
def e1p (a c:Option Addr)(b:Addr)(d:Bool)(e f:Int)(l:Bool):M Value:=
 aI l (
 ax a fun g=>
 ax c fun h=>
 aG (
 ab .i64 (g.add 10) fun j=>
 aG (
 ab .i64 (h.add 1) fun n=>
 ab .i64 b fun o=>
 ai (uu a 8 j n 0 0 0 0 o e f) fun A=>
 Kza a c b d) (
 ab .i64 b fun p=>
 ab .i64 (h.add 1) fun q=>
 ai (uu a 8 j q 0 0 0 0 p e f) fun B=>
 Kza a c b d)) (
 aG (
 ab .i64 (h.add 1) fun k=>
 aG (
 ab .i64 (g.add 10) fun r=>
 ab .i64 b fun s=>
 ai (uu a 8 r k 0 0 0 0 s e f) fun C=>
 Kza a c b d) (
 ab .i64 b fun t=>
 ab .i64 (g.add 10) fun u=>
 ai (uu a 8 u k 0 0 0 0 t e f) fun y=>
 Kza a c b d)) (
 ab .i64 b fun i=>
 aG (
 ab .i64 (g.add 10) fun v=>
 ab .i64 (h.add 1) fun w=>
 ai (uu a 8 v w 0 0 0 0 i e f) fun z=>
 Kza a c b d) (
 ab .i64 (h.add 1) fun x=>
 ab .i64 (g.add 10) fun m=>
 ai (uu a 8 m x 0 0 0 0 i e f) fun D=>
 Kza a c b d)))) (
 Kza a c b d)
def e1q (aw N:Option Addr)(b:Addr)(c:Bool):M Value:=
 ax N fun d=>
 ax aw fun a=>
 aG (
 bz d fun p=>
 aG (
 ab .i64 b fun B=>
 ab .i64 (b.add 1) fun C=>
 ab .i64 (b.add 2) fun D=>
 ab .i64 a fun E=>
 ab .i64 (a.add 1) fun F=>
 ab .i64 (a.add 2) fun G=>
 ab .i64 (a.add 3) fun H=>
 ai (YX B C D E F G H c) fun R=>
 aP .i64 R fun S=>
 ai (TI p S) fun T=>
 aP .i64 T fun bb=>
 af (.tuple #[])) (
 ab .i64 a fun t=>
 ab .i64 (a.add 1) fun u=>
 ab .i64 (a.add 2) fun v=>
 ab .i64 (a.add 3) fun w=>
 ab .i64 b fun x=>
 ab .i64 (b.add 1) fun y=>
 ab .i64 (b.add 2) fun z=>
 ai (YX x y z t u v w c) fun U=>
 aP .i64 U fun V=>
 ai (TI p V) fun W=>
 aP .i64 W fun bc=>
 af (.tuple #[]))) (
 aG (
 ab .i64 b fun i=>
 ab .i64 (b.add 1) fun j=>
 ab .i64 (b.add 2) fun k=>
 aG (
 bz d fun X=>
 ab .i64 a fun A=>
 ab .i64 (a.add 1) fun I=>
 ab .i64 (a.add 2) fun J=>
 ab .i64 (a.add 3) fun K=>
 ai (YX i j k A I J K c) fun Y=>
 aP .i64 Y fun Z=>
 ai (TI X Z) fun aa=>
 aP .i64 aa fun bd=>
 af (.tuple #[])) (
 ab .i64 a fun l=>
 ab .i64 (a.add 1) fun m=>
 ab .i64 (a.add 2) fun n=>
 ab .i64 (a.add 3) fun o=>
 aG (
 bz d fun ac=>
 ai (YX i j k l m n o c) fun ad=>
 aP .i64 ad fun ae=>
 ai (TI ac ae) fun ag=>
 aP .i64 ag fun be=>
 af (.tuple #[])) (
 ai (YX i j k l m n o c) fun au=>
 aP .i64 au fun av=>
 bz d fun ah=>
 ai (TI ah av) fun aj=>
 aP .i64 aj fun bf=>
 af (.tuple #[])))) (
 ab .i64 a fun e=>
 ab .i64 (a.add 1) fun f=>
 ab .i64 (a.add 2) fun g=>
 ab .i64 (a.add 3) fun h=>
 aG (
 bz d fun ak=>
 ab .i64 b fun O=>
 ab .i64 (b.add 1) fun P=>
 ab .i64 (b.add 2) fun Q=>
 ai (YX O P Q e f g h c) fun al=>
 aP .i64 al fun am=>
 ai (TI ak am) fun an=>
 aP .i64 an fun bg=>
 af (.tuple #[])) (
 ab .i64 b fun q=>
 ab .i64 (b.add 1) fun r=>
 ab .i64 (b.add 2) fun s=>
 aG (
 bz d fun ao=>
 ai (YX q r s e f g h c) fun ap=>
 aP .i64 ap fun aq=>
 ai (TI ao aq) fun ar=>
 aP .i64 ar fun bh=>
 af (.tuple #[])) (
 ai (YX q r s e f g h c) fun ay=>
 aP .i64 ay fun L=>
 bz d fun ba=>
 ai (TI ba L) fun az=>
 aP .i64 az fun bi=>
 af (.tuple #[])))))
theorem f0P (k0 a1){h Q}:e1d k0 a1 h Q→b0G k0 a1 h Q:=Nf.bh Tryz.call88 Tryz.func88 rfl mixed (cuts:=[(6,[0,1,4,6,7]),(9,[0,1,4,6]),(10,[0,1,4,6,8,9,10]),(12,[0,1,4,6])]) (dm:=[(5,[]),(9,[]),(11,[]),(12,[])]) (by kernel_rfl)
theorem f0Q (k0 a1 o4 dX r7){h Q}:e1i k0 a1 o4 dX r7 h Q→b0T k0 a1 o4 dX r7 h Q:=Cut.bh Tryz.func88 mixed (cuts:=[(6,[0,1,4,6,7]),(9,[0,1,4,6]),(10,[0,1,4,6,8,9,10]),(12,[0,1,4,6])]) (dm:=[(5,[]),(9,[]),(11,[]),(12,[])]) (by kernel_rfl)
theorem f0R (k0 a1 o4 dX){h Q}:e1j k0 a1 o4 dX h Q→a2O k0 a1 o4 dX h Q:=Cut.bh Tryz.func88 mixed (cuts:=[(6,[0,1,4,6,7]),(9,[0,1,4,6]),(10,[0,1,4,6,8,9,10]),(12,[0,1,4,6])]) (dm:=[(5,[]),(9,[]),(11,[]),(12,[])]) (by kernel_rfl)
theorem f0S (k0 a1 o4 dX e8 v9 RS){h Q}:e1p k0 a1 o4 dX e8 v9 RS h Q→a2P k0 a1 o4 dX e8 v9 RS h Q:=Cut.bh Tryz.func88 mixed (cuts:=[(6,[0,1,4,6,7]),(9,[0,1,4,6]),(10,[0,1,4,6,8,9,10]),(12,[0,1,4,6])]) (dm:=[(5,[]),(9,[]),(11,[]),(12,[])]) (by kernel_rfl)
theorem f0T (k0 a1 o4 dX){h Q}:e1q k0 a1 o4 dX h Q→Kza k0 a1 o4 dX h Q:=Cut.bh Tryz.func88 mixed (cuts:=[(6,[0,1,4,6,7]),(9,[0,1,4,6]),(10,[0,1,4,6,8,9,10]),(12,[0,1,4,6])]) (dm:=[(5,[]),(9,[]),(11,[]),(12,[])]) (by kernel_rfl)
def b1t (a:Option Addr)(b:Bool)(c:Int):M Value:=Cut Tryz.prog 89 (aQ Tryz.f89 5) (bf [(1,.pointer a),(3,.bool b),(9,.int .i64 c)] 59 0)
def e1w (c d:Option Addr)(a:Int)(e:Bool):M Value:=
 ax c fun j=>
 ab .i64 (j.add 10) fun b=>
 ax c fun k=>
 bz (k.add 11) fun m=>
 ai (c5U m) fun i=>
 ki (aP .i64) da i fun f h=>
 aI h (
 ax c fun l=>
 ab .i64 (l.add 10) fun g=>
 b1t d e (if (IntKind.i64.wrap (f-g))<(IntKind.i64.wrap (a-b)) then (IntKind.i64.wrap (f-g)) else (IntKind.i64.wrap (a-b)))) (
 b1t d e (IntKind.i64.wrap (a-b)))
def e1x (c:Option Addr)(h:Bool)(a:Int):M Value:=
 aI (!c.isNone) (
 ax c fun e=>
 bz e fun k=>
 ai (a9T k) fun i=>
 aP .i64 i fun b=>
 ax c fun g=>
 bz g fun f=>
 ai (c5L f) fun j=>
 ki (aP .i64) da j fun d l=>
 aI h (
 af (.int .i64 (if d<(if b<a then b else a) then d else (if b<a then b else a)))) (
 af (.int .i64 (if b<a then b else a)))) (
 af (.int .i64 a))
theorem f0U (k0 a1 bN dk){h Q}:e1w k0 a1 bN dk h Q→c7E k0 a1 bN dk h Q:=Nf.bh Tryz.call89 Tryz.func89 rfl mixed (cuts:=[(5,[1,3,9])]) (dm:=[]) (by kernel_rfl)
theorem f0V (a1 dk n9){h Q}:e1x a1 dk n9 h Q→b1t a1 dk n9 h Q:=Cut.bh Tryz.func89 mixed (cuts:=[(5,[1,3,9])]) (dm:=[]) (by kernel_rfl)
def Kzs (b a:Option Addr)(c:Addr):M Value:=Cut Tryz.prog 92 (aQ Tryz.f92 2) (bf [(0,.pointer b),(1,.pointer a),(4,.pointer (some c))] 87 0)
def b1u (b a:Option Addr)(c:Addr):M Value:=Cut Tryz.prog 92 (aQ Tryz.f92 3) (bf [(0,.pointer b),(1,.pointer a),(4,.pointer (some c))] 87 0)
def b1v (b a:Option Addr)(c:Addr):M Value:=Cut Tryz.prog 92 (aQ Tryz.f92 4) (bf [(0,.pointer b),(1,.pointer a),(4,.pointer (some c))] 87 0)
def e1y (c b:Option Addr):M Value:=
 ax c fun g=>
 aw (g.add 21) fun t=>
 ax b fun h=>
 ab .i64 (h.add 1) fun q=>
 bd t q 11 fun a=>
 ax c fun d=>
 ax b fun e=>
 aG (
 ab .i64 (d.add 10) fun i=>
 bz e fun j=>
 ai (Nzt j) fun k=>
 da k fun l=>
 an (a.add 4) (.int .i64 i) <|
 an (a.add 5) (.bool l) <|
 Kzs c b a) (
 bz e fun f=>
 aG (
 ab .i64 (d.add 10) fun m=>
 ai (Nzt f) fun n=>
 da n fun o=>
 an (a.add 4) (.int .i64 m) <|
 an (a.add 5) (.bool o) <|
 Kzs c b a) (
 ai (Nzt f) fun s=>
 da s fun r=>
 ab .i64 (d.add 10) fun p=>
 an (a.add 4) (.int .i64 p) <|
 an (a.add 5) (.bool r) <|
 Kzs c b a))
def e1z (b a:Option Addr)(e:Addr):M Value:=
 ax b fun c=>
 ax a fun d=>
 aG (
 bz (c.add 16) fun f=>
 ab .i64 (d.add 1) fun g=>
 ai (YV f g) fun h=>
 aP .i64 h fun l=>
 b1u b a e) (
 ab .i64 (d.add 1) fun i=>
 bz (c.add 16) fun k=>
 ai (YV k i) fun j=>
 aP .i64 j fun m=>
 b1u b a e)
def e1A (b a:Option Addr)(e:Addr):M Value:=
 ax b fun c=>
 ax a fun d=>
 aG (
 bz (c.add 19) fun h=>
 ab .i64 (d.add 1) fun i=>
 ai (YO h i) fun j=>
 aP .i64 j fun l=>
 b1v b a e) (
 ab .i64 (d.add 1) fun k=>
 bz (c.add 19) fun f=>
 ai (YO f k) fun g=>
 aP .i64 g fun m=>
 b1v b a e)
def e1B (a d:Option Addr)(u:Addr):M Value:=
 ax a fun l=>
 aw (l.add 20) fun i=>
 ax a fun m=>
 aw (m.add 20) fun v=>
 mw i 1 0 (IntKind.i64.wrap ((v.n:Int)-1)) (i.c:Int) fun b=>
 ax a fun o=>
 an (o.add 20) (.slice b.p b.n b.c) <|
 g9 (u.add 5) fun y=>
 aI y (
 ax a fun e=>
 ax d fun f=>
 aG (
 ab .i64 (e.add 10) fun s=>
 ab .i64 (f.add 1) fun t=>
 ai (uu a 7 s t 0 0 0 0 0 11 0) fun A=>
 af (.tuple #[])) (
 ab .i64 (f.add 1) fun x=>
 ab .i64 (e.add 10) fun w=>
 ai (uu a 7 w x 0 0 0 0 0 11 0) fun B=>
 af (.tuple #[]))) (
 ax a fun g=>
 ax d fun h=>
 aG (
 ab .i64 (g.add 10) fun q=>
 ab .i64 (h.add 1) fun r=>
 ai (uu a 6 q r 0 0 0 0 0 0 0) fun z=>
 af (.tuple #[])) (
 ab .i64 (h.add 1) fun k=>
 ab .i64 (g.add 10) fun j=>
 ai (uu a 6 j k 0 0 0 0 0 0 0) fun C=>
 af (.tuple #[])))
theorem f0X (k0 a1){h Q}:e1y k0 a1 h Q→c7F k0 a1 h Q:=Nf.bh Tryz.call92 Tryz.func92 rfl mixed (cuts:=[(2,[0,1,4]),(3,[0,1,4]),(4,[0,1,4])]) (dm:=[(1,[]),(2,[]),(3,[]),(4,[0,1,2,3,4,5,6,7,8,9,10,11]),(6,[]),(7,[])]) (by kernel_rfl)
theorem f0Y (k0 a1 r4){h Q}:e1z k0 a1 r4 h Q→Kzs k0 a1 r4 h Q:=Cut.bh Tryz.func92 mixed (cuts:=[(2,[0,1,4]),(3,[0,1,4]),(4,[0,1,4])]) (dm:=[(1,[]),(2,[]),(3,[]),(4,[0,1,2,3,4,5,6,7,8,9,10,11]),(6,[]),(7,[])]) (by kernel_rfl)
theorem f0Z (k0 a1 r4){h Q}:e1A k0 a1 r4 h Q→b1u k0 a1 r4 h Q:=Cut.bh Tryz.func92 mixed (cuts:=[(2,[0,1,4]),(3,[0,1,4]),(4,[0,1,4])]) (dm:=[(1,[]),(2,[]),(3,[]),(4,[0,1,2,3,4,5,6,7,8,9,10,11]),(6,[]),(7,[])]) (by kernel_rfl)
theorem f1a (k0 a1 r4){h Q}:e1B k0 a1 r4 h Q→b1v k0 a1 r4 h Q:=Cut.bh Tryz.func92 mixed (cuts:=[(2,[0,1,4]),(3,[0,1,4]),(4,[0,1,4])]) (dm:=[(1,[]),(2,[]),(3,[]),(4,[0,1,2,3,4,5,6,7,8,9,10,11]),(6,[]),(7,[])]) (by kernel_rfl)
def Kzb (d:Option Addr)(a:Int)(c:Addr)(b:Int):M Value:=Cut Tryz.prog 146 (aQ Tryz.f146 1) (bf [(0,.pointer d),(1,.int .i64 a),(4,.pointer (some c)),(5,.int .i64 b)] 76 0)
def Kzc (a:Option Addr)(b:Int):M Value:=Cut Tryz.prog 146 (aQ Tryz.f146 6) (bf [(0,.pointer a),(6,.int .i64 b)] 76 0)
def e1D (b:Option Addr)(a:Int):M Value:=
 ax b fun d=>
 ax b fun e=>
 aG (
 bz (d.add 18) fun l=>
 aG (
 ab .i64 (e.add 10) fun n=>
 aG (
 ai (XS l a n) fun dq=>
 tM dq fun dn=>
 bB dn fun cf cg=>
 kg cf fun bh=>
 bB bh fun z A=>
 aP .i64 z fun B=>
 bB A fun C D=>
 aP .i64 C fun E=>
 bB D fun F G=>
 aP .i64 F fun H=>
 fO G <|
 bB cg fun ch ci=>
 aP .i64 ch fun cj=>
 fO ci <|
 aJ #[.int .i64 0,.int .i64 0,.int .i64 0] 225 fun f=>
 an f (.int .i64 B) <|
 an (f.add 1) (.int .i64 E) <|
 an (f.add 2) (.int .i64 H) <|
 Kzb b a f cj) (
 aJ #[.int .i64 0,.int .i64 0,.int .i64 0] 225 fun g=>
 ai (XS l a n) fun dr=>
 tM dr fun dp=>
 bB dp fun ck cl=>
 kg ck fun bi=>
 bB bi fun p q=>
 aP .i64 p fun r=>
 bB q fun s t=>
 aP .i64 s fun u=>
 bB t fun v w=>
 aP .i64 v fun x=>
 fO w <|
 bB cl fun cm cn=>
 aP .i64 cm fun co=>
 fO cn <|
 an g (.int .i64 r) <|
 an (g.add 1) (.int .i64 u) <|
 an (g.add 2) (.int .i64 x) <|
 Kzb b a g co)) (
 aJ #[.int .i64 0,.int .i64 0,.int .i64 0] 225 fun h=>
 ab .i64 (e.add 10) fun ds=>
 ai (XS l a ds) fun dt=>
 tM dt fun cz=>
 bB cz fun cp cq=>
 kg cp fun bj=>
 bB bj fun y ae=>
 aP .i64 y fun af=>
 bB ae fun ag ah=>
 aP .i64 ag fun aj=>
 bB ah fun ak al=>
 aP .i64 ak fun am=>
 fO al <|
 bB cq fun cr cs=>
 aP .i64 cr fun ct=>
 fO cs <|
 an h (.int .i64 af) <|
 an (h.add 1) (.int .i64 aj) <|
 an (h.add 2) (.int .i64 am) <|
 Kzb b a h ct)) (
 aG (
 ab .i64 (e.add 10) fun m=>
 aG (
 bz (d.add 18) fun o=>
 aG (
 ai (XS o a m) fun du=>
 tM du fun da=>
 bB da fun cu cv=>
 kg cu fun bk=>
 bB bk fun ao ap=>
 aP .i64 ao fun aq=>
 bB ap fun ar au=>
 aP .i64 ar fun av=>
 bB au fun aw ay=>
 aP .i64 aw fun az=>
 fO ay <|
 bB cv fun cw cx=>
 aP .i64 cw fun cy=>
 fO cx <|
 aJ #[.int .i64 0,.int .i64 0,.int .i64 0] 225 fun i=>
 an i (.int .i64 aq) <|
 an (i.add 1) (.int .i64 av) <|
 an (i.add 2) (.int .i64 az) <|
 Kzb b a i cy) (
 aJ #[.int .i64 0,.int .i64 0,.int .i64 0] 225 fun j=>
 ai (XS o a m) fun dv=>
 tM dv fun db=>
 bB db fun bo bp=>
 kg bo fun bl=>
 bB bl fun ba bb=>
 aP .i64 ba fun bc=>
 bB bb fun bd be=>
 aP .i64 bd fun bf=>
 bB be fun bg I=>
 aP .i64 bg fun J=>
 fO I <|
 bB bp fun bq br=>
 aP .i64 bq fun bs=>
 fO br <|
 an j (.int .i64 bc) <|
 an (j.add 1) (.int .i64 bf) <|
 an (j.add 2) (.int .i64 J) <|
 Kzb b a j bs)) (
 aJ #[.int .i64 0,.int .i64 0,.int .i64 0] 225 fun k=>
 bz (d.add 18) fun dw=>
 ai (XS dw a m) fun dx=>
 tM dx fun dc=>
 bB dc fun bt bu=>
 kg bt fun bm=>
 bB bm fun K L=>
 aP .i64 K fun N=>
 bB L fun O P=>
 aP .i64 O fun Q=>
 bB P fun R S=>
 aP .i64 R fun T=>
 fO S <|
 bB bu fun bv bw=>
 aP .i64 bv fun bx=>
 fO bw <|
 an k (.int .i64 N) <|
 an (k.add 1) (.int .i64 Q) <|
 an (k.add 2) (.int .i64 T) <|
 Kzb b a k bx)) (
 aJ #[.int .i64 0,.int .i64 0,.int .i64 0] 225 fun c=>
 aG (
 bz (d.add 18) fun dy=>
 ab .i64 (e.add 10) fun dz=>
 ai (XS dy a dz) fun ea=>
 tM ea fun dd=>
 bB dd fun ca cb=>
 kg ca fun bn=>
 bB bn fun U V=>
 aP .i64 U fun W=>
 bB V fun X Y=>
 aP .i64 X fun Z=>
 bB Y fun aa ac=>
 aP .i64 aa fun ad=>
 fO ac <|
 bB cb fun cc cd=>
 aP .i64 cc fun ce=>
 fO cd <|
 an c (.int .i64 W) <|
 an (c.add 1) (.int .i64 Z) <|
 an (c.add 2) (.int .i64 ad) <|
 Kzb b a c ce) (
 ab .i64 (e.add 10) fun ec=>
 bz (d.add 18) fun eh=>
 ai (XS eh a ec) fun ek=>
 tM ek fun ei=>
 bB ei fun ed ee=>
 kg ed fun eb=>
 bB eb fun de df=>
 aP .i64 de fun dg=>
 bB df fun dh di=>
 aP .i64 dh fun dj=>
 bB di fun dk dl=>
 aP .i64 dk fun dm=>
 fO dl <|
 bB ee fun ef eg=>
 aP .i64 ef fun ej=>
 fO eg <|
 an c (.int .i64 dg) <|
 an (c.add 1) (.int .i64 dj) <|
 an (c.add 2) (.int .i64 dm) <|
 Kzb b a c ej)))
def e1I (a:Option Addr)(b:Int)(d:Addr)(e:Int):M Value:=
 aI (e != 0) (
 ax a fun h=>
 ax a fun j=>
 aG (
 aw (h.add 24) fun J=>
 aG (
 ab .i64 (j.add 10) fun T=>
 ab .i64 (d.add 1) fun U=>
 aJ #[.int .i64 T,.int .i64 2,.int .i64 b,.int .i64 U,.int .i64 0,.int .i64 e,.int .i64 0] 64 fun V=>
 bU 64 7 56 #[.int .i64 0,.int .i64 0,.int .i64 0,.int .i64 0,.int .i64 0,.int .i64 0,.int .i64 0] J ⟨(some V),1,1⟩ fun k=>
 ax a fun bp=>
 an (bp.add 24) (.slice k.p k.n k.c) <|
 af (.tuple #[])) (
 ab .i64 (d.add 1) fun av=>
 ab .i64 (j.add 10) fun ay=>
 aJ #[.int .i64 ay,.int .i64 2,.int .i64 b,.int .i64 av,.int .i64 0,.int .i64 e,.int .i64 0] 64 fun az=>
 bU 64 7 56 #[.int .i64 0,.int .i64 0,.int .i64 0,.int .i64 0,.int .i64 0,.int .i64 0,.int .i64 0] J ⟨(some az),1,1⟩ fun x=>
 ax a fun au=>
 an (au.add 24) (.slice x.p x.n x.c) <|
 af (.tuple #[]))) (
 aG (
 ab .i64 (j.add 10) fun y=>
 aG (
 aw (h.add 24) fun ba=>
 ab .i64 (d.add 1) fun bb=>
 aJ #[.int .i64 y,.int .i64 2,.int .i64 b,.int .i64 bb,.int .i64 0,.int .i64 e,.int .i64 0] 64 fun bc=>
 bU 64 7 56 #[.int .i64 0,.int .i64 0,.int .i64 0,.int .i64 0,.int .i64 0,.int .i64 0,.int .i64 0] ba ⟨(some bc),1,1⟩ fun z=>
 ax a fun S=>
 an (S.add 24) (.slice z.p z.n z.c) <|
 af (.tuple #[])) (
 ab .i64 (d.add 1) fun K=>
 aG (
 aw (h.add 24) fun bd=>
 aJ #[.int .i64 y,.int .i64 2,.int .i64 b,.int .i64 K,.int .i64 0,.int .i64 e,.int .i64 0] 64 fun be=>
 bU 64 7 56 #[.int .i64 0,.int .i64 0,.int .i64 0,.int .i64 0,.int .i64 0,.int .i64 0,.int .i64 0] bd ⟨(some be),1,1⟩ fun A=>
 ax a fun R=>
 an (R.add 24) (.slice A.p A.n A.c) <|
 af (.tuple #[])) (
 aJ #[.int .i64 y,.int .i64 2,.int .i64 b,.int .i64 K,.int .i64 0,.int .i64 e,.int .i64 0] 64 fun bf=>
 aw (h.add 24) fun bg=>
 bU 64 7 56 #[.int .i64 0,.int .i64 0,.int .i64 0,.int .i64 0,.int .i64 0,.int .i64 0,.int .i64 0] bg ⟨(some bf),1,1⟩ fun B=>
 ax a fun Q=>
 an (Q.add 24) (.slice B.p B.n B.c) <|
 af (.tuple #[])))) (
 ab .i64 (d.add 1) fun D=>
 aG (
 aw (h.add 24) fun bh=>
 ab .i64 (j.add 10) fun bi=>
 aJ #[.int .i64 bi,.int .i64 2,.int .i64 b,.int .i64 D,.int .i64 0,.int .i64 e,.int .i64 0] 64 fun bj=>
 bU 64 7 56 #[.int .i64 0,.int .i64 0,.int .i64 0,.int .i64 0,.int .i64 0,.int .i64 0,.int .i64 0] bh ⟨(some bj),1,1⟩ fun C=>
 ax a fun P=>
 an (P.add 24) (.slice C.p C.n C.c) <|
 af (.tuple #[])) (
 ab .i64 (j.add 10) fun L=>
 aG (
 aw (h.add 24) fun bk=>
 aJ #[.int .i64 L,.int .i64 2,.int .i64 b,.int .i64 D,.int .i64 0,.int .i64 e,.int .i64 0] 64 fun bl=>
 bU 64 7 56 #[.int .i64 0,.int .i64 0,.int .i64 0,.int .i64 0,.int .i64 0,.int .i64 0,.int .i64 0] bk ⟨(some bl),1,1⟩ fun w=>
 ax a fun O=>
 an (O.add 24) (.slice w.p w.n w.c) <|
 af (.tuple #[])) (
 aJ #[.int .i64 L,.int .i64 2,.int .i64 b,.int .i64 D,.int .i64 0,.int .i64 e,.int .i64 0] 64 fun cc=>
 aw (h.add 24) fun cb=>
 bU 64 7 56 #[.int .i64 0,.int .i64 0,.int .i64 0,.int .i64 0,.int .i64 0,.int .i64 0,.int .i64 0] cb ⟨(some cc),1,1⟩ fun F=>
 ax a fun N=>
 an (N.add 24) (.slice F.p F.n F.c) <|
 af (.tuple #[])))))) (
 ax a fun cd=>
 aw (cd.add 21) fun f=>
 ax a fun bq=>
 uJ (bq.add 22) fun ce=>
 ab .i64 d fun bm=>
 ab .i64 (d.add 1) fun bn=>
 ab .i64 (d.add 2) fun bo=>
 gT ce fun br=>
 Cv Tryz.prog (Instr.mapUpdate 135 (.map (some br)) (.agg #[.int .i64 bm,.int .i64 bn,.int .i64 bo]) (.int .i64 (f.n:Int))) fun _=>
 ax a fun g=>
 ax a fun i=>
 aG (
 aw (g.add 21) fun G=>
 aG (
 ab .i64 (d.add 1) fun W=>
 ab .i64 (i.add 10) fun X=>
 aJ #[.int .i64 b,.int .i64 W,.int .i64 X,.int .i64 (-1:Int),.int .i64 (-1:Int),.bool false,.int .i64 0,.int .i64 0,.int .i64 0,.int .i64 0,.int .i64 (-1:Int)] 66 fun Y=>
 bU 66 11 88 #[.int .i64 0,.int .i64 0,.int .i64 0,.int .i64 0,.int .i64 0,.bool false,.int .i64 0,.int .i64 0,.int .i64 0,.int .i64 0,.int .i64 0] G ⟨(some Y),1,1⟩ fun l=>
 ax a fun bs=>
 an (bs.add 21) (.slice l.p l.n l.c) <|
 Kzc a (f.n:Int)) (
 ab .i64 (i.add 10) fun Z=>
 ab .i64 (d.add 1) fun aa=>
 aJ #[.int .i64 b,.int .i64 aa,.int .i64 Z,.int .i64 (-1:Int),.int .i64 (-1:Int),.bool false,.int .i64 0,.int .i64 0,.int .i64 0,.int .i64 0,.int .i64 (-1:Int)] 66 fun ac=>
 bU 66 11 88 #[.int .i64 0,.int .i64 0,.int .i64 0,.int .i64 0,.int .i64 0,.bool false,.int .i64 0,.int .i64 0,.int .i64 0,.int .i64 0,.int .i64 0] G ⟨(some ac),1,1⟩ fun m=>
 ax a fun bt=>
 an (bt.add 21) (.slice m.p m.n m.c) <|
 Kzc a (f.n:Int))) (
 aG (
 ab .i64 (d.add 1) fun o=>
 aG (
 aw (g.add 21) fun ad=>
 ab .i64 (i.add 10) fun ae=>
 aJ #[.int .i64 b,.int .i64 o,.int .i64 ae,.int .i64 (-1:Int),.int .i64 (-1:Int),.bool false,.int .i64 0,.int .i64 0,.int .i64 0,.int .i64 0,.int .i64 (-1:Int)] 66 fun ag=>
 bU 66 11 88 #[.int .i64 0,.int .i64 0,.int .i64 0,.int .i64 0,.int .i64 0,.bool false,.int .i64 0,.int .i64 0,.int .i64 0,.int .i64 0,.int .i64 0] ad ⟨(some ag),1,1⟩ fun q=>
 ax a fun bu=>
 an (bu.add 21) (.slice q.p q.n q.c) <|
 Kzc a (f.n:Int)) (
 ab .i64 (i.add 10) fun H=>
 aG (
 aw (g.add 21) fun ah=>
 aJ #[.int .i64 b,.int .i64 o,.int .i64 H,.int .i64 (-1:Int),.int .i64 (-1:Int),.bool false,.int .i64 0,.int .i64 0,.int .i64 0,.int .i64 0,.int .i64 (-1:Int)] 66 fun ai=>
 bU 66 11 88 #[.int .i64 0,.int .i64 0,.int .i64 0,.int .i64 0,.int .i64 0,.bool false,.int .i64 0,.int .i64 0,.int .i64 0,.int .i64 0,.int .i64 0] ah ⟨(some ai),1,1⟩ fun r=>
 ax a fun bv=>
 an (bv.add 21) (.slice r.p r.n r.c) <|
 Kzc a (f.n:Int)) (
 aJ #[.int .i64 b,.int .i64 o,.int .i64 H,.int .i64 (-1:Int),.int .i64 (-1:Int),.bool false,.int .i64 0,.int .i64 0,.int .i64 0,.int .i64 0,.int .i64 (-1:Int)] 66 fun aj=>
 aw (g.add 21) fun ak=>
 bU 66 11 88 #[.int .i64 0,.int .i64 0,.int .i64 0,.int .i64 0,.int .i64 0,.bool false,.int .i64 0,.int .i64 0,.int .i64 0,.int .i64 0,.int .i64 0] ak ⟨(some aj),1,1⟩ fun s=>
 ax a fun bw=>
 an (bw.add 21) (.slice s.p s.n s.c) <|
 Kzc a (f.n:Int)))) (
 ab .i64 (i.add 10) fun t=>
 aG (
 aw (g.add 21) fun al=>
 ab .i64 (d.add 1) fun am=>
 aJ #[.int .i64 b,.int .i64 am,.int .i64 t,.int .i64 (-1:Int),.int .i64 (-1:Int),.bool false,.int .i64 0,.int .i64 0,.int .i64 0,.int .i64 0,.int .i64 (-1:Int)] 66 fun ao=>
 bU 66 11 88 #[.int .i64 0,.int .i64 0,.int .i64 0,.int .i64 0,.int .i64 0,.bool false,.int .i64 0,.int .i64 0,.int .i64 0,.int .i64 0,.int .i64 0] al ⟨(some ao),1,1⟩ fun u=>
 ax a fun bx=>
 an (bx.add 21) (.slice u.p u.n u.c) <|
 Kzc a (f.n:Int)) (
 ab .i64 (d.add 1) fun I=>
 aG (
 aw (g.add 21) fun ap=>
 aJ #[.int .i64 b,.int .i64 I,.int .i64 t,.int .i64 (-1:Int),.int .i64 (-1:Int),.bool false,.int .i64 0,.int .i64 0,.int .i64 0,.int .i64 0,.int .i64 (-1:Int)] 66 fun aq=>
 bU 66 11 88 #[.int .i64 0,.int .i64 0,.int .i64 0,.int .i64 0,.int .i64 0,.bool false,.int .i64 0,.int .i64 0,.int .i64 0,.int .i64 0,.int .i64 0] ap ⟨(some aq),1,1⟩ fun v=>
 ax a fun bz=>
 an (bz.add 21) (.slice v.p v.n v.c) <|
 Kzc a (f.n:Int)) (
 aJ #[.int .i64 b,.int .i64 I,.int .i64 t,.int .i64 (-1:Int),.int .i64 (-1:Int),.bool false,.int .i64 0,.int .i64 0,.int .i64 0,.int .i64 0,.int .i64 (-1:Int)] 66 fun cf=>
 aw (g.add 21) fun ar=>
 bU 66 11 88 #[.int .i64 0,.int .i64 0,.int .i64 0,.int .i64 0,.int .i64 0,.bool false,.int .i64 0,.int .i64 0,.int .i64 0,.int .i64 0,.int .i64 0] ar ⟨(some cf),1,1⟩ fun E=>
 ax a fun ca=>
 an (ca.add 21) (.slice E.p E.n E.c) <|
 Kzc a (f.n:Int))))))
def e1M (a:Option Addr)(c:Int):M Value:=
 ax a fun b=>
 ab .i64 (b.add 10) fun d=>
 ai (uu a 1 d c 0 0 0 0 0 0 0) fun e=>
 af (.tuple #[])
theorem f1r (k0 bC){h Q}:e1D k0 bC h Q→Nzl k0 bC h Q:=Nf.bh Tryz.call146 Tryz.func146 rfl mixed (cuts:=[(1,[0,1,4,5]),(6,[0,6])]) (dm:=[(0,[]),(2,[]),(4,[0,1,2,3,4,5]),(5,[])]) (by kernel_rfl)
theorem f1s (k0 bC j4 e5){h Q}:e1I k0 bC j4 e5 h Q→Kzb k0 bC j4 e5 h Q:=Cut.bh Tryz.func146 mixed (cuts:=[(1,[0,1,4,5]),(6,[0,6])]) (dm:=[(0,[]),(2,[]),(4,[0,1,2,3,4,5]),(5,[])]) (by kernel_rfl)
theorem f1t (k0 n6){h Q}:e1M k0 n6 h Q→Kzc k0 n6 h Q:=Cut.bh Tryz.func146 mixed (cuts:=[(1,[0,1,4,5]),(6,[0,6])]) (dm:=[(0,[]),(2,[]),(4,[0,1,2,3,4,5]),(5,[])]) (by kernel_rfl)
def e1N (a:Option Addr)(b:Int)(f:Bool):M Value:=
 aI f (
 ax a fun c=>
 aw (c.add 9) fun g=>
 bd g b 1 fun e=>
 ab .i64 e fun d=>
 ai (Nzl a d) fun h=>
 af (.tuple #[])) (
 af (.tuple #[]))
theorem f1u (k0 Ae is2){h Q}:e1N k0 Ae is2 h Q→Nzi k0 Ae is2 h Q:=Nf.bh Tryz.call148 Tryz.func148 rfl mixed (cuts:=[]) (dm:=[]) (by kernel_rfl)
def e1O (a:Option Addr):M Value:=
 ax a fun b=>
 aw (b.add 20) fun h=>
 aI ((h.n:Int) == 0) (
 af (.pointer none)) (
 ax a fun c=>
 aw (c.add 20) fun f=>
 ax a fun i=>
 aw (i.add 20) fun d=>
 bd f (IntKind.i64.wrap ((d.n:Int)-1)) 1 fun e=>
 bz e fun g=>
 af (.pointer g))
theorem f1v (k0){h Q}:e1O k0 h Q→Nza k0 h Q:=Nf.bh Tryz.call152 Tryz.func152 rfl mixed (cuts:=[]) (dm:=[]) (by kernel_rfl)
def a3S (b:Option Addr)(a:Addr)(c:Int):M Value:=Cut Tryz.prog 153 (aQ Tryz.f153 4) (bf [(0,.pointer b),(2,.pointer (some a)),(4,.int .i64 c)] 101 0)
def Kz4 (a:Option Addr)(b:Int)(c:Addr):M Value:=Cut Tryz.prog 153 (aQ Tryz.f153 5) (bf [(0,.pointer a),(4,.int .i64 b),(5,.pointer (some c))] 101 0)
def a3T (b:Option Addr)(c:Int)(d:Addr)(a:Int):M Value:=Cut Tryz.prog 153 (aQ Tryz.f153 6) (bf [(0,.pointer b),(4,.int .i64 c),(5,.pointer (some d)),(6,.int .i64 a)] 101 0)
def Kzd (b:Option Addr)(c:Int)(d:Addr)(a:Int):M Value:=Cut Tryz.prog 153 (aQ Tryz.f153 7) (bf [(0,.pointer b),(4,.int .i64 c),(5,.pointer (some d)),(6,.int .i64 a)] 101 0)
def Kzt (b:Option Addr)(c:Int)(d:Addr)(a:Int):M Value:=Cut Tryz.prog 153 (aQ Tryz.f153 8) (bf [(0,.pointer b),(4,.int .i64 c),(5,.pointer (some d)),(6,.int .i64 a)] 101 0)
def Kzh (b:Option Addr)(c a:Int):M Value:=Cut Tryz.prog 153 (aQ Tryz.f153 9) (bf [(0,.pointer b),(4,.int .i64 c),(6,.int .i64 a)] 101 0)
def e1P (b:Option Addr):M Value:=
 ax b fun h=>
 bz (h.add 18) fun H=>
 ai (c4C H) fun e=>
 tM e fun F=>
 bB F fun A B=>
 kg A fun y=>
 bB y fun p q=>
 aP .i64 p fun r=>
 bB q fun s t=>
 aP .i64 s fun u=>
 bB t fun v w=>
 aP .i64 v fun x=>
 fO w <|
 bB B fun C D=>
 da C fun N=>
 fO D <|
 aJ #[.int .i64 0,.int .i64 0,.int .i64 0] 225 fun a=>
 an a (.int .i64 r) <|
 an (a.add 1) (.int .i64 u) <|
 an (a.add 2) (.int .i64 x) <|
 aI (!N) (
 af (.tuple #[])) (
 ax b fun o=>
 uJ (o.add 22) fun I=>
 ab .i64 a fun f=>
 ab .i64 (a.add 1) fun g=>
 ab .i64 (a.add 2) fun E=>
 gT I fun J=>
 TT Tryz.prog (Instr.lookup 135 (.map (some J)) (.agg #[.int .i64 f,.int .i64 g,.int .i64 E]) false) fun G=>
 aP .i64 G fun d=>
 ax b fun c=>
 aG (
 uJ (c.add 22) fun z=>
 ab .i64 a fun i=>
 ab .i64 (a.add 1) fun j=>
 ab .i64 (a.add 2) fun k=>
 gT z fun L=>
 Cv Tryz.prog (Builtin.delete_ #[135,225] 0 #[.map (some L),.agg #[.int .i64 i,.int .i64 j,.int .i64 k]]) fun Q=>cD (Q=undef) <|
 a3S b a d) (
 ab .i64 a fun l=>
 ab .i64 (a.add 1) fun m=>
 ab .i64 (a.add 2) fun n=>
 uJ (c.add 22) fun O=>
 gT O fun K=>
 Cv Tryz.prog (Builtin.delete_ #[135,225] 0 #[.map (some K),.agg #[.int .i64 l,.int .i64 m,.int .i64 n]]) fun P=>cD (P=undef) <|
 a3S b a d))
def e1V (e:Option Addr)(t:Addr)(f:Int):M Value:=
 ax e fun s=>
 aG (
 aw (s.add 8) fun C=>
 aG (
 ab .i64 t fun bp=>
 bd C bp 7 fun b=>
 aG (
 ab .i64 b fun X=>
 ab .i64 (b.add 1) fun Y=>
 ab .i64 (b.add 2) fun Z=>
 ab .i64 (b.add 3) fun aa=>
 ab .i64 (b.add 4) fun ac=>
 ab .i64 (b.add 5) fun ad=>
 aw (b.add 6) fun v=>
 aJ #[.int .i64 0,.int .i64 0,.int .i64 0,.int .i64 0,.int .i64 0,.int .i64 0,.slice none (0) (0)] 59 fun g=>
 an g (.int .i64 X) <|
 an (g.add 1) (.int .i64 Y) <|
 an (g.add 2) (.int .i64 Z) <|
 an (g.add 3) (.int .i64 aa) <|
 an (g.add 4) (.int .i64 ac) <|
 an (g.add 5) (.int .i64 ad) <|
 an (g.add 6) (.slice v.p v.n v.c) <|
 Kz4 e f g) (
 aJ #[.int .i64 0,.int .i64 0,.int .i64 0,.int .i64 0,.int .i64 0,.int .i64 0,.slice none (0) (0)] 59 fun h=>
 ab .i64 b fun ae=>
 ab .i64 (b.add 1) fun af=>
 ab .i64 (b.add 2) fun ag=>
 ab .i64 (b.add 3) fun ah=>
 ab .i64 (b.add 4) fun ai=>
 ab .i64 (b.add 5) fun aj=>
 aw (b.add 6) fun w=>
 an h (.int .i64 ae) <|
 an (h.add 1) (.int .i64 af) <|
 an (h.add 2) (.int .i64 ag) <|
 an (h.add 3) (.int .i64 ah) <|
 an (h.add 4) (.int .i64 ai) <|
 an (h.add 5) (.int .i64 aj) <|
 an (h.add 6) (.slice w.p w.n w.c) <|
 Kz4 e f h)) (
 aJ #[.int .i64 0,.int .i64 0,.int .i64 0,.int .i64 0,.int .i64 0,.int .i64 0,.slice none (0) (0)] 59 fun i=>
 ab .i64 t fun bb=>
 bd C bb 7 fun o=>
 ab .i64 o fun ak=>
 ab .i64 (o.add 1) fun al=>
 ab .i64 (o.add 2) fun am=>
 ab .i64 (o.add 3) fun ao=>
 ab .i64 (o.add 4) fun ap=>
 ab .i64 (o.add 5) fun aq=>
 aw (o.add 6) fun x=>
 an i (.int .i64 ak) <|
 an (i.add 1) (.int .i64 al) <|
 an (i.add 2) (.int .i64 am) <|
 an (i.add 3) (.int .i64 ao) <|
 an (i.add 4) (.int .i64 ap) <|
 an (i.add 5) (.int .i64 aq) <|
 an (i.add 6) (.slice x.p x.n x.c) <|
 Kz4 e f i)) (
 aG (
 ab .i64 t fun D=>
 aG (
 aw (s.add 8) fun bc=>
 bd bc D 7 fun d=>
 aG (
 ab .i64 d fun ar=>
 ab .i64 (d.add 1) fun au=>
 ab .i64 (d.add 2) fun av=>
 ab .i64 (d.add 3) fun ay=>
 ab .i64 (d.add 4) fun az=>
 ab .i64 (d.add 5) fun ba=>
 aw (d.add 6) fun y=>
 aJ #[.int .i64 0,.int .i64 0,.int .i64 0,.int .i64 0,.int .i64 0,.int .i64 0,.slice none (0) (0)] 59 fun j=>
 an j (.int .i64 ar) <|
 an (j.add 1) (.int .i64 au) <|
 an (j.add 2) (.int .i64 av) <|
 an (j.add 3) (.int .i64 ay) <|
 an (j.add 4) (.int .i64 az) <|
 an (j.add 5) (.int .i64 ba) <|
 an (j.add 6) (.slice y.p y.n y.c) <|
 Kz4 e f j) (
 aJ #[.int .i64 0,.int .i64 0,.int .i64 0,.int .i64 0,.int .i64 0,.int .i64 0,.slice none (0) (0)] 59 fun k=>
 ab .i64 d fun E=>
 ab .i64 (d.add 1) fun F=>
 ab .i64 (d.add 2) fun G=>
 ab .i64 (d.add 3) fun H=>
 ab .i64 (d.add 4) fun I=>
 ab .i64 (d.add 5) fun J=>
 aw (d.add 6) fun z=>
 an k (.int .i64 E) <|
 an (k.add 1) (.int .i64 F) <|
 an (k.add 2) (.int .i64 G) <|
 an (k.add 3) (.int .i64 H) <|
 an (k.add 4) (.int .i64 I) <|
 an (k.add 5) (.int .i64 J) <|
 an (k.add 6) (.slice z.p z.n z.c) <|
 Kz4 e f k)) (
 aJ #[.int .i64 0,.int .i64 0,.int .i64 0,.int .i64 0,.int .i64 0,.int .i64 0,.slice none (0) (0)] 59 fun l=>
 aw (s.add 8) fun be=>
 bd be D 7 fun q=>
 ab .i64 q fun K=>
 ab .i64 (q.add 1) fun L=>
 ab .i64 (q.add 2) fun N=>
 ab .i64 (q.add 3) fun O=>
 ab .i64 (q.add 4) fun P=>
 ab .i64 (q.add 5) fun Q=>
 aw (q.add 6) fun A=>
 an l (.int .i64 K) <|
 an (l.add 1) (.int .i64 L) <|
 an (l.add 2) (.int .i64 N) <|
 an (l.add 3) (.int .i64 O) <|
 an (l.add 4) (.int .i64 P) <|
 an (l.add 5) (.int .i64 Q) <|
 an (l.add 6) (.slice A.p A.n A.c) <|
 Kz4 e f l)) (
 aJ #[.int .i64 0,.int .i64 0,.int .i64 0,.int .i64 0,.int .i64 0,.int .i64 0,.slice none (0) (0)] 59 fun a=>
 aG (
 aw (s.add 8) fun bf=>
 ab .i64 t fun bg=>
 bd bf bg 7 fun r=>
 ab .i64 r fun R=>
 ab .i64 (r.add 1) fun S=>
 ab .i64 (r.add 2) fun T=>
 ab .i64 (r.add 3) fun U=>
 ab .i64 (r.add 4) fun V=>
 ab .i64 (r.add 5) fun W=>
 aw (r.add 6) fun B=>
 an a (.int .i64 R) <|
 an (a.add 1) (.int .i64 S) <|
 an (a.add 2) (.int .i64 T) <|
 an (a.add 3) (.int .i64 U) <|
 an (a.add 4) (.int .i64 V) <|
 an (a.add 5) (.int .i64 W) <|
 an (a.add 6) (.slice B.p B.n B.c) <|
 Kz4 e f a) (
 ab .i64 t fun bn=>
 aw (s.add 8) fun bo=>
 bd bo bn 7 fun m=>
 ab .i64 m fun bh=>
 ab .i64 (m.add 1) fun bi=>
 ab .i64 (m.add 2) fun bj=>
 ab .i64 (m.add 3) fun bk=>
 ab .i64 (m.add 4) fun bl=>
 ab .i64 (m.add 5) fun bm=>
 aw (m.add 6) fun u=>
 an a (.int .i64 bh) <|
 an (a.add 1) (.int .i64 bi) <|
 an (a.add 2) (.int .i64 bj) <|
 an (a.add 3) (.int .i64 bk) <|
 an (a.add 4) (.int .i64 bl) <|
 an (a.add 5) (.int .i64 bm) <|
 an (a.add 6) (.slice u.p u.n u.c) <|
 Kz4 e f a)))
def e2c (c:Option Addr)(a:Int)(b:Addr):M Value:=
 ax c fun d=>
 aG (
 bz (d.add 19) fun i=>
 ab .i64 (b.add 4) fun j=>
 ai (Nzo i a j) fun k=>
 ki (aP .i64) (aP .i64) k fun h m=>
 a3T c a b h) (
 ab .i64 (b.add 4) fun l=>
 bz (d.add 19) fun g=>
 ai (Nzo g a l) fun f=>
 ki (aP .i64) (aP .i64) f fun e n=>
 a3T c a b e)
def e2d (c:Option Addr)(a:Int)(d:Addr)(b:Int):M Value:=
 ax c fun e=>
 ax c fun f=>
 ax c fun g=>
 aG (
 aw (e.add 21) fun h=>
 aG (
 aw (f.add 21) fun w=>
 ab .i64 (g.add 10) fun x=>
 bd h a 11 fun y=>
 an (y.add 3) (.int .i64 x) <|
 bd w a 11 fun z=>
 an (z.add 10) (.int .i64 b) <|
 Kzd c a d b) (
 ab .i64 (g.add 10) fun A=>
 aw (f.add 21) fun B=>
 bd h a 11 fun C=>
 an (C.add 3) (.int .i64 A) <|
 bd B a 11 fun l=>
 an (l.add 10) (.int .i64 b) <|
 Kzd c a d b)) (
 aG (
 aw (f.add 21) fun i=>
 aG (
 aw (e.add 21) fun m=>
 ab .i64 (g.add 10) fun n=>
 bd m a 11 fun o=>
 an (o.add 3) (.int .i64 n) <|
 bd i a 11 fun p=>
 an (p.add 10) (.int .i64 b) <|
 Kzd c a d b) (
 ab .i64 (g.add 10) fun q=>
 aw (e.add 21) fun r=>
 bd r a 11 fun s=>
 an (s.add 3) (.int .i64 q) <|
 bd i a 11 fun t=>
 an (t.add 10) (.int .i64 b) <|
 Kzd c a d b)) (
 ab .i64 (g.add 10) fun j=>
 aG (
 aw (e.add 21) fun D=>
 aw (f.add 21) fun E=>
 bd D a 11 fun u=>
 an (u.add 3) (.int .i64 j) <|
 bd E a 11 fun v=>
 an (v.add 10) (.int .i64 b) <|
 Kzd c a d b) (
 aw (f.add 21) fun F=>
 aw (e.add 21) fun k=>
 bd k a 11 fun H=>
 an (H.add 3) (.int .i64 j) <|
 bd F a 11 fun G=>
 an (G.add 10) (.int .i64 b) <|
 Kzd c a d b)))
def e2e (b:Option Addr)(a:Int)(e:Addr)(d:Int):M Value:=
 ax b fun c=>
 ax b fun f=>
 aG (
 uJ (c.add 23) fun j=>
 bz (f.add 12) fun k=>
 ai (Nzr k) fun l=>
 gx l fun m=>
 gT j fun s=>
 gb .i64 s a (.pointer m) <|
 Kzt b a e d) (
 bz (f.add 12) fun g=>
 aG (
 uJ (c.add 23) fun n=>
 ai (Nzr g) fun o=>
 gx o fun p=>
 gT n fun q=>
 gb .i64 q a (.pointer p) <|
 Kzt b a e d) (
 ai (Nzr g) fun t=>
 gx t fun i=>
 uJ (c.add 23) fun h=>
 gT h fun r=>
 gb .i64 r a (.pointer i) <|
 Kzt b a e d))
def e2g (b:Option Addr)(d:Int)(a:Addr)(f:Int):M Value:=
 ax b fun e=>
 aG (
 aw (e.add 20) fun D=>
 ab .i64 a fun w=>
 ab .i64 (a.add 1) fun x=>
 ab .i64 (a.add 2) fun y=>
 ab .i64 (a.add 3) fun z=>
 ab .i64 (a.add 4) fun A=>
 ab .i64 (a.add 5) fun B=>
 aw (a.add 6) fun C=>
 ai (Nzs w x y z A B C) fun E=>
 gx E fun F=>
 aJ #[.pointer F,.int .i64 d,.bool false] 176 fun G=>
 aJ #[.pointer (some G)] 169 fun H=>
 bU 169 1 8 #[.pointer none] D ⟨(some H),1,1⟩ fun h=>
 ax b fun T=>
 an (T.add 20) (.slice h.p h.n h.c) <|
 Kzh b d f) (
 ab .i64 a fun l=>
 ab .i64 (a.add 1) fun m=>
 ab .i64 (a.add 2) fun o=>
 ab .i64 (a.add 3) fun q=>
 ab .i64 (a.add 4) fun r=>
 ab .i64 (a.add 5) fun s=>
 aw (a.add 6) fun t=>
 aG (
 aw (e.add 20) fun I=>
 ai (Nzs l m o q r s t) fun J=>
 gx J fun K=>
 aJ #[.pointer K,.int .i64 d,.bool false] 176 fun L=>
 aJ #[.pointer (some L)] 169 fun N=>
 bU 169 1 8 #[.pointer none] I ⟨(some N),1,1⟩ fun i=>
 ax b fun U=>
 an (U.add 20) (.slice i.p i.n i.c) <|
 Kzh b d f) (
 ai (Nzs l m o q r s t) fun Y=>
 gx Y fun u=>
 aG (
 aw (e.add 20) fun O=>
 aJ #[.pointer u,.int .i64 d,.bool false] 176 fun P=>
 aJ #[.pointer (some P)] 169 fun Q=>
 bU 169 1 8 #[.pointer none] O ⟨(some Q),1,1⟩ fun j=>
 ax b fun V=>
 an (V.add 20) (.slice j.p j.n j.c) <|
 Kzh b d f) (
 aJ #[.pointer u,.int .i64 d,.bool false] 176 fun v=>
 aG (
 aw (e.add 20) fun R=>
 aJ #[.pointer (some v)] 169 fun S=>
 bU 169 1 8 #[.pointer none] R ⟨(some S),1,1⟩ fun g=>
 ax b fun W=>
 an (W.add 20) (.slice g.p g.n g.c) <|
 Kzh b d f) (
 aJ #[.pointer (some v)] 169 fun aa=>
 aw (e.add 20) fun Z=>
 bU 169 1 8 #[.pointer none] Z ⟨(some aa),1,1⟩ fun k=>
 ax b fun X=>
 an (X.add 20) (.slice k.p k.n k.c) <|
 Kzh b d f))))
def e2h (a:Option Addr)(e c:Int):M Value:=
 ax a fun d=>
 ab .i64 (d.add 10) fun b=>
 ai (uu a 3 b e 0 0 0 0 0 0 c) fun f=>
 af (.tuple #[])
theorem f1I (k0){h Q}:e1P k0 h Q→Nzg k0 h Q:=Nf.bh Tryz.call153 Tryz.func153 rfl mixed (cuts:=[(4,[0,2,4]),(5,[0,4,5]),(6,[0,4,5,6]),(7,[0,4,5,6]),(8,[0,4,5,6]),(9,[0,4,6])]) (dm:=[(3,[]),(4,[]),(5,[]),(6,[]),(7,[]),(8,[])]) (by kernel_rfl)
theorem f1J (k0 j2 n4){h Q}:e1V k0 j2 n4 h Q→a3S k0 j2 n4 h Q:=Cut.bh Tryz.func153 mixed (cuts:=[(4,[0,2,4]),(5,[0,4,5]),(6,[0,4,5,6]),(7,[0,4,5,6]),(8,[0,4,5,6]),(9,[0,4,6])]) (dm:=[(3,[]),(4,[]),(5,[]),(6,[]),(7,[]),(8,[])]) (by kernel_rfl)
theorem f1K (k0 n4 t5){h Q}:e2c k0 n4 t5 h Q→Kz4 k0 n4 t5 h Q:=Cut.bh Tryz.func153 mixed (cuts:=[(4,[0,2,4]),(5,[0,4,5]),(6,[0,4,5,6]),(7,[0,4,5,6]),(8,[0,4,5,6]),(9,[0,4,6])]) (dm:=[(3,[]),(4,[]),(5,[]),(6,[]),(7,[]),(8,[])]) (by kernel_rfl)
theorem f1L (k0 n4 t5 cy){h Q}:e2d k0 n4 t5 cy h Q→a3T k0 n4 t5 cy h Q:=Cut.bh Tryz.func153 mixed (cuts:=[(4,[0,2,4]),(5,[0,4,5]),(6,[0,4,5,6]),(7,[0,4,5,6]),(8,[0,4,5,6]),(9,[0,4,6])]) (dm:=[(3,[]),(4,[]),(5,[]),(6,[]),(7,[]),(8,[])]) (by kernel_rfl)
theorem f1M (k0 n4 t5 cy){h Q}:e2e k0 n4 t5 cy h Q→Kzd k0 n4 t5 cy h Q:=Cut.bh Tryz.func153 mixed (cuts:=[(4,[0,2,4]),(5,[0,4,5]),(6,[0,4,5,6]),(7,[0,4,5,6]),(8,[0,4,5,6]),(9,[0,4,6])]) (dm:=[(3,[]),(4,[]),(5,[]),(6,[]),(7,[]),(8,[])]) (by kernel_rfl)
theorem f1N (k0 n4 t5 cy){h Q}:e2g k0 n4 t5 cy h Q→Kzt k0 n4 t5 cy h Q:=Cut.bh Tryz.func153 mixed (cuts:=[(4,[0,2,4]),(5,[0,4,5]),(6,[0,4,5,6]),(7,[0,4,5,6]),(8,[0,4,5,6]),(9,[0,4,6])]) (dm:=[(3,[]),(4,[]),(5,[]),(6,[]),(7,[]),(8,[])]) (by kernel_rfl)
theorem f1O (k0 n4 cy){h Q}:e2h k0 n4 cy h Q→Kzh k0 n4 cy h Q:=Cut.bh Tryz.func153 mixed (cuts:=[(4,[0,2,4]),(5,[0,4,5]),(6,[0,4,5,6]),(7,[0,4,5,6]),(8,[0,4,5,6]),(9,[0,4,6])]) (dm:=[(3,[]),(4,[]),(5,[]),(6,[]),(7,[]),(8,[])]) (by kernel_rfl)
def e2i (b a:Option Addr):M Value:=
 ax a fun f=>
 bz f fun t=>
 ai (c5K t) fun q=>
 da q fun u=>
 aI u (
 af (.int .i64 64)) (
 ax b fun h=>
 bz (h.add 16) fun i=>
 ax a fun j=>
 ab .i64 (j.add 1) fun c=>
 ax b fun d=>
 aw (d.add 8) fun m=>
 ax b fun g=>
 aw (g.add 21) fun n=>
 ax a fun e=>
 ab .i64 (e.add 1) fun l=>
 bd n l 11 fun k=>
 ab .i64 k fun r=>
 bd m r 7 fun s=>
 ab .i64 (s.add 1) fun o=>
 mU (jm Tryz.prog 221) (a9W i c o) fun p=>
 aP .i64 p fun v=>
 b5v <|
 af (.int .i64 v))
theorem f1P (k0 a1){h Q}:e2i k0 a1 h Q→c7G k0 a1 h Q:=Nf.bh Tryz.call154 Tryz.func154 rfl mixed (cuts:=[]) (dm:=[(3,[1000000,0,1,2,3,4,5,6,7,8,9,10,11,12,13,14,15,16,17,18,19,20,21,22,23,24,25,26,27,28])]) (by kernel_rfl)
def Ct (a:Option Addr)(b:Addr):M Value:=Cut Tryz.prog 156 (aQ Tryz.f156 3) (bf [(0,.pointer a),(9,.pointer (some b))] 38 0)
def e2j (c:Option Addr)(e f V o p q r s t u:Int):M Value:=
 aJ #[.int .i64 o,.int .i64 p,.int .i64 q,.int .i64 r,.int .i64 s,.int .i64 t,.int .i64 u] 64 fun a=>
 ax c fun v=>
 aw (v.add 21) fun R=>
 bd R V 11 fun d=>
 ab .i64 d fun U=>
 ab .i64 (d.add 1) fun T=>
 ab .i64 (d.add 2) fun W=>
 ab .i64 (d.add 3) fun l=>
 ab .i64 (d.add 4) fun m=>
 g9 (d.add 5) fun n=>
 ab .i64 (d.add 6) fun w=>
 ab .i64 (d.add 7) fun N=>
 ab .i64 (d.add 8) fun O=>
 ab .i64 (d.add 9) fun P=>
 ab .i64 (d.add 10) fun y=>
 aJ #[.int .i64 0,.int .i64 0,.int .i64 0,.int .i64 0,.int .i64 0,.bool false,.int .i64 0,.int .i64 0,.int .i64 0,.int .i64 0,.int .i64 0] 66 fun b=>
 an b (.int .i64 U) <|
 an (b.add 1) (.int .i64 T) <|
 an (b.add 2) (.int .i64 W) <|
 an (b.add 3) (.int .i64 l) <|
 an (b.add 4) (.int .i64 m) <|
 an (b.add 5) (.bool n) <|
 an (b.add 6) (.int .i64 w) <|
 an (b.add 7) (.int .i64 N) <|
 an (b.add 8) (.int .i64 O) <|
 an (b.add 9) (.int .i64 P) <|
 an (b.add 10) (.int .i64 y) <|
 aG (
 ab .i64 b fun g=>
 aG (
 ab .i64 (b.add 1) fun x=>
 an a (.int .i64 f) <|
 an (a.add 1) (.int .i64 e) <|
 an (a.add 2) (.int .i64 g) <|
 an (a.add 3) (.int .i64 x) <|
 Ct c a) (
 an a (.int .i64 f) <|
 aG (
 ab .i64 (b.add 1) fun z=>
 an (a.add 1) (.int .i64 e) <|
 an (a.add 2) (.int .i64 g) <|
 an (a.add 3) (.int .i64 z) <|
 Ct c a) (
 an (a.add 1) (.int .i64 e) <|
 aG (
 ab .i64 (b.add 1) fun A=>
 an (a.add 2) (.int .i64 g) <|
 an (a.add 3) (.int .i64 A) <|
 Ct c a) (
 an (a.add 2) (.int .i64 g) <|
 ab .i64 (b.add 1) fun B=>
 an (a.add 3) (.int .i64 B) <|
 Ct c a)))) (
 aG (
 ab .i64 (b.add 1) fun h=>
 aG (
 ab .i64 b fun C=>
 an a (.int .i64 f) <|
 an (a.add 1) (.int .i64 e) <|
 an (a.add 2) (.int .i64 C) <|
 an (a.add 3) (.int .i64 h) <|
 Ct c a) (
 an a (.int .i64 f) <|
 aG (
 ab .i64 b fun D=>
 an (a.add 1) (.int .i64 e) <|
 an (a.add 2) (.int .i64 D) <|
 an (a.add 3) (.int .i64 h) <|
 Ct c a) (
 an (a.add 1) (.int .i64 e) <|
 ab .i64 b fun E=>
 an (a.add 2) (.int .i64 E) <|
 an (a.add 3) (.int .i64 h) <|
 Ct c a))) (
 an a (.int .i64 f) <|
 aG (
 ab .i64 b fun i=>
 aG (
 ab .i64 (b.add 1) fun F=>
 an (a.add 1) (.int .i64 e) <|
 an (a.add 2) (.int .i64 i) <|
 an (a.add 3) (.int .i64 F) <|
 Ct c a) (
 an (a.add 1) (.int .i64 e) <|
 aG (
 ab .i64 (b.add 1) fun G=>
 an (a.add 2) (.int .i64 i) <|
 an (a.add 3) (.int .i64 G) <|
 Ct c a) (
 an (a.add 2) (.int .i64 i) <|
 ab .i64 (b.add 1) fun H=>
 an (a.add 3) (.int .i64 H) <|
 Ct c a))) (
 aG (
 ab .i64 (b.add 1) fun j=>
 aG (
 ab .i64 b fun I=>
 an (a.add 1) (.int .i64 e) <|
 an (a.add 2) (.int .i64 I) <|
 an (a.add 3) (.int .i64 j) <|
 Ct c a) (
 an (a.add 1) (.int .i64 e) <|
 ab .i64 b fun J=>
 an (a.add 2) (.int .i64 J) <|
 an (a.add 3) (.int .i64 j) <|
 Ct c a)) (
 an (a.add 1) (.int .i64 e) <|
 aG (
 ab .i64 b fun k=>
 aG (
 ab .i64 (b.add 1) fun K=>
 an (a.add 2) (.int .i64 k) <|
 an (a.add 3) (.int .i64 K) <|
 Ct c a) (
 an (a.add 2) (.int .i64 k) <|
 ab .i64 (b.add 1) fun L=>
 an (a.add 3) (.int .i64 L) <|
 Ct c a)) (
 ab .i64 (b.add 1) fun Q=>
 ab .i64 b fun S=>
 an (a.add 2) (.int .i64 S) <|
 an (a.add 3) (.int .i64 Q) <|
 Ct c a)))))
def e2n (b:Option Addr)(a:Addr):M Value:=
 ax b fun g=>
 aG (
 aw (g.add 24) fun x=>
 ab .i64 a fun s=>
 ab .i64 (a.add 1) fun t=>
 ab .i64 (a.add 2) fun u=>
 ab .i64 (a.add 3) fun v=>
 ab .i64 (a.add 4) fun w=>
 ab .i64 (a.add 5) fun q=>
 ab .i64 (a.add 6) fun r=>
 aJ #[.int .i64 s,.int .i64 t,.int .i64 u,.int .i64 v,.int .i64 w,.int .i64 q,.int .i64 r] 64 fun y=>
 bU 64 7 56 #[.int .i64 0,.int .i64 0,.int .i64 0,.int .i64 0,.int .i64 0,.int .i64 0,.int .i64 0] x ⟨(some y),1,1⟩ fun d=>
 ax b fun B=>
 an (B.add 24) (.slice d.p d.n d.c) <|
 af (.tuple #[])) (
 ab .i64 a fun h=>
 ab .i64 (a.add 1) fun i=>
 ab .i64 (a.add 2) fun m=>
 ab .i64 (a.add 3) fun o=>
 ab .i64 (a.add 4) fun j=>
 ab .i64 (a.add 5) fun k=>
 ab .i64 (a.add 6) fun l=>
 aG (
 aw (g.add 24) fun z=>
 aJ #[.int .i64 h,.int .i64 i,.int .i64 m,.int .i64 o,.int .i64 j,.int .i64 k,.int .i64 l] 64 fun A=>
 bU 64 7 56 #[.int .i64 0,.int .i64 0,.int .i64 0,.int .i64 0,.int .i64 0,.int .i64 0,.int .i64 0] z ⟨(some A),1,1⟩ fun e=>
 ax b fun C=>
 an (C.add 24) (.slice e.p e.n e.c) <|
 af (.tuple #[])) (
 aJ #[.int .i64 h,.int .i64 i,.int .i64 m,.int .i64 o,.int .i64 j,.int .i64 k,.int .i64 l] 64 fun F=>
 aw (g.add 24) fun E=>
 bU 64 7 56 #[.int .i64 0,.int .i64 0,.int .i64 0,.int .i64 0,.int .i64 0,.int .i64 0,.int .i64 0] E ⟨(some F),1,1⟩ fun f=>
 ax b fun D=>
 an (D.add 24) (.slice f.p f.n f.c) <|
 af (.tuple #[])))
theorem f1T (k0 jP DJ oy RD RE RF RG RH RI RJ){h Q}:e2j k0 jP DJ oy RD RE RF RG RH RI RJ h Q→uu k0 jP DJ oy RD RE RF RG RH RI RJ h Q:=Nf.bh Tryz.call156 Tryz.func156 rfl mixed (cuts:=[(3,[0,9])]) (dm:=[(2,[]),(3,[])]) (by kernel_rfl)
theorem f1U (k0 r9){h Q}:e2n k0 r9 h Q→Ct k0 r9 h Q:=Cut.bh Tryz.func156 mixed (cuts:=[(3,[0,9])]) (dm:=[(2,[]),(3,[])]) (by kernel_rfl)
def Kzi (b d:Int)(c a:Bool):M Value:=Cut Tryz.prog 159 (aQ Tryz.f159 19) (bf [(6,.int .i64 b),(7,.int .i64 d),(8,.bool c),(9,.bool a)] 125 0)
def e2o (c:Option Addr)(h L N O:Int):M Value:=
 aJ #[.int .i64 L,.int .i64 N,.int .i64 O] 90 fun a=>
 ab .i64 a fun b=>
 aI (b == 5) (
 ax c fun p=>
 aG (
 bz (p.add 16) fun co=>
 ab .i64 (a.add 1) fun dq=>
 ai (YU co dq h) fun dr=>
 aP .i64 dr fun ds=>
 af (.tuple #[.int .i64 ds,.int .i64 0,.bool true])) (
 ab .i64 (a.add 1) fun fa=>
 bz (p.add 16) fun z=>
 ai (YU z fa h) fun fd=>
 aP .i64 fd fun fb=>
 af (.tuple #[.int .i64 fb,.int .i64 0,.bool true]))) (
 aI (b == 6) (
 ax c fun j=>
 aG (
 bz (j.add 16) fun D=>
 ab .i64 (a.add 1) fun C=>
 ai (Nzu D C h) fun dt=>
 aP .i64 dt fun du=>
 af (.tuple #[.int .i64 du,.int .i64 0,.bool true])) (
 ab .i64 (a.add 1) fun fk=>
 bz (j.add 16) fun fj=>
 ai (Nzu fj fk h) fun an=>
 aP .i64 an fun fc=>
 af (.tuple #[.int .i64 fc,.int .i64 0,.bool true]))) (
 aI (b == 9) (
 ax c fun d=>
 aG (
 bz (d.add 13) fun n=>
 aG (
 ab .i64 (a.add 1) fun dv=>
 ab .i64 (a.add 2) fun dw=>
 ai (Nzf n dv dw) fun dx=>
 aP .i64 dx fun dy=>
 af (.tuple #[.int .i64 dy,.int .i64 0,.bool true])) (
 ab .i64 (a.add 2) fun dz=>
 ab .i64 (a.add 1) fun ea=>
 ai (Nzf n ea dz) fun eb=>
 aP .i64 eb fun ec=>
 af (.tuple #[.int .i64 ec,.int .i64 0,.bool true]))) (
 aG (
 ab .i64 (a.add 1) fun o=>
 aG (
 bz (d.add 13) fun ed=>
 ab .i64 (a.add 2) fun ee=>
 ai (Nzf ed o ee) fun ef=>
 aP .i64 ef fun eg=>
 af (.tuple #[.int .i64 eg,.int .i64 0,.bool true])) (
 ab .i64 (a.add 2) fun eh=>
 bz (d.add 13) fun ei=>
 ai (Nzf ei o eh) fun ej=>
 aP .i64 ej fun ek=>
 af (.tuple #[.int .i64 ek,.int .i64 0,.bool true]))) (
 ab .i64 (a.add 2) fun i=>
 aG (
 bz (d.add 13) fun el=>
 ab .i64 (a.add 1) fun em=>
 ai (Nzf el em i) fun en=>
 aP .i64 en fun eo=>
 af (.tuple #[.int .i64 eo,.int .i64 0,.bool true])) (
 ab .i64 (a.add 1) fun fp=>
 bz (d.add 13) fun fq=>
 ai (Nzf fq fp i) fun fe=>
 aP .i64 fe fun ao=>
 af (.tuple #[.int .i64 ao,.int .i64 0,.bool true]))))) (
 aI (b == 10) (
 ax c fun q=>
 aG (
 bz (q.add 13) fun ep=>
 ab .i64 (a.add 1) fun cp=>
 ai (YS ep cp) fun cq=>
 ki (aP .i64) (aP .i64) cq fun ap aq=>
 af (.tuple #[.int .i64 aq,.int .i64 ap,.bool true])) (
 ab .i64 (a.add 1) fun fl=>
 bz (q.add 13) fun am=>
 ai (YS am fl) fun ff=>
 ki (aP .i64) (aP .i64) ff fun I J=>
 af (.tuple #[.int .i64 J,.int .i64 I,.bool true]))) (
 aI (b == 11) (
 ax c fun e=>
 aG (
 bz (e.add 14) fun r=>
 aG (
 ab .i64 (a.add 1) fun cr=>
 ab .i64 (a.add 2) fun cs=>
 ai (Nzd r cr cs) fun ct=>
 ki (aP .i64) (aP .i64) ct fun ar au=>
 af (.tuple #[.int .i64 au,.int .i64 ar,.bool true])) (
 ab .i64 (a.add 2) fun cu=>
 ab .i64 (a.add 1) fun cv=>
 ai (Nzd r cv cu) fun cw=>
 ki (aP .i64) (aP .i64) cw fun av aw=>
 af (.tuple #[.int .i64 aw,.int .i64 av,.bool true]))) (
 aG (
 ab .i64 (a.add 1) fun s=>
 aG (
 bz (e.add 14) fun cx=>
 ab .i64 (a.add 2) fun cy=>
 ai (Nzd cx s cy) fun cz=>
 ki (aP .i64) (aP .i64) cz fun ay az=>
 af (.tuple #[.int .i64 az,.int .i64 ay,.bool true])) (
 ab .i64 (a.add 2) fun db=>
 bz (e.add 14) fun dc=>
 ai (Nzd dc s db) fun dd=>
 ki (aP .i64) (aP .i64) dd fun ba bb=>
 af (.tuple #[.int .i64 bb,.int .i64 ba,.bool true]))) (
 ab .i64 (a.add 2) fun w=>
 aG (
 bz (e.add 14) fun de=>
 ab .i64 (a.add 1) fun df=>
 ai (Nzd de df w) fun dg=>
 ki (aP .i64) (aP .i64) dg fun bc bd=>
 af (.tuple #[.int .i64 bd,.int .i64 bc,.bool true])) (
 ab .i64 (a.add 1) fun ak=>
 bz (e.add 14) fun fm=>
 ai (Nzd fm ak w) fun fg=>
 ki (aP .i64) (aP .i64) fg fun eq er=>
 af (.tuple #[.int .i64 er,.int .i64 eq,.bool true]))))) (
 aI (b == 12) (
 ax c fun f=>
 aG (
 bz (f.add 14) fun k=>
 aG (
 ab .i64 (a.add 1) fun ca=>
 ab .i64 (a.add 2) fun cb=>
 ai (Nze k ca cb) fun cc=>
 ki (aP .i64) (aP .i64) cc fun P Q=>
 af (.tuple #[.int .i64 Q,.int .i64 P,.bool true])) (
 ab .i64 (a.add 2) fun cd=>
 ab .i64 (a.add 1) fun ce=>
 ai (Nze k ce cd) fun cf=>
 ki (aP .i64) (aP .i64) cf fun R S=>
 af (.tuple #[.int .i64 S,.int .i64 R,.bool true]))) (
 aG (
 ab .i64 (a.add 1) fun t=>
 aG (
 bz (f.add 14) fun cg=>
 ab .i64 (a.add 2) fun ch=>
 ai (Nze cg t ch) fun ci=>
 ki (aP .i64) (aP .i64) ci fun T U=>
 af (.tuple #[.int .i64 U,.int .i64 T,.bool true])) (
 ab .i64 (a.add 2) fun dh=>
 bz (f.add 14) fun cj=>
 ai (Nze cj t dh) fun ck=>
 ki (aP .i64) (aP .i64) ck fun V W=>
 af (.tuple #[.int .i64 W,.int .i64 V,.bool true]))) (
 ab .i64 (a.add 2) fun x=>
 aG (
 bz (f.add 14) fun di=>
 ab .i64 (a.add 1) fun dj=>
 ai (Nze di dj x) fun dk=>
 ki (aP .i64) (aP .i64) dk fun be bf=>
 af (.tuple #[.int .i64 bf,.int .i64 be,.bool true])) (
 ab .i64 (a.add 1) fun K=>
 bz (f.add 14) fun fn=>
 ai (Nze fn K x) fun fh=>
 ki (aP .i64) (aP .i64) fh fun es et=>
 af (.tuple #[.int .i64 et,.int .i64 es,.bool true]))))) (
 aI (b == 13) (
 ax c fun g=>
 aG (
 bz (g.add 14) fun l=>
 aG (
 ab .i64 (a.add 1) fun cl=>
 ab .i64 (a.add 2) fun cm=>
 ai (Nzc l cl cm true) fun cn=>
 ki da (aP .i64) cn fun X Y=>
 Kzi Y 0 true X) (
 ab .i64 (a.add 2) fun bm=>
 ab .i64 (a.add 1) fun bn=>
 ai (Nzc l bn bm true) fun bo=>
 ki da (aP .i64) bo fun Z aa=>
 Kzi aa 0 true Z)) (
 aG (
 ab .i64 (a.add 1) fun m=>
 aG (
 bz (g.add 14) fun bp=>
 ab .i64 (a.add 2) fun bq=>
 ai (Nzc bp m bq true) fun br=>
 ki da (aP .i64) br fun ac ad=>
 Kzi ad 0 true ac) (
 ab .i64 (a.add 2) fun bs=>
 bz (g.add 14) fun bt=>
 ai (Nzc bt m bs true) fun bu=>
 ki da (aP .i64) bu fun ae ag=>
 Kzi ag 0 true ae)) (
 ab .i64 (a.add 2) fun y=>
 aG (
 bz (g.add 14) fun bv=>
 ab .i64 (a.add 1) fun bw=>
 ai (Nzc bv bw y true) fun bx=>
 ki da (aP .i64) bx fun ah aj=>
 Kzi aj 0 true ah) (
 ab .i64 (a.add 1) fun fo=>
 bz (g.add 14) fun al=>
 ai (Nzc al fo y true) fun fi=>
 ki da (aP .i64) fi fun A B=>
 Kzi B 0 true A)))) (
 aI (b == 14) (
 ax c fun u=>
 aG (
 bz (u.add 15) fun bg=>
 ab .i64 (a.add 1) fun bh=>
 ai (YH bg bh) fun bi=>
 ki (aP .i64) (aP .i64) bi fun E F=>
 af (.tuple #[.int .i64 F,.int .i64 E,.bool true])) (
 ab .i64 (a.add 1) fun eu=>
 bz (u.add 15) fun ev=>
 ai (YH ev eu) fun ew=>
 ki (aP .i64) (aP .i64) ew fun dl dm=>
 af (.tuple #[.int .i64 dm,.int .i64 dl,.bool true]))) (
 aI (b == 15) (
 ax c fun v=>
 aG (
 bz (v.add 15) fun bj=>
 ab .i64 (a.add 1) fun bk=>
 ai (YI bj bk) fun bl=>
 ki (aP .i64) (aP .i64) bl fun G H=>
 af (.tuple #[.int .i64 H,.int .i64 G,.bool true])) (
 ab .i64 (a.add 1) fun ex=>
 bz (v.add 15) fun ey=>
 ai (YI ey ex) fun ez=>
 ki (aP .i64) (aP .i64) ez fun dn dp=>
 af (.tuple #[.int .i64 dp,.int .i64 dn,.bool true]))) (
 af (.tuple #[.int .i64 0,.int .i64 0,.bool false]))))))))))
def e2v (a d:Int)(b c:Bool):M Value:=
 aI c (
 af (.tuple #[.int .i64 a,.int .i64 1,.bool b])) (
 af (.tuple #[.int .i64 a,.int .i64 d,.bool b]))
theorem f2b (k0 cL RL RM RN){h Q}:e2o k0 cL RL RM RN h Q→a2u k0 cL RL RM RN h Q:=Nf.bh Tryz.call159 Tryz.func159 rfl mixed (cuts:=[(19,[6,7,8,9])]) (dm:=[(5,[]),(7,[]),(9,[]),(11,[]),(13,[]),(15,[]),(18,[]),(22,[]),(24,[])]) (by kernel_rfl)
theorem f2c (e6 v7 is8 SC){h Q}:e2v e6 v7 is8 SC h Q→Kzi e6 v7 is8 SC h Q:=Cut.bh Tryz.func159 mixed (cuts:=[(19,[6,7,8,9])]) (dm:=[(5,[]),(7,[]),(9,[]),(11,[]),(13,[]),(15,[]),(18,[]),(22,[]),(24,[])]) (by kernel_rfl)
def e2w (v w x y:Int)(b:Sl)(z:Int)(d e f g D:Sl)(A:Int):M Value:=
 aJ #[.int .i64 v,.int .i64 w,.int .i64 x,.int .i64 y,.slice b.p b.n b.c,.int .i64 z,.slice d.p d.n d.c,.slice e.p e.n e.c,.slice f.p f.n f.c,.slice g.p g.n g.c] 27 fun a=>
 ab .i64 a fun h=>
 ab .i64 (a.add 1) fun i=>
 ab .i64 (a.add 2) fun j=>
 ab .i64 (a.add 3) fun k=>
 aw (a.add 4) fun l=>
 ab .i64 (a.add 5) fun m=>
 aw (a.add 6) fun o=>
 aw (a.add 7) fun q=>
 aw (a.add 8) fun r=>
 aw (a.add 9) fun s=>
 ai (b7M h i j k l m o q r s) fun E=>
 da E fun F=>
 ai (aI F (ab .i64 (a.add 5) fun C=>
 af (decide (C<1000))) (af false)) fun t=>
 ai (aI t (ab .i64 (a.add 5) fun B=>
 af (decide (B>(-1000:Int)))) (af false)) fun u=>
 af (.bool ((u&&(decide ((D.n:Int)≤40)))&&(decide (A≤1500))))
theorem f2d (bE bF bG bH aV bI aW aX aY aZ l1 bN){h Q}:e2w bE bF bG bH aV bI aW aX aY aZ l1 bN h Q→c7H bE bF bG bH aV bI aW aX aY aZ l1 bN h Q:=Nf.bh Tryz.call8 Tryz.func8 rfl mixed (cuts:=[]) (dm:=[]) (by kernel_rfl)
def Kze (b:Int)(d i:Addr)(f:Option Addr)(e:Addr)(a:Sl)(g h:Int):M Value:=Cut Tryz.prog 10 (aQ Tryz.f10 6) (bf [(2,.int .i64 b),(3,.pointer (some d)),(6,.pointer (some i)),(9,.pointer f),(11,.pointer (some e)),(26,.slice a.p a.n a.c),(27,.int .i64 g),(28,.int .i64 h)] 71 0)
def e2x (J K L N:Int)(l:Sl)(O:Int)(m o q r z:Sl)(P:Int):M Value:=
 aJ #[.int .i64 J,.int .i64 K,.int .i64 L,.int .i64 N,.slice l.p l.n l.c,.int .i64 O,.slice m.p m.n m.c,.slice o.p o.n o.c,.slice q.p q.n q.c,.slice r.p r.n r.c] 27 fun b=>
 aJ #[.int .i64 0,.int .i64 0,.int .i64 0,.int .i64 0,.slice none (0) (0),.int .i64 0,.slice none (0) (0),.slice none (0) (0),.slice none (0) (0),.slice none (0) (0),.slice none (0) (0),.slice none (0) (0),.slice none (0) (0),.int .i64 0,.int .i64 0,.int .i64 0,.int .i64 0,.bool false] 40 fun a=>
 ab .i64 b fun ak=>
 ab .i64 (b.add 1) fun ah=>
 ab .i64 (b.add 2) fun F=>
 ab .i64 (b.add 3) fun G=>
 aw (b.add 4) fun H=>
 ab .i64 (b.add 5) fun I=>
 aw (b.add 6) fun X=>
 aw (b.add 7) fun Y=>
 aw (b.add 8) fun Q=>
 aw (b.add 9) fun R=>
 ai (c7v ak ah F G H I X Y Q R) fun ag=>
 ki gx (aP .i64) ag fun ac y=>
 aI (y != 0) (
 an a (.int .i64 0) <|
 an (a.add 1) (.int .i64 0) <|
 an (a.add 2) (.int .i64 0) <|
 an (a.add 3) (.int .i64 0) <|
 an (a.add 4) (.slice none (0) (0)) <|
 an (a.add 5) (.int .i64 0) <|
 an (a.add 6) (.slice none (0) (0)) <|
 an (a.add 7) (.slice none (0) (0)) <|
 an (a.add 8) (.slice none (0) (0)) <|
 an (a.add 9) (.slice none (0) (0)) <|
 an (a.add 10) (.slice none (0) (0)) <|
 an (a.add 11) (.slice none (0) (0)) <|
 an (a.add 12) (.slice none (0) (0)) <|
 an (a.add 13) (.int .i64 0) <|
 an (a.add 14) (.int .i64 0) <|
 an (a.add 15) (.int .i64 0) <|
 an (a.add 16) (.int .i64 0) <|
 an (a.add 17) (.bool false) <|
 ab .i64 a fun D=>
 ab .i64 (a.add 1) fun E=>
 ab .i64 (a.add 2) fun A=>
 ab .i64 (a.add 3) fun Z=>
 aw (a.add 4) fun s=>
 ab .i64 (a.add 5) fun aa=>
 aw (a.add 6) fun t=>
 aw (a.add 7) fun u=>
 aw (a.add 8) fun v=>
 aw (a.add 9) fun w=>
 aw (a.add 10) fun i=>
 aw (a.add 11) fun j=>
 aw (a.add 12) fun k=>
 ab .i64 (a.add 13) fun S=>
 ab .i64 (a.add 14) fun T=>
 ab .i64 (a.add 15) fun U=>
 ab .i64 (a.add 16) fun V=>
 g9 (a.add 17) fun W=>
 af (.tuple #[.agg #[.int .i64 D,.int .i64 E,.int .i64 A,.int .i64 Z,.slice s.p s.n s.c,.int .i64 aa,.slice t.p t.n t.c,.slice u.p u.n u.c,.slice v.p v.n v.c,.slice w.p w.n w.c,.slice i.p i.n i.c,.slice j.p j.n j.c,.slice k.p k.n k.c,.int .i64 S,.int .i64 T,.int .i64 U,.int .i64 V,.bool W],.pointer none,.int .i64 y])) (
 ab .i64 b fun ad=>
 ab .i64 (b.add 1) fun ae=>
 ab .i64 (b.add 2) fun aj=>
 ab .i64 (b.add 3) fun B=>
 aw (b.add 4) fun e=>
 ab .i64 (b.add 5) fun C=>
 aw (b.add 6) fun x=>
 aw (b.add 7) fun f=>
 aw (b.add 8) fun g=>
 aw (b.add 9) fun h=>
 aJ #[.int .i64 0,.int .i64 0,.int .i64 0,.int .i64 0,.slice none (0) (0),.int .i64 0,.slice none (0) (0),.slice none (0) (0),.slice none (0) (0),.slice none (0) (0),.slice none (0) (0),.slice none (0) (0),.slice none (0) (0),.int .i64 0,.int .i64 0,.int .i64 0,.int .i64 0,.bool false] 40 fun d=>
 an d (.int .i64 ad) <|
 an (d.add 1) (.int .i64 ae) <|
 an (d.add 2) (.int .i64 aj) <|
 an (d.add 3) (.int .i64 B) <|
 an (d.add 4) (.slice e.p e.n e.c) <|
 an (d.add 5) (.int .i64 C) <|
 an (d.add 6) (.slice x.p x.n x.c) <|
 an (d.add 7) (.slice f.p f.n f.c) <|
 an (d.add 8) (.slice g.p g.n g.c) <|
 an (d.add 9) (.slice h.p h.n h.c) <|
 an (d.add 10) (.slice none (0) (0)) <|
 an (d.add 11) (.slice none (0) (0)) <|
 an (d.add 12) (.slice none (0) (0)) <|
 an (d.add 13) (.int .i64 0) <|
 an (d.add 14) (.int .i64 0) <|
 an (d.add 15) (.int .i64 0) <|
 an (d.add 16) (.int .i64 0) <|
 an (d.add 17) (.bool false) <|
 Kze P b a ac d z (z.n:Int) 0)
def Bzw (g:Int)(d a:Addr)(e:Option Addr)(b:Addr)(h:Sl)(i f:Int):M Value:=
 aI (decide (f<i)) (
 bd h f 5 fun df=>
 jW df fun cb aa cc cd ce=>
 aJ #[.int .i64 0,.int .i64 0,.int .i64 0,.int .i64 0,.int .i64 0] 47 fun j=>
 YG j cb aa cc cd ce <|
 aG (
 aw (b.add 12) fun be=>
 jW j fun ak al am ao ap=>
 ai (Nzv e ak al am ao ap) fun bf=>
 aP .i64 bf fun bg=>
 aJ #[.int .i64 bg] 32 fun bh=>
 bU 32 1 8 #[.int .i64 0] be ⟨(some bh),1,1⟩ fun k=>
 an (b.add 12) (.slice k.p k.n k.c) <|
 Kze g d a e b h i (IntKind.i64.wrap (f+(1:Int)))) (
 jW j fun R S T U V=>
 aG (
 aw (b.add 12) fun bi=>
 ai (Nzv e R S T U V) fun bj=>
 aP .i64 bj fun bk=>
 aJ #[.int .i64 bk] 32 fun bl=>
 bU 32 1 8 #[.int .i64 0] bi ⟨(some bl),1,1⟩ fun Q=>
 an (b.add 12) (.slice Q.p Q.n Q.c) <|
 Kze g d a e b h i (IntKind.i64.wrap (f+(1:Int)))) (
 ai (Nzv e R S T U V) fun dg=>
 aP .i64 dg fun W=>
 aG (
 aw (b.add 12) fun bm=>
 aJ #[.int .i64 W] 32 fun bn=>
 bU 32 1 8 #[.int .i64 0] bm ⟨(some bn),1,1⟩ fun l=>
 an (b.add 12) (.slice l.p l.n l.c) <|
 Kze g d a e b h i (IntKind.i64.wrap (f+(1:Int)))) (
 aJ #[.int .i64 W] 32 fun dq=>
 aw (b.add 12) fun dn=>
 bU 32 1 8 #[.int .i64 0] dn ⟨(some dq),1,1⟩ fun O=>
 an (b.add 12) (.slice O.p O.n O.c) <|
 Kze g d a e b h i (IntKind.i64.wrap (f+(1:Int))))))) (
 ai (c7w e g) fun dh=>
 aP .i64 dh fun X=>
 aI (X != 0) (
 an a (.int .i64 0) <|
 an (a.add 1) (.int .i64 0) <|
 an (a.add 2) (.int .i64 0) <|
 an (a.add 3) (.int .i64 0) <|
 an (a.add 4) (.slice none (0) (0)) <|
 an (a.add 5) (.int .i64 0) <|
 an (a.add 6) (.slice none (0) (0)) <|
 an (a.add 7) (.slice none (0) (0)) <|
 an (a.add 8) (.slice none (0) (0)) <|
 an (a.add 9) (.slice none (0) (0)) <|
 an (a.add 10) (.slice none (0) (0)) <|
 an (a.add 11) (.slice none (0) (0)) <|
 an (a.add 12) (.slice none (0) (0)) <|
 an (a.add 13) (.int .i64 0) <|
 an (a.add 14) (.int .i64 0) <|
 an (a.add 15) (.int .i64 0) <|
 an (a.add 16) (.int .i64 0) <|
 an (a.add 17) (.bool false) <|
 ab .i64 a fun cf=>
 ab .i64 (a.add 1) fun cg=>
 ab .i64 (a.add 2) fun ch=>
 ab .i64 (a.add 3) fun ci=>
 aw (a.add 4) fun y=>
 ab .i64 (a.add 5) fun cj=>
 aw (a.add 6) fun z=>
 aw (a.add 7) fun A=>
 aw (a.add 8) fun B=>
 aw (a.add 9) fun C=>
 aw (a.add 10) fun m=>
 aw (a.add 11) fun o=>
 aw (a.add 12) fun q=>
 ab .i64 (a.add 13) fun bo=>
 ab .i64 (a.add 14) fun bp=>
 ab .i64 (a.add 15) fun bq=>
 ab .i64 (a.add 16) fun br=>
 g9 (a.add 17) fun bs=>
 af (.tuple #[.agg #[.int .i64 cf,.int .i64 cg,.int .i64 ch,.int .i64 ci,.slice y.p y.n y.c,.int .i64 cj,.slice z.p z.n z.c,.slice A.p A.n A.c,.slice B.p B.n B.c,.slice C.p C.n C.c,.slice m.p m.n m.c,.slice o.p o.n o.c,.slice q.p q.n q.c,.int .i64 bo,.int .i64 bp,.int .i64 bq,.int .i64 br,.bool bs],.pointer none,.int .i64 X])) (
 ai (c7x e) fun di=>
 sI di fun x=>
 ai (c7y e) fun dj=>
 sI dj fun P=>
 ai (c7z e) fun dk=>
 aP .i64 dk fun Y=>
 ai (c7A e) fun dl=>
 aP .i64 dl fun dp=>
 an (b.add 10) (.slice x.p x.n x.c) <|
 an (b.add 11) (.slice P.p P.n P.c) <|
 an (b.add 13) (.int .i64 Y) <|
 an (b.add 14) (.int .i64 dp) <|
 ab .i64 d fun ad=>
 ab .i64 (d.add 1) fun ae=>
 ab .i64 (d.add 2) fun ag=>
 ab .i64 (d.add 3) fun ah=>
 aw (d.add 4) fun aj=>
 ab .i64 (d.add 5) fun ck=>
 aw (d.add 6) fun cl=>
 aw (d.add 7) fun cm=>
 aw (d.add 8) fun cn=>
 aw (d.add 9) fun co=>
 aw (b.add 10) fun Z=>
 ai (c7J ad ae ag ah aj ck cl cm cn co Z) fun dm=>
 tM dm fun de=>
 bB de fun cp cq=>
 kg cp fun bt=>
 bB bt fun aq ar=>
 aP .i64 aq fun au=>
 bB ar fun av ax=>
 aP .i64 av fun ay=>
 fO ax <|
 bB cq fun cr cs=>
 da cr fun ac=>
 fO cs <|
 an (b.add 15) (.int .i64 au) <|
 an ((b.add 15).add 1) (.int .i64 ay) <|
 an (b.add 17) (.bool ac) <|
 ab .i64 b fun ct=>
 ab .i64 (b.add 1) fun cu=>
 ab .i64 (b.add 2) fun cv=>
 ab .i64 (b.add 3) fun cw=>
 aw (b.add 4) fun D=>
 ab .i64 (b.add 5) fun cx=>
 aw (b.add 6) fun E=>
 aw (b.add 7) fun F=>
 aw (b.add 8) fun G=>
 aw (b.add 9) fun H=>
 aw (b.add 10) fun r=>
 aw (b.add 11) fun s=>
 aw (b.add 12) fun t=>
 ab .i64 (b.add 13) fun bu=>
 ab .i64 (b.add 14) fun bv=>
 ab .i64 (b.add 15) fun bw=>
 ab .i64 (b.add 16) fun bx=>
 g9 (b.add 17) fun bz=>
 an a (.int .i64 ct) <|
 an (a.add 1) (.int .i64 cu) <|
 an (a.add 2) (.int .i64 cv) <|
 an (a.add 3) (.int .i64 cw) <|
 an (a.add 4) (.slice D.p D.n D.c) <|
 an (a.add 5) (.int .i64 cx) <|
 an (a.add 6) (.slice E.p E.n E.c) <|
 an (a.add 7) (.slice F.p F.n F.c) <|
 an (a.add 8) (.slice G.p G.n G.c) <|
 an (a.add 9) (.slice H.p H.n H.c) <|
 an (a.add 10) (.slice r.p r.n r.c) <|
 an (a.add 11) (.slice s.p s.n s.c) <|
 an (a.add 12) (.slice t.p t.n t.c) <|
 an (a.add 13) (.int .i64 bu) <|
 an (a.add 14) (.int .i64 bv) <|
 an (a.add 15) (.int .i64 bw) <|
 an (a.add 16) (.int .i64 bx) <|
 an (a.add 17) (.bool bz) <|
 ab .i64 a fun cy=>
 ab .i64 (a.add 1) fun cz=>
 ab .i64 (a.add 2) fun db=>
 ab .i64 (a.add 3) fun dc=>
 aw (a.add 4) fun I=>
 ab .i64 (a.add 5) fun dd=>
 aw (a.add 6) fun J=>
 aw (a.add 7) fun K=>
 aw (a.add 8) fun L=>
 aw (a.add 9) fun N=>
 aw (a.add 10) fun u=>
 aw (a.add 11) fun v=>
 aw (a.add 12) fun w=>
 ab .i64 (a.add 13) fun ca=>
 ab .i64 (a.add 14) fun az=>
 ab .i64 (a.add 15) fun ba=>
 ab .i64 (a.add 16) fun bb=>
 g9 (a.add 17) fun bc=>
 af (.tuple #[.agg #[.int .i64 cy,.int .i64 cz,.int .i64 db,.int .i64 dc,.slice I.p I.n I.c,.int .i64 dd,.slice J.p J.n J.c,.slice K.p K.n K.c,.slice L.p L.n L.c,.slice N.p N.n N.c,.slice u.p u.n u.c,.slice v.p v.n v.c,.slice w.p w.n w.c,.int .i64 ca,.int .i64 az,.int .i64 ba,.int .i64 bb,.bool bc],.pointer e,.int .i64 0])))
theorem f2h (bE bF bG bH aV bI aW aX aY aZ l1 bN){h Q}:e2x bE bF bG bH aV bI aW aX aY aZ l1 bN h Q→c7I bE bF bG bH aV bI aW aX aY aZ l1 bN h Q:=Nf.bh Tryz.call10 Tryz.func10 rfl mixed (cuts:=[(6,[2,3,6,9,11,26,27,28])]) (dm:=[(8,[])]) (by kernel_rfl)
theorem Szw (bN c3 t6 k9 ja t26 t27 t28){h Q}:Bzw bN c3 t6 k9 ja t26 t27 t28 h Q→Kze bN c3 t6 k9 ja t26 t27 t28 h Q:=Cut.bh Tryz.func10 mixed (cuts:=[(6,[2,3,6,9,11,26,27,28])]) (dm:=[(8,[])]) (by kernel_rfl)
def e3j (A B C D:Int)(d:Sl)(E:Int)(e f g h F:Sl):M Value:=
 aJ #[.int .i64 A,.int .i64 B,.int .i64 C,.int .i64 D,.slice d.p d.n d.c,.int .i64 E,.slice e.p e.n e.c,.slice f.p f.n f.c,.slice g.p g.n g.c,.slice h.p h.n h.c] 27 fun a=>
 aJ #[.int .i64 0,.int .i64 0] 38 fun b=>
 ab .i64 a fun k=>
 ab .i64 (a.add 1) fun l=>
 ab .i64 (a.add 2) fun m=>
 ab .i64 (a.add 3) fun t=>
 aw (a.add 4) fun u=>
 ab .i64 (a.add 5) fun v=>
 aw (a.add 6) fun w=>
 aw (a.add 7) fun x=>
 aw (a.add 8) fun y=>
 aw (a.add 9) fun z=>
 ai (e0s k l m t u v w x y z F) fun I=>
 sI I fun j=>
 aI (decide ((j.n:Int)>0)) (
 bd j 0 2 fun i=>
 ab .i64 i fun G=>
 ab .i64 (i.add 1) fun H=>
 an b (.int .i64 G) <|
 an (b.add 1) (.int .i64 H) <|
 ab .i64 b fun r=>
 ab .i64 (b.add 1) fun s=>
 af (.tuple #[.agg #[.int .i64 r,.int .i64 s],.bool true])) (
 an b (.int .i64 0) <|
 an (b.add 1) (.int .i64 0) <|
 ab .i64 b fun o=>
 ab .i64 (b.add 1) fun q=>
 af (.tuple #[.agg #[.int .i64 o,.int .i64 q],.bool false]))
theorem f2i (bE bF bG bH aV bI aW aX aY aZ l1){h Q}:e3j bE bF bG bH aV bI aW aX aY aZ l1 h Q→c7J bE bF bG bH aV bI aW aX aY aZ l1 h Q:=Nf.bh Tryz.call19 Tryz.func19 rfl mixed (cuts:=[]) (dm:=[]) (by kernel_rfl)
def Kz5 (d:Addr)(a:Sl)(e:Option Nat)(b:Sl)(f g:Int):M Value:=Cut Tryz.prog 59 (aQ Tryz.f59 4) (bf [(2,.pointer (some d)),(5,.slice a.p a.n a.c),(6,.map e),(12,.slice b.p b.n b.c),(13,.int .i64 f),(14,.int .i64 g)] 74 0)
def e3k (h i j k:Int)(a:Sl)(l:Int)(b d e f g:Sl):M Value:=
 aJ #[.int .i64 h,.int .i64 i,.int .i64 j,.int .i64 k,.slice a.p a.n a.c,.int .i64 l,.slice b.p b.n b.c,.slice d.p d.n d.c,.slice e.p e.n e.c,.slice f.p f.n f.c] 27 fun o=>
 mv fun m=>
 Kz5 o (Sl.mk none 0 0) (some m) g (g.n:Int) 0
def Bzx (f:Addr)(d:Sl)(e:Option Nat)(h:Sl)(i g:Int):M Value:=
 aI (decide (g<i)) (
 bd h g 7 fun b=>
 ab .i64 b fun N=>
 ab .i64 (b.add 1) fun I=>
 ab .i64 (b.add 2) fun Q=>
 ab .i64 (b.add 3) fun k=>
 ab .i64 (b.add 4) fun l=>
 ab .i64 (b.add 5) fun m=>
 ab .i64 (b.add 6) fun v=>
 aJ #[.int .i64 0,.int .i64 0,.int .i64 0,.int .i64 0,.int .i64 0,.int .i64 0,.int .i64 0] 64 fun a=>
 an a (.int .i64 N) <|
 an (a.add 1) (.int .i64 I) <|
 an (a.add 2) (.int .i64 Q) <|
 an (a.add 3) (.int .i64 k) <|
 an (a.add 4) (.int .i64 l) <|
 an (a.add 5) (.int .i64 m) <|
 an (a.add 6) (.int .i64 v) <|
 ab .i64 a fun t=>
 ab .i64 (a.add 1) fun u=>
 ab .i64 (a.add 2) fun B=>
 ab .i64 (a.add 3) fun C=>
 ab .i64 (a.add 4) fun D=>
 ab .i64 (a.add 5) fun E=>
 ab .i64 (a.add 6) fun F=>
 ai (c7K t u B C D E F) fun T=>
 da T fun G=>
 ai (aI (!G) (af true) (ab .i64 (a.add 2) fun H=>
 af (decide (H<0)))) fun w=>
 ai (aI w (af true) (ab .i64 (a.add 2) fun X=>
 aw (f.add 8) fun O=>
 af (decide (X≥(O.n:Int))))) fun x=>
 aI x (
 Kz5 f d e h i (IntKind.i64.wrap (g+(1:Int)))) (
 ab .i64 (a.add 2) fun am=>
 gT e fun J=>
 qs .i64 J am (.int .i64 0) fun z A=>
 aP .i64 z fun P=>
 ai (aI A (ab .i64 a fun ak=>
 mQ (TK ak) fun U=>
 aP .i64 U fun R=>
 aw (f.add 8) fun r=>
 ab .i64 (a.add 2) fun Z=>
 bd r Z 7 fun o=>
 ab .i64 (o.add 2) fun ah=>
 mQ (TK ah) fun V=>
 aP .i64 V fun Y=>
 af (decide ((IntKind.i64.wrap (R-P))<Y))) (af false)) fun y=>
 aI y (
 ab .i64 a fun q=>
 ab .i64 (a.add 2) fun S=>
 aJ #[.int .i64 q,.int .i64 S] 38 fun al=>
 bU 38 2 16 #[.int .i64 0,.int .i64 0] d ⟨(some al),1,1⟩ fun aa=>
 ab .i64 (a.add 2) fun s=>
 ab .i64 a fun aj=>
 mQ (TK aj) fun W=>
 aP .i64 W fun j=>
 gT e fun K=>
 gb .i64 K s (.int .i64 j) <|
 Kz5 f aa e h i (IntKind.i64.wrap (g+(1:Int)))) (
 ab .i64 (a.add 2) fun ac=>
 ab .i64 a fun ad=>
 mQ (TK ad) fun ae=>
 aP .i64 ae fun ag=>
 gT e fun L=>
 gb .i64 L ac (.int .i64 ag) <|
 Kz5 f d e h i (IntKind.i64.wrap (g+(1:Int)))))) (
 af (.slice d.p d.n d.c))
theorem f2j (bE bF bG bH aV bI aW aX aY aZ l1){h Q}:e3k bE bF bG bH aV bI aW aX aY aZ l1 h Q→e0s bE bF bG bH aV bI aW aX aY aZ l1 h Q:=Nf.bh Tryz.call59 Tryz.func59 rfl mixed (cuts:=[(4,[2,5,6,12,13,14])]) (dm:=[(10,[0,1,2,3,4,5])]) (by kernel_rfl)
theorem Szx (c2 eX nL t12 t13 t14){h Q}:Bzx c2 eX nL t12 t13 t14 h Q→Kz5 c2 eX nL t12 t13 t14 h Q:=Cut.bh Tryz.func59 mixed (cuts:=[(4,[2,5,6,12,13,14])]) (dm:=[(10,[0,1,2,3,4,5])]) (by kernel_rfl)
def e3q (f g h i b c d:Int):M Value:=
 aJ #[.int .i64 f,.int .i64 g,.int .i64 h,.int .i64 i,.int .i64 b,.int .i64 c,.int .i64 d] 64 fun a=>
 ab .i64 (a.add 1) fun j=>
 ai (aI (j == 1) (af true) (ab .i64 (a.add 1) fun k=>
 af (k == 2))) fun e=>
 af (.bool e)
theorem f2k (rR rS rT rU RO RP RR){h Q}:e3q rR rS rT rU RO RP RR h Q→c7K rR rS rT rU RO RP RR h Q:=Nf.bh Tryz.call120 Tryz.func120 rfl mixed (cuts:=[]) (dm:=[]) (by kernel_rfl)
def f2l (a:Int):M Value:=
 af (.int .i64 (if (1099511627776:Int)<(if (-1099511627776:Int)>a then (-1099511627776:Int) else a) then 1099511627776 else (if (-1099511627776:Int)>a then (-1099511627776:Int) else a)))
theorem f2m (n0){h Q}:f2l n0 h Q→TK n0 h Q:=Nf.bh Tryz.call121 Tryz.func121 rfl mixed (cuts:=[]) (dm:=[]) (by kernel_rfl)
def a5X (d f:Addr)(e:Option Addr)(b:Int)(a:Sl)(g h:Int):M Value:=Cut Tryz.prog 6 (aQ Tryz.f6 11) (bf [(3,.pointer (some d)),(8,.pointer (some f)),(9,.pointer e),(11,.int .i64 b),(49,.slice a.p a.n a.c),(50,.int .i64 g),(51,.int .i64 h)] 169 0)
def b3S (d g:Addr)(f:Option Addr)(b:Int)(e:Addr)(a:Sl)(h i:Int):M Value:=Cut Tryz.prog 6 (aQ Tryz.f6 17) (bf [(3,.pointer (some d)),(8,.pointer (some g)),(9,.pointer f),(11,.int .i64 b),(13,.pointer (some e)),(49,.slice a.p a.n a.c),(50,.int .i64 h),(51,.int .i64 i)] 169 0)
def Kzm (d f:Addr)(e:Option Addr)(b:Int)(a:Sl)(g h:Int):M Value:=Cut Tryz.prog 6 (aQ Tryz.f6 21) (bf [(3,.pointer (some d)),(8,.pointer (some f)),(9,.pointer e),(11,.int .i64 b),(83,.slice a.p a.n a.c),(84,.int .i64 g),(85,.int .i64 h)] 169 0)
def a5Y (e j:Addr)(i:Option Addr)(d:Int)(f:Addr)(g:Int)(h:Bool)(a:Sl)(k l:Int)(b:Sl)(m o:Int):M Value:=Cut Tryz.prog 6 (aQ Tryz.f6 25) (bf [(3,.pointer (some e)),(8,.pointer (some j)),(9,.pointer i),(11,.int .i64 d),(15,.pointer (some f)),(16,.int .i64 g),(17,.bool h),(83,.slice a.p a.n a.c),(84,.int .i64 k),(85,.int .i64 l),(95,.slice b.p b.n b.c),(96,.int .i64 m),(97,.int .i64 o)] 169 0)
def a5Z (e j:Addr)(i:Option Addr)(d:Int)(f:Addr)(g:Int)(h:Bool)(a:Sl)(k l:Int)(b:Sl)(m o:Int):M Value:=Cut Tryz.prog 6 (aQ Tryz.f6 32) (bf [(3,.pointer (some e)),(8,.pointer (some j)),(9,.pointer i),(11,.int .i64 d),(15,.pointer (some f)),(16,.int .i64 g),(17,.bool h),(83,.slice a.p a.n a.c),(84,.int .i64 k),(85,.int .i64 l),(95,.slice b.p b.n b.c),(96,.int .i64 m),(97,.int .i64 o)] 169 0)
def a6a (d:Option Addr)(b e:Int)(a:Sl)(f g:Int):M Value:=Cut Tryz.prog 6 (aQ Tryz.f6 41) (bf [(9,.pointer d),(11,.int .i64 b),(20,.int .i64 e),(143,.slice a.p a.n a.c),(144,.int .i64 f),(145,.int .i64 g)] 169 0)
def e3r (bh bi bj bk:Int)(i:Sl)(bl:Int)(j k l m u:Sl)(t:Int):M Value:=
 aJ #[.int .i64 bh,.int .i64 bi,.int .i64 bj,.int .i64 bk,.slice i.p i.n i.c,.int .i64 bl,.slice j.p j.n j.c,.slice k.p k.n k.c,.slice l.p l.n l.c,.slice m.p m.n m.c] 27 fun a=>
 ai (f0w) fun cw=>
 da cw fun ct=>
 aI (!ct) (
 af (.bool false)) (
 cD ((500:Int)≠0) <|
 ab .i64 a fun B=>
 ab .i64 (a.add 1) fun C=>
 ab .i64 (a.add 2) fun D=>
 ab .i64 (a.add 3) fun ck=>
 aw (a.add 4) fun cl=>
 ab .i64 (a.add 5) fun cm=>
 aw (a.add 6) fun cn=>
 aw (a.add 7) fun co=>
 aw (a.add 8) fun cp=>
 aw (a.add 9) fun cq=>
 ai (c7H B C D ck cl cm cn co cp cq u (IntKind.i64.wrap (Int.tmod t 500))) fun v=>
 da v fun cu=>
 ai (aI (!cu) (af true) (ab .i64 a fun y=>
 ab .i64 (a.add 1) fun z=>
 ab .i64 (a.add 2) fun A=>
 ab .i64 (a.add 3) fun cr=>
 aw (a.add 4) fun bn=>
 ab .i64 (a.add 5) fun bo=>
 aw (a.add 6) fun bp=>
 aw (a.add 7) fun bq=>
 aw (a.add 8) fun br=>
 aw (a.add 9) fun bs=>
 ai (b7y y z A cr bn bo bp bq br bs) fun cx=>
 aP .i64 cx fun cv=>
 af (cv != 0))) fun bg=>
 aI bg (
 af (.bool true)) (
 ab .i64 a fun w=>
 ab .i64 (a.add 1) fun x=>
 ab .i64 (a.add 2) fun bt=>
 ab .i64 (a.add 3) fun bu=>
 aw (a.add 4) fun bv=>
 ab .i64 (a.add 5) fun bw=>
 aw (a.add 6) fun bx=>
 aw (a.add 7) fun bz=>
 aw (a.add 8) fun ca=>
 aw (a.add 9) fun cb=>
 ai (c7I w x bt bu bv bw bx bz ca cb u (IntKind.i64.wrap (Int.tmod t 500))) fun cy=>
 tM cy fun cs=>
 bB cs fun cc cd=>
 kg cc fun bm=>
 bB bm fun aa ac=>
 aP .i64 aa fun ad=>
 bB ac fun ae ag=>
 aP .i64 ae fun ah=>
 bB ag fun aj ak=>
 aP .i64 aj fun al=>
 bB ak fun am ao=>
 aP .i64 am fun ap=>
 bB ao fun aq ar=>
 sI aq fun d=>
 bB ar fun au av=>
 aP .i64 au fun ax=>
 bB av fun ay az=>
 sI ay fun e=>
 bB az fun ba bb=>
 sI ba fun f=>
 bB bb fun bc bd=>
 sI bc fun g=>
 bB bd fun be bf=>
 sI be fun h=>
 bB bf fun E F=>
 sI E fun o=>
 bB F fun G H=>
 sI G fun q=>
 bB H fun I J=>
 sI I fun r=>
 bB J fun K L=>
 aP .i64 K fun N=>
 bB L fun O P=>
 aP .i64 O fun Q=>
 bB P fun R S=>
 aP .i64 R fun T=>
 bB S fun U V=>
 aP .i64 U fun W=>
 bB V fun X Y=>
 da X fun Z=>
 fO Y <|
 bB cd fun ce cf=>
 gx ce fun cg=>
 bB cf fun ch ci=>
 aP .i64 ch fun cj=>
 fO ci <|
 aJ #[.int .i64 0,.int .i64 0,.int .i64 0,.int .i64 0,.slice none (0) (0),.int .i64 0,.slice none (0) (0),.slice none (0) (0),.slice none (0) (0),.slice none (0) (0),.slice none (0) (0),.slice none (0) (0),.slice none (0) (0),.int .i64 0,.int .i64 0,.int .i64 0,.int .i64 0,.bool false] 40 fun b=>
 an b (.int .i64 ad) <|
 an (b.add 1) (.int .i64 ah) <|
 an (b.add 2) (.int .i64 al) <|
 an (b.add 3) (.int .i64 ap) <|
 an (b.add 4) (.slice d.p d.n d.c) <|
 an (b.add 5) (.int .i64 ax) <|
 an (b.add 6) (.slice e.p e.n e.c) <|
 an (b.add 7) (.slice f.p f.n f.c) <|
 an (b.add 8) (.slice g.p g.n g.c) <|
 an (b.add 9) (.slice h.p h.n h.c) <|
 an (b.add 10) (.slice o.p o.n o.c) <|
 an (b.add 11) (.slice q.p q.n q.c) <|
 an (b.add 12) (.slice r.p r.n r.c) <|
 an (b.add 13) (.int .i64 N) <|
 an (b.add 14) (.int .i64 Q) <|
 an (b.add 15) (.int .i64 T) <|
 an (b.add 16) (.int .i64 W) <|
 an (b.add 17) (.bool Z) <|
 aI (cj != 0) (
 af (.bool false)) (
 aw (b.add 10) fun s=>
 a5X a b cg 0 s (s.n:Int) 0)))
def Bzy (f c:Addr)(g:Option Addr)(e:Int)(h:Sl)(i d:Int):M Value:=
 aI (decide (d<i)) (
 bd h d 7 fun b=>
 ab .i64 b fun l=>
 ab .i64 (b.add 1) fun m=>
 ab .i64 (b.add 2) fun o=>
 ab .i64 (b.add 3) fun p=>
 ab .i64 (b.add 4) fun q=>
 ab .i64 (b.add 5) fun r=>
 ab .i64 (b.add 6) fun s=>
 aJ #[.int .i64 0,.int .i64 0,.int .i64 0,.int .i64 0,.int .i64 0,.int .i64 0,.int .i64 0] 64 fun a=>
 an a (.int .i64 l) <|
 an (a.add 1) (.int .i64 m) <|
 an (a.add 2) (.int .i64 o) <|
 an (a.add 3) (.int .i64 p) <|
 an (a.add 4) (.int .i64 q) <|
 an (a.add 5) (.int .i64 r) <|
 an (a.add 6) (.int .i64 s) <|
 ab .i64 (a.add 1) fun k=>
 aI (k == 7) (
 ab .i64 (a.add 5) fun t=>
 aI (t != 11) (
 af (.bool false)) (
 b3S f c g (IntKind.i64.wrap (e+1)) a h i d)) (
 b3S f c g e a h i d)) (
 aw (c.add 11) fun j=>
 Kzm f c g e j (j.n:Int) 0)
def e4d (g i:Addr)(h:Option Addr)(c:Int)(a:Addr)(j:Sl)(k l:Int):M Value:=
 ab .i64 (a.add 1) fun o=>
 ai (aI (o == 8) (ab .i64 (a.add 4) fun b=>
 ai (aI (b == 5) (af true) (ab .i64 (a.add 4) fun m=>
 af (m == 6))) fun d=>
 af d) (af false)) fun e=>
 ai (aI e (ab .i64 (a.add 5) fun n=>
 af (n != 0)) (af false)) fun f=>
 aI f (
 af (.bool false)) (
 a5X g i h c j k (IntKind.i64.wrap (l+(1:Int))))
def Bzz (e h:Addr)(g:Option Addr)(d:Int)(i:Sl)(j c:Int):M Value:=
 aI (decide (c<j)) (
 bd i c 11 fun b=>
 ab .i64 b fun m=>
 ab .i64 (b.add 1) fun o=>
 ab .i64 (b.add 2) fun p=>
 ab .i64 (b.add 3) fun q=>
 ab .i64 (b.add 4) fun r=>
 g9 (b.add 5) fun s=>
 ab .i64 (b.add 6) fun t=>
 ab .i64 (b.add 7) fun u=>
 ab .i64 (b.add 8) fun v=>
 ab .i64 (b.add 9) fun w=>
 ab .i64 (b.add 10) fun l=>
 aJ #[.int .i64 0,.int .i64 0,.int .i64 0,.int .i64 0,.int .i64 0,.bool false,.int .i64 0,.int .i64 0,.int .i64 0,.int .i64 0,.int .i64 0] 66 fun a=>
 an a (.int .i64 m) <|
 an (a.add 1) (.int .i64 o) <|
 an (a.add 2) (.int .i64 p) <|
 an (a.add 3) (.int .i64 q) <|
 an (a.add 4) (.int .i64 r) <|
 an (a.add 5) (.bool s) <|
 an (a.add 6) (.int .i64 t) <|
 an (a.add 7) (.int .i64 u) <|
 an (a.add 8) (.int .i64 v) <|
 an (a.add 9) (.int .i64 w) <|
 an (a.add 10) (.int .i64 l) <|
 aw (e.add 8) fun x=>
 ab .i64 a fun y=>
 bd x y 7 fun z=>
 aw (z.add 6) fun k=>
 a5Y e h g d a 0 false i j c k (k.n:Int) 0) (
 aw (h.add 11) fun f=>
 a6a g d 0 f (f.n:Int) 0)
def d1I (d g:Addr)(f:Option Addr)(c:Int)(a:Addr)(n:Int)(e:Bool)(h:Sl)(i j:Int)(l:Sl)(m k:Int):M Value:=
 aI (decide (k<m)) (
 bd l k 3 fun o=>
 ab .i64 o fun v=>
 ab .i64 (o.add 1) fun w=>
 ab .i64 (o.add 2) fun x=>
 aJ #[.int .i64 0,.int .i64 0,.int .i64 0] 90 fun b=>
 an b (.int .i64 v) <|
 an (b.add 1) (.int .i64 w) <|
 an (b.add 2) (.int .i64 x) <|
 ab .i64 b fun p=>
 aI (p == 7) (
 ab .i64 (b.add 1) fun q=>
 a5Z d g f c a (IntKind.i64.wrap (n+q)) e h i j l m k) (
 aI (p == 8) (
 ab .i64 (b.add 1) fun A=>
 a5Z d g f c a (IntKind.i64.wrap (n-A)) e h i j l m k) (
 a5Z d g f c a n e h i j l m k))) (
 g9 (a.add 5) fun B=>
 aI B (
 ab .i64 (a.add 4) fun y=>
 ai (aI (decide (y≥0)) (g9 (a.add 5) fun z=>
 af (!(z == e))) (af false)) fun t=>
 aI t (
 af (.bool false)) (
 Kzm d g f (IntKind.i64.wrap (c-1)) h i (IntKind.i64.wrap (j+(1:Int))))) (
 ab .i64 (a.add 4) fun r=>
 ai (aI (decide (r≥0)) (g9 (a.add 5) fun s=>
 af (!(s == e))) (af false)) fun u=>
 aI u (
 af (.bool false)) (
 Kzm d g f c h i (IntKind.i64.wrap (j+(1:Int))))))
def e4p (a l:Addr)(k:Option Addr)(d:Int)(b:Addr)(c:Int)(j:Bool)(m:Sl)(n o:Int)(p:Sl)(q r:Int):M Value:=
 ai (aI j (af true) (aw (a.add 8) fun f=>
 ab .i64 b fun g=>
 bd f g 7 fun h=>
 ab .i64 (h.add 4) fun i=>
 af (decide (c>i)))) fun e=>
 a5Y a l k d b c e m n o p q (IntKind.i64.wrap (r+(1:Int)))
def d1O (e:Option Addr)(d f:Int)(g:Sl)(h c:Int):M Value:=
 aI (decide (c<h)) (
 bd g c 11 fun b=>
 ab .i64 b fun l=>
 ab .i64 (b.add 1) fun m=>
 ab .i64 (b.add 2) fun o=>
 ab .i64 (b.add 3) fun p=>
 ab .i64 (b.add 4) fun q=>
 g9 (b.add 5) fun r=>
 ab .i64 (b.add 6) fun s=>
 ab .i64 (b.add 7) fun t=>
 ab .i64 (b.add 8) fun u=>
 ab .i64 (b.add 9) fun v=>
 ab .i64 (b.add 10) fun i=>
 aJ #[.int .i64 0,.int .i64 0,.int .i64 0,.int .i64 0,.int .i64 0,.bool false,.int .i64 0,.int .i64 0,.int .i64 0,.int .i64 0,.int .i64 0] 66 fun a=>
 an a (.int .i64 l) <|
 an (a.add 1) (.int .i64 m) <|
 an (a.add 2) (.int .i64 o) <|
 an (a.add 3) (.int .i64 p) <|
 an (a.add 4) (.int .i64 q) <|
 an (a.add 5) (.bool r) <|
 an (a.add 6) (.int .i64 s) <|
 an (a.add 7) (.int .i64 t) <|
 an (a.add 8) (.int .i64 u) <|
 an (a.add 9) (.int .i64 v) <|
 an (a.add 10) (.int .i64 i) <|
 ab .i64 (a.add 3) fun w=>
 ai (aI (decide (w≥0)) (ab .i64 (a.add 4) fun x=>
 af (decide (x<0))) (af false)) fun j=>
 aI j (
 a6a e d (IntKind.i64.wrap (f+1)) g h (IntKind.i64.wrap (c+(1:Int)))) (
 a6a e d f g h (IntKind.i64.wrap (c+(1:Int))))) (
 ai (aI (d == 0) (ai (c7B e) fun y=>
 sI y fun z=>
 af ((z.n:Int) == f)) (af false)) fun k=>
 af (.bool k))
theorem f2y (bE bF bG bH aV bI aW aX aY aZ l1 bN){h Q}:e3r bE bF bG bH aV bI aW aX aY aZ l1 bN h Q→c7L bE bF bG bH aV bI aW aX aY aZ l1 bN h Q:=Nf.bh Tryz.call6 Tryz.func6 rfl mixed (cuts:=[(11,[3,8,9,11,49,50,51]),(17,[3,8,9,11,13,49,50,51]),(21,[3,8,9,11,83,84,85]),(25,[3,8,9,11,15,16,17,83,84,85,95,96,97]),(32,[3,8,9,11,15,16,17,83,84,85,95,96,97]),(41,[9,11,20,143,144,145])]) (dm:=[]) (by kernel_rfl)
theorem Szy (c3 r8 k9 aT t49 t50 t51){h Q}:Bzy c3 r8 k9 aT t49 t50 t51 h Q→a5X c3 r8 k9 aT t49 t50 t51 h Q:=Cut.bh Tryz.func6 mixed (cuts:=[(11,[3,8,9,11,49,50,51]),(17,[3,8,9,11,13,49,50,51]),(21,[3,8,9,11,83,84,85]),(25,[3,8,9,11,15,16,17,83,84,85,95,96,97]),(32,[3,8,9,11,15,16,17,83,84,85,95,96,97]),(41,[9,11,20,143,144,145])]) (dm:=[]) (by kernel_rfl)
theorem f2z (c3 r8 k9 aT fM t49 t50 t51){h Q}:e4d c3 r8 k9 aT fM t49 t50 t51 h Q→b3S c3 r8 k9 aT fM t49 t50 t51 h Q:=Cut.bh Tryz.func6 mixed (cuts:=[(11,[3,8,9,11,49,50,51]),(17,[3,8,9,11,13,49,50,51]),(21,[3,8,9,11,83,84,85]),(25,[3,8,9,11,15,16,17,83,84,85,95,96,97]),(32,[3,8,9,11,15,16,17,83,84,85,95,96,97]),(41,[9,11,20,143,144,145])]) (dm:=[]) (by kernel_rfl)
theorem Szz (c3 r8 k9 aT t83 t84 t85){h Q}:Bzz c3 r8 k9 aT t83 t84 t85 h Q→Kzm c3 r8 k9 aT t83 t84 t85 h Q:=Cut.bh Tryz.func6 mixed (cuts:=[(11,[3,8,9,11,49,50,51]),(17,[3,8,9,11,13,49,50,51]),(21,[3,8,9,11,83,84,85]),(25,[3,8,9,11,15,16,17,83,84,85,95,96,97]),(32,[3,8,9,11,15,16,17,83,84,85,95,96,97]),(41,[9,11,20,143,144,145])]) (dm:=[]) (by kernel_rfl)
theorem e4q (c3 r8 k9 aT dB ei fW t83 t84 t85 t95 t96 t97){h Q}:d1I c3 r8 k9 aT dB ei fW t83 t84 t85 t95 t96 t97 h Q→a5Y c3 r8 k9 aT dB ei fW t83 t84 t85 t95 t96 t97 h Q:=Cut.bh Tryz.func6 mixed (cuts:=[(11,[3,8,9,11,49,50,51]),(17,[3,8,9,11,13,49,50,51]),(21,[3,8,9,11,83,84,85]),(25,[3,8,9,11,15,16,17,83,84,85,95,96,97]),(32,[3,8,9,11,15,16,17,83,84,85,95,96,97]),(41,[9,11,20,143,144,145])]) (dm:=[]) (by kernel_rfl)
theorem f2A (c3 r8 k9 aT dB ei fW t83 t84 t85 t95 t96 t97){h Q}:e4p c3 r8 k9 aT dB ei fW t83 t84 t85 t95 t96 t97 h Q→a5Z c3 r8 k9 aT dB ei fW t83 t84 t85 t95 t96 t97 h Q:=Cut.bh Tryz.func6 mixed (cuts:=[(11,[3,8,9,11,49,50,51]),(17,[3,8,9,11,13,49,50,51]),(21,[3,8,9,11,83,84,85]),(25,[3,8,9,11,15,16,17,83,84,85,95,96,97]),(32,[3,8,9,11,15,16,17,83,84,85,95,96,97]),(41,[9,11,20,143,144,145])]) (dm:=[]) (by kernel_rfl)
theorem e4r (k9 aT nM t143 t144 t145){h Q}:d1O k9 aT nM t143 t144 t145 h Q→a6a k9 aT nM t143 t144 t145 h Q:=Cut.bh Tryz.func6 mixed (cuts:=[(11,[3,8,9,11,49,50,51]),(17,[3,8,9,11,13,49,50,51]),(21,[3,8,9,11,83,84,85]),(25,[3,8,9,11,15,16,17,83,84,85,95,96,97]),(32,[3,8,9,11,15,16,17,83,84,85,95,96,97]),(41,[9,11,20,143,144,145])]) (dm:=[]) (by kernel_rfl)
end Go.Proofs.YtnpinhahjgbigaaGreatDoor
end
section
namespace Go.Sb
open Go
structure Rn where
 b:Nat→Nat
 m:Nat→Nat
def Rn.a (ρ:Rn)(x:Addr):Addr:=⟨ρ.b x.block,x.off,x.spot⟩
def dg:Nat:=4611686018427387904
def bk (ρ:Rn):Value→Value
 | .pointer (some a)=>.pointer (some (ρ.a a))
 | .slice (some a) n c=>.slice (some (ρ.a a)) n (match Nat.blt c dg with
  |true=>c
  |false=>c-dg+ρ.m a.block)
 | .map (some r)=>.map (some (ρ.b r))
 | .func fn f c=>.func fn (f.map (bk ρ)) (c.map (bk ρ))
 | .iface t v=>.iface t (bk ρ v)
 | .agg cs=>.agg (cs.map (bk ρ))
 | .tuple vs=>.tuple (vs.map (bk ρ))
 |v=>v
theorem ej (ρ:Rn)(cs:Array Value):bk ρ (.agg cs)= .agg (cs.map (bk ρ)):=by rw[bk]
theorem eG (ρ:Rn)(cs:Array Value):bk ρ (.tuple cs)= .tuple (cs.map (bk ρ)):=by rw[bk]
theorem gL (ρ:Rn)(fn:Fn)(f c:Array Value):bk ρ (.func fn f c)= .func fn (f.map (bk ρ)) (c.map (bk ρ)):=by rw[bk]
theorem dO (ρ:Rn)(t:TypeId)(v:Value):bk ρ (.iface t v)= .iface t (bk ρ v):=by rw[bk]
@[simp] theorem bY (ρ:Rn)(k:IntKind)(n:Int):bk ρ (.int k n)= .int k n:=by rw[bk]<;>simp
@[simp] theorem eZ (ρ:Rn)(b:Bool):bk ρ (.bool b)= .bool b:=by rw[bk]<;>simp
@[simp] theorem fX (ρ:Rn)(b:ByteArray):bk ρ (.string b)= .string b:=by rw[bk]<;>simp
@[simp] theorem BJ (ρ:Rn):bk ρ .nilIface= .nilIface:=by rw[bk]<;>simp
@[simp] theorem b6D (ρ:Rn):bk ρ .nilFunc= .nilFunc:=by rw[bk]<;>simp
@[simp] theorem d1Z (ρ:Rn):bk ρ (.pointer none)= .pointer none:=by rw[bk]<;>simp
theorem dS (ρ:Rn)(p:Option Addr):bk ρ (.pointer p)= .pointer (p.map ρ.a):=by
 cases p<;>rw[bk]<;>simp
@[simp] theorem SW (ρ:Rn)(n c:Nat):bk ρ (.slice none n c)= .slice none n c:=by rw[bk]<;>simp
@[simp] theorem d2a (ρ:Rn):bk ρ (.map none)= .map none:=by rw[bk]<;>simp
theorem lg (ρ:Rn)(p:Option Nat):bk ρ (.map p)= .map (p.map ρ.b):=by
 cases p<;>rw[bk]<;>simp
def Rn.c (ρ:Rn)(a:Addr)(c:Nat):Nat:=match Nat.blt c dg with
 |true=>c
 |false=>c-dg+ρ.m a.block
theorem eQ (ρ:Rn)(a:Addr)(n c:Nat):bk ρ (.slice (some a) n c)= .slice (some (ρ.a a)) n (ρ.c a c):=by rw[bk];rfl
theorem l9 (ρ:Rn)(p:Option Addr)(n c:Nat):∃c',bk ρ (.slice p n c)= .slice (p.map ρ.a) n c':=by
 cases p with
 |none=>exact⟨c,by simp⟩
 |some a=>exact⟨_,eQ ρ a n c⟩
theorem dP (ρ:Rn):bk ρ undef=undef:=by
 unfold undef;rw[eG];simp
def clean:Nat→Value→Bool
 |_,.int _ _=>true
 |_,.bool _=>true
 |_,.string _=>true
 |_,.pointer none=>true
 |_,.slice none _ _=>true
 |_,.map none=>true
 |_,.nilFunc=>true
 |_,.nilIface=>true
 |n+1,.agg cs=>cs.toList.all (clean n)
 |n+1,.tuple cs=>cs.toList.all (clean n)
 |n+1,.func _ f c=>f.toList.all (clean n)&&c.toList.all (clean n)
 |_,_=>false
theorem oz {f:Value→Value}{cs:Array Value}(h:∀v∈cs.toList,f v=v):cs.map f=cs:=by
 apply Array.ext'
 rw[Array.toList_map]
 exact (List.map_congr_left h).trans (List.map_id _)
theorem dC (ρ:Rn):∀(n:Nat) (v:Value),clean n v=true→bk ρ v=v
 |_,.int _ _,_=>by simp
 |_,.bool _,_=>by simp
 |_,.string _,_=>by simp
 |_,.pointer none,_=>by simp
 |_,.slice none _ _,_=>by simp
 |_,.map none,_=>by simp
 |_,.nilFunc,_=>by simp
 |_,.nilIface,_=>by simp
 |0,.agg _,h=>by simp[clean]at h
 |0,.tuple _,h=>by simp[clean]at h
 |0,.func _ _ _,h=>by simp[clean]at h
 |n+1,.agg cs,h=>by
  simp only[clean,List.all_eq_true]at h
  rw[ej,oz fun v hv=>dC ρ n v (h v hv)]
 |n+1,.tuple cs,h=>by
  simp only[clean,List.all_eq_true]at h
  rw[eG,oz fun v hv=>dC ρ n v (h v hv)]
 |n+1,.func _ f c,h=>by
  simp only[clean,Bool.and_eq_true,List.all_eq_true]at h
  rw[gL,oz fun v hv=>dC ρ n v (h.1 v hv),oz fun v hv=>dC ρ n v (h.2 v hv)]
 |n,.pointer (some _),h=>by cases n<;>simp[clean]at h
 |n,.slice (some _) _ _,h=>by cases n<;>simp[clean]at h
 |n,.map (some _),h=>by cases n<;>simp[clean]at h
 |n,.float _ _,h=>by cases n<;>simp[clean]at h
 |n,.complex _ _ _,h=>by cases n<;>simp[clean]at h
 |n,.chan _,h=>by cases n<;>simp[clean]at h
 |n,.iface _ _,h=>by cases n<;>simp[clean]at h
def sk (ρ:Rn)(env:Env):Env:=env.map (Option.map (bk ρ))
theorem so (ρ:Rn):∀(env:Env) (i:Nat),look (sk ρ env) i=(look env i).map (bk ρ)
 |[],i=>by simp[sk,look]
 |x::xs,0=>by simp[sk,look]
 |x::xs,i+1=>by simpa[sk,look]using so ρ xs i
def iG (G:Nat):Operand→Bool
 | .tmp _=>true
 | .const v=>clean 8 v
 | .global g=>Nat.blt g G
 | .func _=>true
def Rn.gl (ρ:Rn)(G:Nat):Prop:=∀g,g<G→ρ.b g=g
section nat
variable {ρ:Rn}{G:Nat}(hg:ρ.gl G){env:Env}{P:Program}
include hg
theorem eR {x:Operand}{v:Value}(hc:iG G x=true)(h:fF env x=some v):fF (sk ρ env) x=some (bk ρ v):=by
 cases x with
 |tmp t=>simp only[fF]at h ⊢;rw[so,h];rfl
 |const u=>simp only[fF,Option.some.injEq]at h ⊢;subst h;exact (dC ρ 8 u hc).symm
 |global g=>
  simp only[fF,Option.some.injEq]at h ⊢
  subst h
  simp only[iG]at hc
  rw[dS]
  have hlt:g<G:=Nat.le_of_ble_eq_true hc
  simp only[Option.map_some,Rn.a,hg g hlt]
 |func f=>simp only[fF,Option.some.injEq]at h ⊢;subst h;rw[gL];simp
theorem jB:∀{xs:List Operand} {vs:List Value},xs.all (iG G)=true→iS env xs=some vs→iS (sk ρ env) xs=some (vs.map (bk ρ))
 |[],vs,_,h=>by simp only[iS,Option.some.injEq]at h ⊢;subst h;rfl
 |x::xs,vs,hc,h=>by
  simp only[List.all_cons,Bool.and_eq_true]at hc
  simp only[iS]at h ⊢
  split at h
  ·rename_i v vs' h1 h2
   cases h
   rw[eR hg hc.1 h1,jB hc.2 h2];rfl
  ·cases h
theorem jY:∀{xs:List (Nat×Operand)} {vs:List (Nat×Value)},xs.all (fun x=>iG G x.2)=true→eo env xs=some vs→eo (sk ρ env) xs=some (vs.map fun x=>(x.1,bk ρ x.2))
 |[],vs,_,h=>by simp only[eo,Option.some.injEq]at h ⊢;subst h;rfl
 |x::xs,vs,hc,h=>by
  simp only[List.all_cons,Bool.and_eq_true]at hc
  simp only[eo]at h ⊢
  split at h
  ·rename_i v vs' h1 h2
   cases h
   rw[eR hg hc.1 h1,jY hc.2 h2];rfl
  ·cases h
omit hg
theorem fp (ρ:Rn)(v:Value):(bk ρ v).cells=v.cells.map (bk ρ):=by
 by_cases h:∃cs,v= .agg cs
 ·obtain⟨cs,rfl⟩:=h
  rw[ej];rfl
 ·have h1:v.cells= #[v]:=by
   cases v<;>first|rfl|exact absurd ⟨_,rfl⟩ h
  have h2:(bk ρ v).cells= #[bk ρ v]:=by
   cases v<;>first
    |exact absurd ⟨_,rfl⟩ h
    |(simp[Value.cells];done)
    |(rw[gL];rfl)
    |(rw[dO];rfl)
    |(rw[eG];rfl)
    |(rw[dS];rfl)
    |(rw[lg];rfl)
    |(rename_i p n c;obtain⟨c',hc⟩:=l9 ρ p n c;rw[hc];rfl)
    |(rw[show bk ρ _=_ from by rw[bk]<;>simp];rfl)
  rw[h1,h2];simp
theorem q6 (ρ:Rn):∀(vs cs:List Value) (i:Nat),(setCells cs i vs).map (bk ρ)=setCells (cs.map (bk ρ)) i (vs.map (bk ρ))
 |[],cs,i=>rfl
 |v::vs,cs,i=>by simp only[setCells,List.map_cons];rw[q6 ρ vs,List.map_set]
theorem oA (ρ:Rn)(place:Nat→Option (Nat×Nat)):∀(ps:List (Nat×Value)) (cells cs:List Value),gU place cells ps=some cs→gU place (cells.map (bk ρ)) (ps.map fun x=>(x.1,bk ρ x.2))=some (cs.map (bk ρ))
 |[],cells,cs,h=>by simp only[gU,Option.some.injEq]at h;subst h;rfl
 |(i,v)::ps,cells,cs,h=>by
  simp only[gU,List.map_cons]at h ⊢
  cases hp:place i with
  |none=>rw[hp]at h;cases h
  |some q=>
   obtain⟨off,size⟩:=q
   rw[hp]at h
   simp only[]at h ⊢
   split at h
   ·rename_i hc
    have hl:(bk ρ v).cells.toList.length=v.cells.toList.length:=by rw[fp];simp
    rw[hl,if_pos (by simpa using hc)]
    have:=oA ρ place ps _ _ h
    rw[q6]at this
    rw[fp,Array.toList_map]
    exact this
   ·cases h
theorem BK (f:Value→Value)(l:List Value)(i j:Nat):(l.extract i j).map f=(l.map f).extract i j:=by
 simp[List.extract,List.map_take,List.map_drop]
theorem sq (ρ:Rn){t:TypeId}{xs:List Value}{off:Nat}{v:Value}(h:oM P t xs off=some v):oM P t (xs.map (bk ρ)) off=some (bk ρ v):=by
 unfold oM at h ⊢
 split at h
 ·rename_i d n hu hn
  cases dH:en P t with
  |true=>
   simp only[dH,Option.some.injEq]at h ⊢
   subst h
   rw[ej];congr 1
   apply Array.ext';simp
  |false=>simp only[dH]at h ⊢;simp[h]
 ·cases h
theorem Ew (ρ:Rn){e:TypeId→Value→Value→Option Bool}(he:∀t x y b,e t x y=some b→e t (bk ρ x) (bk ρ y)=some b)(xs ys:List Value):∀(fs:List Field) (b:Bool),AJ P e xs ys fs=some b→AJ P e (xs.map (bk ρ)) (ys.map (bk ρ)) fs=some b
 |[],b,h=>h
 |f::fs,b,h=>by
  unfold AJ at h ⊢
  cases hn:f.name == "_" with
  |true=>simp[hn]at h
  |false=>
   simp only[hn]at h ⊢
   split at h
   ·rename_i va vb ha hb
    rw[sq ρ ha,sq ρ hb]
    simp only[]
    split at h
    ·rename_i r s hr hs
     rw[he _ _ _ _ hr,Ew ρ he xs ys fs s hs]
     exact h
    ·cases h
   ·cases h
theorem uv (ρ:Rn):∀(d:Nat) (t:TypeId) (x y:Value) (b:Bool),xK P d t x y=some b→xK P d t (bk ρ x) (bk ρ y)=some b
 |0,_,_,_,_,h=>by simp[xK]at h
 |d+1,t,x,y,b,h=>by
  unfold xK at h
  split at h
  ·rename_i hu;simp only[bY];unfold xK;rw[hu];exact h
  ·rename_i hu;simp only[eZ];unfold xK;rw[hu];exact h
  ·rename_i hu;simp only[fX];unfold xK;rw[hu];exact h
  ·rename_i fs xs ys hu
   simp only[ej]
   unfold xK
   rw[hu]
   simp only[]
   split at h
   ·cases h
   ·rename_i hst
    simp only[Array.toList_map]
    exact Ew ρ (fun t x y b hb=>uv ρ d t x y b hb) _ _ _ _ h
  ·cases h
theorem yl {op:BinOp}{k:IntKind}{x y:Int}{v:Value}(h:oc op k x y=some v)(ρ:Rn):bk ρ v=v:=by
 cases op<;>simp only[oc,Option.some.injEq,reduceCtorEq]at h<;>subst h<;>simp
theorem ym {op:BinOp}{x y:ByteArray}{v:Value}(h:qv op x y=some v)(ρ:Rn):bk ρ v=v:=by
 cases op<;>simp only[qv,Option.some.injEq,reduceCtorEq]at h<;>subst h<;>simp
theorem Ex (ρ:Rn){op:BinOp}{t:TypeId}{y:Operand}{vx vy v:Value}(h:dR P op t y vx vy=some v):dR P op t y (bk ρ vx) (bk ρ vy)=some (bk ρ v):=by
 unfold dR at h
 split at h
 ·rename_i k a k' b
  simp only[bY]
  split at h
  ·rename_i hk
   rw[yl h]
   subst hk
   simpa[dR]using h
  ·cases h
 ·rename_i a b
  simp only[eZ]
  split at h<;>first|cases h|skip
  all_goals
   rename_i hu
   simp[dR,hu]
 ·rename_i a b
  simp only[fX]
  rw[ym h]
  simpa[dR]using h
 ·rename_i p
  rw[dS]
  split at h<;>first|cases h|skip
  all_goals
   rename_i hn hu
   cases p<;>simp[dR,hn,hu]
 ·rename_i p n c
  obtain⟨c',hc⟩:=l9 ρ p n c
  rw[hc]
  split at h<;>first|cases h|skip
  all_goals
   rename_i hn hu
   cases p<;>simp[dR,hn,hu]
 ·rename_i xs ys
  simp only[ej]
  split at h<;>first|cases h|skip
  all_goals
   rename_i b hgt hb
   have:=uv ρ _ _ _ _ _ hb
   simp only[ej]at this
   simp[dR,hgt,this]
 ·cases h
theorem pR (ρ:Rn):∀{vs:List Value} {l:List (IntKind×Int)},gQ vs=some l→gQ (vs.map (bk ρ))=some l
 |[],_,h=>h
 |v::vs,l,h=>by
  cases v<;>simp only[gQ,reduceCtorEq]at h
  simp only[List.map_cons,bY,gQ]
  split at h
  ·rename_i l' hl;rw[pR ρ hl];exact h
  ·cases h
theorem tz (ρ:Rn):∀(l:List (IntKind×Int)) (k:IntKind) (x:Int),bk ρ (qw k x l)=qw k x l
 |[],k,x=>by simp[qw]
 |(_,y)::l,k,x=>tz ρ l k _
theorem tA (ρ:Rn):∀(l:List (IntKind×Int)) (k:IntKind) (x:Int),bk ρ (qx k x l)=qx k x l
 |[],k,x=>by simp[qx]
 |(_,y)::l,k,x=>tA ρ l k _
def uw (P:Program)(G:Nat)(o:Op):Bool:=o.operands.toList.all (iG G)&&match o with
 | .build t _=>match gv P t with
  |some z=>clean 8 z
  |none=>false
 | .call ⟨.builtin .len,_,ts⟩=>match ts.toList with
  |t::_=>match P.underlying t with
   |some (.array _ _)=>false
   |_=>true
  |[]=>true
 |_=>true
include hg
theorem pS {o:Oper}{v:Value}(hc:uw P G o.op=true)(h:cJ P env o=some v):cJ P (sk ρ env) o=some (bk ρ v):=by
 obtain⟨dst,op,type,pos,after,guard⟩:=o
 simp only[uw,Bool.and_eq_true]at hc
 obtain⟨hc,hz⟩:=hc
 cases op<;>simp only[cJ,reduceCtorEq]at h ⊢<;>simp only[Op.operands]at hc
 case move x=>exact eR hg (by simpa using hc) h
 case assign x=>exact eR hg (by simpa using hc) h
 case pick c x y=>
  simp at hc
  split at h
  ·rename_i h1 h2 h3
   cases h
   rw[eR hg hc.1 h1,eR hg hc.2.1 h2,eR hg hc.2.2 h3]
   simp
  ·cases h
 case build t parts=>
  split at h
  ·rename_i fs z ps hu hzz hps
   rw[hu,hzz,jY hg (by simpa[List.all_map,Function.comp_def]using hc) hps]
   simp only[hzz]at hz
   split at h
   ·rename_i pl T4
    simp only[]
    split at h
    ·rename_i cs hcs
     cases h
     have:=oA ρ _ _ _ _ hcs
     rw[←Array.toList_map,←fp,dC ρ 8 z hz]at this
     simp only[T4,this];rw[ej];simp
    ·cases h
   ·cases h
  ·rename_i m e z ps hu hzz hps
   rw[hu,hzz,jY hg (by simpa[List.all_map,Function.comp_def]using hc) hps]
   simp only[hzz]at hz
   split at h
   ·rename_i n hn
    simp only[]
    split at h
    ·rename_i cs hcs
     cases h
     have:=oA ρ _ _ _ _ hcs
     rw[←Array.toList_map,←fp,dC ρ 8 z hz]at this
     simp only[hn,this];rw[ej];simp
    ·cases h
   ·cases h
  ·cases h
 case binOp op t x y yt=>
  simp at hc
  split at h
  ·rename_i vx vy hx hy
   rw[eR hg hc.1 hx,eR hg hc.2 hy]
   exact Ex ρ h
  ·cases h
 case unOp op t x=>
  simp at hc
  split at h
  ·rename_i b hx;cases h;rw[eR hg hc hx];simp
  ·rename_i k n hx;cases h;rw[eR hg hc hx];simp
  ·cases h
 case convert s d x=>
  simp at hc
  split at h
  ·rename_i ds k k' n hs hu hx
   cases h
   rw[hs,hu,eR hg hc hx];simp
  ·cases h
 case makeFunc fn first cap=>
  simp only[Array.toList_append,List.all_append,Bool.and_eq_true]at hc
  split at h
  ·rename_i x y hx hy
   cases h
   rw[jB hg hc.1 hx,jB hg hc.2 hy,gL];simp
  ·cases h
 case field t x f=>
  simp at hc
  split at h
  ·rename_i fs cs hu hx
   rw[hu,eR hg hc hx,ej]
   split at h
   ·rename_i g hgf
    simp only[hgf]
    split at h
    ·rename_i d n hud hn
     skip
     split at h
     ·rename_i dH
      cases h
      rw[if_pos dH,ej]
      congr 2
      apply Array.ext';simp[BK]
     ·rename_i dH
      rw[if_neg dH]
      simp[h]
    ·cases h
   ·cases h
  ·cases h
 case extract t i=>
  simp at hc
  split at h
  ·rename_i vs ht
   rw[eR hg hc ht,eG]
   simp[h]
  ·cases h
 case call c=>
  obtain⟨callee,args,argTypes⟩:=c
  cases callee<;>simp only[reduceCtorEq]at h ⊢
  rename_i b
  simp only[Call.operands]at hc
  have Kz:args.toList.all (iG G)=true:=by simpa using hc
  split at h
  ·rename_i p n c t ts hargs hts
   rw[jB hg Kz hargs]
   obtain⟨c',hc'⟩:=l9 ρ p n c
   simp only[List.map_cons,List.map_nil,hc']
   split at h
   ·rename_i e hu;cases h;simp only[hts,hu,bY]
   ·cases h
  ·rename_i s t ts hargs hts
   rw[jB hg Kz hargs]
   simp only[List.map_cons,List.map_nil,fX]
   split at h
   ·rename_i hu;cases h;simp only[hts,hu,bY]
   ·cases h
  ·rename_i x xs t ts f3I f3J hargs hts
   split at h
   ·rename_i n e hu
    cases h
    simp[hts,hu]at hz
   ·cases h
  ·rename_i k x vs hargs
   rw[jB hg Kz hargs]
   simp only[List.map_cons,bY]
   split at h
   ·rename_i l hl;cases h;rw[pR ρ hl,tz]
   ·cases h
  ·rename_i k x vs hargs
   rw[jB hg Kz hargs]
   simp only[List.map_cons,bY]
   split at h
   ·rename_i l hl;cases h;rw[pR ρ hl,tA]
   ·cases h
  ·cases h
end nat
end Go.Sb
end
section
namespace Go.Sb
open Go
noncomputable section
inductive Tr (β:Type) where
 |lf
 |nd (v:Option β) (l r:Tr β)
namespace Tr
variable {β:Type}
def get (t:Tr β)(n:Nat):Option β:=
 Tr.rec (motive:=fun _=>Nat→Option β) (fun _=>none) (fun v _ _ gl gr n=>Nat.rec (motive:=fun _=>Option β) v (fun k _=>Bool.rec (motive:=fun _=>Option β) (gr (k / 2)) (gl (k / 2)) (Nat.beq (k%2) 0)) n) t n
def f2B (f:Nat→Tr β→Option β→Tr β)(t:Tr β)(n:Nat)(x:Option β):Tr β:=match t with
 | .lf=>match n with
  |0=>.nd x .lf .lf
  |k+1=>match Nat.beq (k%2) 0 with
   |true=>.nd none (f (k / 2) .lf x) .lf
   |false=>.nd none .lf (f (k / 2) .lf x)
 | .nd v l r=>match n with
  |0=>.nd x l r
  |k+1=>match Nat.beq (k%2) 0 with
   |true=>.nd v (f (k / 2) l x) r
   |false=>.nd v l (f (k / 2) r x)
def set:Nat→Nat→Tr β→Option β→Tr β
 |0,_,t,_=>t
 |d+1,n,t,x=>f2B (set d) t n x
end Tr
namespace Tr
variable {β α:Type}
def mL (d n:Nat)(t:Tr β)(x:Option β)(k:Tr β→α):α:=
 Nat.rec (motive:=fun _=>Nat→Tr β→(Tr β→α)→α) (fun _ t k=>k t)
 (fun _ f n t k=>Tr.rec (motive:=fun _=>α)
 (Nat.rec (motive:=fun _=>α) (k (.nd x .lf .lf)) (fun m _=>Bool.rec (motive:=fun _=>α) (f (m / 2) .lf fun r=>k (.nd none .lf r)) (f (m / 2) .lf fun l=>k (.nd none l .lf)) (Nat.beq (m%2) 0)) n)
 (fun v l r _ _=>Nat.rec (motive:=fun _=>α) (k (.nd x l r)) (fun m _=>Bool.rec (motive:=fun _=>α) (f (m / 2) r fun r=>k (.nd v l r)) (f (m / 2) l fun l=>k (.nd v l r)) (Nat.beq (m%2) 0)) n) t) d n t k
end Tr
abbrev eH:=Tr Value
def cY (env:eH):Operand→Option Value
 | .tmp t=>env.get t
 | .const v=>match clean 8 v with
  |true=>some v
  |false=>none
 | .global _=>none
 | .func f=>some (.func (.func f) #[] #[])
def jQ (env:eH):List Operand→Option (List Value)
 |[]=>some []
 |x::xs=>match cY env x,jQ env xs with
  |some v,some vs=>some (v::vs)
  |_,_=>none
def mM (env:eH):List (Nat×Operand)→Option (List (Nat×Value))
 |[]=>some []
 |x::xs=>match cY env x.2,mM env xs with
  |some v,some vs=>some ((x.1,v)::vs)
  |_,_=>none
inductive Bl where
 |cl (cs:List Value) (sz:Nat) (op:Bool)
 |mp (es:List (Value×Value))
section force
variable {α:Type}
def fN (n:Nat)(k:Nat→α):α:=match n with
 |0=>k 0
 |m+1=>k (Nat.succ m)
def fI (n:Int)(k:Int→α):α:=match n with
 | .ofNat m=>fN m fun m=>k (.ofNat m)
 | .negSucc m=>fN m fun m=>k (.negSucc m)
def fA (a:Addr)(k:Addr→α):α:=match a with
 |⟨b,o,none⟩=>fN b fun b=>fN o fun o=>k ⟨b,o,none⟩
 |⟨b,o,some x⟩=>k ⟨b,o,some x⟩
def fL {β:Type}(l:List β)(k:List β→α):α:=match l with
 |[]=>k []
 |x::xs=>fL xs fun ys=>k (x::ys)
def fV0 (v:Value)(k:Value→α):α:=match v with
 | .int kd i=>fI i fun i=>k (.int kd i)
 | .bool b=>match b with
  |true=>k (.bool true)
  |false=>k (.bool false)
 | .pointer p=>match p with
  |none=>k (.pointer none)
  |some a=>fA a fun a=>k (.pointer (some a))
 | .slice p n c=>match p with
  |none=>fN n fun n=>fN c fun c=>k (.slice none n c)
  |some a=>fA a fun a=>fN n fun n=>fN c fun c=>k (.slice (some a) n c)
 | .map p=>match p with
  |none=>k (.map none)
  |some r=>fN r fun r=>k (.map (some r))
 | .string ⟨⟨l⟩⟩=>fL l fun l=>k (.string ⟨⟨l⟩⟩)
 |v=>k v
def fVs (f:Value→(Value→α)→α)(l:List Value)(k:List Value→α):α:=match l with
 |[]=>k []
 |v::vs=>f v fun v=>fVs f vs fun vs=>k (v::vs)
def fV (n:Nat)(v:Value)(k:Value→α):α:=match n with
 |0=>fV0 v k
 |n+1=>match v with
  | .agg ⟨l⟩=>fVs (fV n) l fun l=>k (.agg ⟨l⟩)
  | .tuple ⟨l⟩=>fVs (fV n) l fun l=>k (.tuple ⟨l⟩)
  | .func fn ⟨f⟩ ⟨c⟩=>fVs (fV n) f fun f=>fVs (fV n) c fun c=>k (.func fn ⟨f⟩ ⟨c⟩)
  | .iface t v=>fV n v fun v=>k (.iface t v)
  |v=>fV0 v k
def fPs (l:List (Value×Value))(k:List (Value×Value)→α):α:=match l with
 |[]=>k []
 |(x,y)::ps=>fV 3 x fun x=>fV 3 y fun y=>fPs ps fun ps=>k ((x,y)::ps)
def fB (b:Option Bl)(k:Option Bl→α):α:=match b with
 |none=>k none
 |some b=>match b with
  | .cl cs z o=>fVs (fV 3) cs fun cs=>k (some (.cl cs z o))
  | .mp es=>fPs es fun es=>k (some (.mp es))
def sr {β:Type}(N:Nat)(env:eH)(d:Option Tmp)(v:Option Value)(k:eH→Option β):Option β:=match d with
 |none=>k env
 |some d=>match Nat.blt d N with
  |true=>env.mL 20 d v k
  |false=>none
end force
structure St where
 t:Tr Bl
 nx:Nat
 lk:List (Nat×Nat)
 wr:List Nat
def mem (l:List (Nat×Nat))(n:Nat):Bool:=match l with
 |[]=>false
 |(x,y)::xs=>match Nat.ble x n,Nat.blt n y with
  |true,true=>true
  |_,_=>mem xs n
namespace St
def get (s:St)(n:Nat):Option Bl:=match mem s.lk n with
 |true=>none
 |false=>s.t.get n
def sr {α:Type}(s:St)(n:Nat)(b:Option Bl)(k:St→Option α):Option α:=match Nat.blt n 1000000 with
 |true=>fB b fun b=>s.t.mL 20 n b fun t=>k ⟨t,s.nx,s.lk,n::s.wr⟩
 |false=>none
def gz {α:Type}(s:St)(b:Bl)(k:Nat→St→Option α):Option α:=match Nat.blt s.nx 1000000,mem s.lk s.nx with
 |true,false=>fB (some b) fun b=>s.t.mL 20 s.nx b fun t=>fN s.nx fun n=>k n ⟨t,Nat.succ n,s.lk,s.wr⟩
 |_,_=>none
def rd (s:St)(a:Addr)(n:Nat):Option (List Value):=match a.spot,s.get a.block with
 |none,some (.cl cs _ _)=>match Nat.ble (a.off+n) cs.length with
  |true=>some ((cs.drop a.off).take n)
  |false=>none
 |_,_=>none
def su:List Value→Bool
 |[]=>true
 | .agg _::_=>false
 | .tuple _::_=>false
 |_::vs=>su vs
def SX {α:Type}(s:St)(a:Addr)(vs:List Value)(k:St→Option α):Option α:=match a.spot,s.get a.block,su vs with
 |none,some (.cl cs z o),true=>match Nat.ble (a.off+vs.length) cs.length with
  |true=>s.sr a.block (some (.cl (cs.take a.off++(vs++cs.drop (a.off+vs.length))) z o)) k
  |false=>none
 |_,_,_=>none
def rdS (s:St)(p:Option Addr)(n z:Nat):Option (List Value):=match n with
 |0=>some []
 |_+1=>match p with
  |none=>none
  |some a=>s.rd a (n*z)
end St
abbrev fq:=Option (Value×St)
def BL (s:St)(cs:List Value):fq:=s.gz (.cl cs 1 false) fun n s'=>some (.pointer (some ⟨n,0,none⟩),s')
def q7 (s:St)(cs:List Value)(z:Nat)(op:Bool)(n c:Nat):fq:=s.gz (.cl cs z op) fun b s'=>some (.slice (some ⟨b,0,none⟩) n c,s')
def reps (n:Nat)(cs:List Value):List Value:=match n with
 |0=>[]
 |k+1=>cs++reps k cs
def Ah (P:Program)(kt:TypeId)(k:Value):List (Value×Value)→Option (Option Value)
 |[]=>some none
 |(k',v)::es=>match xK P 20 kt k k' with
  |some true=>some (some v)
  |some false=>Ah P kt k es
  |none=>none
def Ey (P:Program)(kt:TypeId)(k:Value):List (Value×Value)→Option (List (Value×Value))
 |[]=>some []
 |(k',v)::es=>match xK P 20 kt k k' with
  |some true=>some es
  |some false=>match Ey P kt k es with
   |some r=>some ((k',v)::r)
   |none=>none
  |none=>none
def q9 (P:Program)(t:TypeId)(k:Value):Bool:=match P.underlying t,k with
 |some (.int _),.int _ _=>true
 |some (.struct fs),.agg cs=>fs.toList.all fun f=>match P.underlying f.type,oM P f.type cs.toList f.offset with
  |some (.int _),some (.int _ _)=>true
  |_,_=>false
 |_,_=>false
def d2b (p:Option Addr)(c z lo hi:Nat):Option Int→Option (Option Addr×Nat)
 |none=>match Nat.blt c dg with
  |true=>match Nat.ble hi c with
   |true=>some (match Nat.beq c lo with
    |true=>p
    |false=>p.map (·.add (lo*z)),c-lo)
   |false=>none
  |false=>match Nat.ble hi (c-dg),Nat.blt lo (c-dg) with
   |true,true=>some (p.map (·.add (lo*z)),c-lo)
   |_,_=>none
 |some m=>match decide (0≤m),Nat.ble hi m.toNat,Nat.ble m.toNat (match Nat.blt c dg with
   |true=>c
   |false=>c-dg),Nat.blt m.toNat dg with
  |true,true,true,true=>some (match Nat.beq m.toNat lo with
    |true=>p
    |false=>p.map (·.add (lo*z)),m.toNat-lo)
  |_,_,_,_=>none
def a6w (n b:Nat):Bool:=Nat.ble (4*(n+1000)*b) 281474976710656
def b4v (P:Program)(s:St)(e:TypeId)(p:Option Addr)(n c:Nat)(xs:List Value)(k:Nat):fq:=
 match cI P e,nu P e,gv P e with
 |some z,some b,some zv=>match Nat.beq zv.cells.toList.length z,St.su xs,Nat.beq xs.length (k*z),clean 8 zv with
  |true,true,true,true=>match Nat.ble (n+k) (match Nat.blt c dg with
    |true=>c
    |false=>c-dg) with
   |true=>match k with
    |0=>some (.slice p n c,s)
    |_+1=>match p with
     |some a=>s.SX (a.add (n*z)) xs fun s'=>some (.slice p (n+k) c,s')
     |none=>none
   |false=>match Nat.blt 0 b,a6w (n+k) b,Nat.blt (n+k) 1000000 with
    |true,true,true=>match s.rdS p n z with
     |none=>none
     |some old=>match Nat.blt c dg with
      |true=>q7 s (old++xs) z true (n+k) (dg+(n+k))
      |false=>match p with
       |some ⟨mD,0,none⟩=>match s.get mD with
        |some (.cl cs z' true)=>match Nat.beq z' z,Nat.beq cs.length ((c-dg)*z) with
         |true,true=>s.sr mD none fun s=>q7 s (old++xs) z true (n+k) (dg+(n+k))
         |_,_=>none
        |_=>none
       |_=>none
    |_,_,_=>none
  |_,_,_,_=>none
 |_,_,_=>none
def a6x (P:Program)(s:St)(t:TypeId)(v:Value)(name:String):Option (FuncId×Value):=match P.info? t with
 |some i=>match i.methods.toList.find? (fun m=>decide (m.name=name)) with
  |some m=>match m.path.toList,m.func,P.underlying t with
   |[],some (f,true),some (.pointer _)=>some (f,v)
   |[],some (f,false),some (.pointer e)=>match v,P.underlying e,cI P e with
    | .pointer (some a),some _,some n=>match s.rd a n with
     |some cs=>match en P e with
      |true=>some (f,.agg cs.toArray)
      |false=>match cs with
       |[c]=>some (f,c)
       |_=>none
     |none=>none
    |_,_,_=>none
   |_,_,_=>none
  |none=>none
 |none=>none
section kinds
variable (P:Program)(s:St)(env:eH)
def Ai (t:Operand)(i:Nat):Option Value:=match cY env t with
 |some (.tuple vs)=>vs.toList[i]?
 |_=>none
def e4s (op:UnOp)(x:Operand):Option Value:=match op,cY env x with
 | .not,some (.bool b)=>some (.bool (!b))
 | .neg,some (.int k n)=>some (.int k (k.wrap (0-n)))
 |_,_=>none
def a6y (op:BinOp)(t:TypeId)(y:Operand)(vx vy:Value):Option Value:=match vx,vy with
 | .int k a,.int k' b=>match decide (k=k') with
  |true=>oc op k a b
  |false=>none
 |vx,vy=>dR P op t y vx vy
def b6E (op:BinOp)(t:TypeId)(x y:Operand):Option Value:=match cY env x,cY env y with
 |some vx,some vy=>a6y P op t y vx vy
 |_,_=>none
def a6z (a d:TypeId)(x:Operand):Option Value:=match cY env x with
 |some (.int _ n)=>match P.underlying a,P.underlying d with
  |some _,some (.int k)=>some (.int k (k.wrap n))
  |_,_=>none
 |_=>none
def KA (t:TypeId)(x:Operand)(f:Nat):Option Value:=match P.underlying t,cY env x with
 |some (.struct fs),some (.agg cs)=>match fs.toList[f]? with
  |some g=>match P.underlying g.type,cI P g.type with
   |some _,some n=>match en P g.type with
    |true=>some (.agg (cs.toList.extract g.offset (g.offset+n)).toArray)
    |false=>cs.toList[g.offset]?
   |_,_=>none
  |none=>none
 |_,_=>none
def KB (t:TypeId)(parts:Array (Nat×Operand)):Option Value:=match P.underlying t,gv P t,mM env parts.toList with
 |some (.struct fs),some z,some ps=>match eL P fs.toList,clean 8 z with
  |some pl,true=>match gU (fun i=>pl[i]?) z.cells.toList ps with
   |some cs=>some (.agg cs.toArray)
   |none=>none
  |_,_=>none
 |some (.array _ e),some z,some ps=>match cI P e,clean 8 z with
  |some n,true=>match gU (fun i=>some (i*n,n)) z.cells.toList ps with
   |some cs=>some (.agg cs.toArray)
   |none=>none
  |_,_=>none
 |_,_,_=>none
def a6A (fn:Fn)(first cap:Array Operand):Option Value:=match jQ env first.toList,jQ env cap.toList with
 |some a,some b=>some (.func fn a.toArray b.toArray)
 |_,_=>none
def b6F (args:Array Operand)(ts:Array TypeId):Option Value:=match jQ env args.toList,ts.toList with
 |some [.slice _ n _],t::_=>match P.underlying t with
  |some (.slice _)=>some (.int .i64 n)
  |_=>none
 |some [.string b],t::_=>match P.underlying t with
  |some .string=>some (.int .i64 b.size)
  |_=>none
 |_,_=>none
def b6G (args:Array Operand):Option Value:=match jQ env args.toList with
 |some (.int k x::vs)=>match gQ vs with
  |some l=>some (qw k x l)
  |none=>none
 |_=>none
def b6H (args:Array Operand):Option Value:=match jQ env args.toList with
 |some (.int k x::vs)=>match gQ vs with
  |some l=>some (qx k x l)
  |none=>none
 |_=>none
def wT (op:Op):Option Value:=match op with
 | .move x=>cY env x
 | .assign x=>cY env x
 | .extract t i=>Ai env t i
 | .unOp op _ x=>e4s env op x
 | .binOp op t x y _=>b6E P env op t x y
 | .convert a d x=>a6z P env a d x
 | .field t x f=>KA P env t x f
 | .build t parts=>KB P env t parts
 | .makeFunc fn a b=>a6A env fn a b
 | .call c=>match c.callee with
  | .builtin .len=>b6F P env c.args c.argTypes
  | .builtin .max=>b6G env c.args
  | .builtin .min=>b6H env c.args
  |_=>none
 |_=>none
def KD (c x y:Operand):fq:=match cY env c with
 |some (.bool true)=>match cY env x with
  |some v=>some (v,s)
  |none=>none
 |some (.bool false)=>match cY env y with
  |some v=>some (v,s)
  |none=>none
 |_=>none
def b4w (x:Operand):fq:=match cY env x with
 |some (.pointer (some a))=>some (.pointer (some a),s)
 |some (.func (.func g) f c)=>some (.func (.func g) f c,s)
 |_=>none
def a6B (op:BinOp)(k:IntKind)(a:Int)(k':IntKind)(b:Int):fq:=match op with
 | .shl=>match decide (0≤b) with
  |true=>some (.int k (k.wrap (a*2 ^ (min b.toNat k.bits))),s)
  |false=>none
 | .shr=>match decide (0≤b) with
  |true=>some (.int k (a.fdiv (2 ^ (min b.toNat k.bits))),s)
  |false=>none
 | .quo=>match decide (k=k'),decide (b=0) with
  |true,false=>some (.int k (k.wrap (a.tdiv b)),s)
  |_,_=>none
 | .rem=>match decide (k=k'),decide (b=0) with
  |true,false=>some (.int k (a.tmod b),s)
  |_,_=>none
 |_=>none
def b4x (op:BinOp)(t:TypeId)(x y:Operand):fq:=match cY env x,cY env y with
 |some (.int k a),some (.int k' b)=>a6B s op k a k' b
 |some .nilIface,some .nilIface=>match y,P.underlying t,op with
  | .const .nilIface,some (.interface _),.eql=>some (.bool true,s)
  | .const .nilIface,some (.interface _),.neq=>some (.bool false,s)
  |_,_,_=>none
 |_,_=>none
def rdT (t:TypeId)(a:Addr):Option Value:=match P.underlying t,cI P t with
 |some _,some n=>match en P t with
  |true=>match s.rd a n with
   |some cs=>some (.agg cs.toArray)
   |none=>none
  |false=>match s.rd a 1 with
   |some [c]=>some c
   |_=>none
 |_,_=>none
def KE (t:TypeId)(x:Operand):fq:=match cY env x with
 |some (.pointer (some a))=>match rdT P s t a with
  |some v=>some (v,s)
  |none=>none
 |_=>none
def BM (t:TypeId)(x y:Operand):fq:=match cY env x,cY env y,cI P t with
 |some (.pointer (some a)),some v,some n=>match Nat.beq v.cells.toList.length n with
  |true=>s.SX a v.cells.toList fun s'=>some (undef,s')
  |false=>none
 |_,_,_=>none
def BN (T:TypeId):fq:=match gv P T with
 |some z=>match clean 8 z with
  |true=>BL s z.cells.toList
  |false=>none
 |none=>none
def b4y (x:Operand):fq:=match cY env x with
 |some v=>BL s v.cells.toList
 |none=>none
def ux (t:TypeId)(len:Nat)(parts:Array (Nat×Operand)):fq:=match P.underlying t,mM env parts.toList with
 |some (.slice e),some ps=>match cI P e,gv P e with
  |some n,some z=>match Nat.ble (len*n) 16777216&&Nat.blt len 1000000,Nat.beq z.cells.toList.length n,clean 8 z with
   |true,true,true=>match gU (fun i=>some (i*n,n)) (reps len z.cells.toList) ps with
    |some cs=>q7 s cs n false len len
    |none=>none
   |_,_,_=>none
  |_,_=>none
 |_,_=>none
def BO (t:TypeId)(l c:Operand):fq:=match P.underlying t,cY env l,cY env c with
 |some (.slice e),some (.int _ l),some (.int _ c)=>match cI P e,gv P e,nu P e with
  |some n,some z,some b=>match Nat.beq z.cells.toList.length n,clean 8 z,decide (0≤l),decide (l≤c),Nat.ble (b*c.toNat) 281474976710656,Nat.blt c.toNat 1000000 with
   |true,true,true,true,true,true=>q7 s (reps c.toNat z.cells.toList) n false l.toNat c.toNat
   |_,_,_,_,_,_=>none
  |_,_,_=>none
 |_,_,_=>none
def pT (d:Nat):Option Operand→Option Nat
 |none=>some d
 |some x=>match cY env x with
  |some (.int _ n)=>match decide (0≤n) with
   |true=>some n.toNat
   |false=>none
  |_=>none
def BP:Option Operand→Option (Option Int)
 |none=>some none
 |some x=>match cY env x with
  |some (.int _ n)=>some (some n)
  |_=>none
def BQ (t:TypeId)(x:Operand)(lo hi mx:Option Operand):fq:=match P.underlying t,cY env x with
 |some .string,some (.string b)=>match mx,pT env 0 lo,pT env b.size hi with
  |none,some l,some h=>match Nat.ble l h,Nat.ble h b.size with
   |true,true=>some (.string (b.extract l h),s)
   |_,_=>none
  |_,_,_=>none
 |some (.slice e),some (.slice p n c)=>match cI P e,pT env 0 lo,pT env n hi,BP env mx with
  |some z,some l,some h,some m=>match mx.isSome&&hi.isNone,Nat.ble l h,d2b p c z l h m with
   |false,true,some (p',c')=>some (.slice p' (h-l) c',s)
   |_,_,_=>none
  |_,_,_,_=>none
 |_,_=>none
def BR (st:TypeId)(x:Operand)(f:Nat):fq:=match P.underlying st,cY env x with
 |some (.struct fs),some (.pointer (some a))=>match fs.toList[f]? with
  |some g=>match cI P g.type with
   |some (_+1)=>some (.pointer (some (a.add g.offset)),s)
   |_=>none
  |none=>none
 |_,_=>none
def KF (t:TypeId)(x i:Operand):fq:=match P.underlying t,cY env x,cY env i with
 |some (.slice e),some (.slice (some a) n _),some (.int _ j)=>match cI P e,decide (0≤j),Nat.blt j.toNat n with
  |some z,true,true=>some (.pointer (some (a.add (j.toNat*z))),s)
  |_,_,_=>none
 |some (.array n e),some (.pointer (some a)),some (.int _ j)=>match cI P e,decide (0≤j),Nat.blt j.toNat n with
  |some z,true,true=>some (.pointer (some (a.add (j.toNat*z))),s)
  |_,_,_=>none
 |_,_,_=>none
def b4z (t:TypeId)(x i:Operand):fq:=match P.underlying t,cY env x,cY env i with
 |some .string,some (.string b),some (.int _ j)=>match decide (0≤j),b.data.toList[j.toNat]? with
  |true,some v=>some (.int .u8 v.toNat,s)
  |_,_=>none
 |_,_,_=>none
def a6C (t:TypeId):fq:=match P.underlying t with
 |some (.map _ _)=>s.gz (.mp []) fun n s'=>some (.map (some n),s')
 |_=>none
def KG (t:TypeId)(x i:Operand)(ok:Bool):fq:=match P.underlying t,cY env x,cY env i with
 |some (.map kt e),some (.map (some r)),some key=>match q9 P kt key,gv P e,s.get r with
  |true,some z,some (.mp es)=>match Ah P kt key es,clean 8 z with
   |some f,true=>some (match ok with
    |true=>.tuple #[f.getD z,.bool f.isSome]
    |false=>f.getD z,s)
   |_,_=>none
  |_,_,_=>none
 |_,_,_=>none
def b4A (t:TypeId)(x i y:Operand):fq:=match P.underlying t,cY env x,cY env i,cY env y with
 |some (.map kt _),some (.map (some r)),some key,some v=>match q9 P kt key,s.get r with
  |true,some (.mp es)=>match Ah P kt key es with
   |some none=>s.sr r (some (.mp (es++[(key,v)]))) fun s'=>some (undef,s')
   |_=>none
  |_,_=>none
 |_,_,_,_=>none
def KH (a d:TypeId)(x:Operand):fq:=match P.underlying a,P.underlying d,cY env x with
 |some .string,some (.slice e),some (.string b)=>match P.underlying e,Nat.blt b.size 1000000 with
  |some (.int .u8),true=>q7 s (b.data.toList.map fun c=>.int .u8 c.toNat) 1 true b.size (dg+b.size)
  |_,_=>none
 |_,_,_=>none
def BS (t:TypeId)(x:Operand):fq:=match P.underlying t,cY env x with
 |some (.interface _),_=>none
 |some _,some v=>some (.iface t v,s)
 |_,_=>none
def uy (x:Operand)(T:TypeId)(ok:Bool):fq:=match cY env x,P.underlying T with
 |some (.iface _ _),some (.interface _)=>none
 |some (.iface t v),some _=>match Nat.beq t T,ok with
  |true,true=>some (.tuple #[v,.bool true],s)
  |true,false=>some (v,s)
  |_,_=>none
 |_,_=>none
def b4B (args:Array Operand)(ts:Array TypeId):fq:=match jQ env args.toList,ts.toList with
 |some [.slice p n c,.slice q m _],[st,xt]=>match P.underlying st,P.underlying xt with
  |some (.slice e),some (.slice _)=>match cI P e with
   |some z=>match s.rdS q m z with
    |some xs=>b4v P s e p n c xs m
    |none=>none
   |none=>none
  |_,_=>none
 |_,_=>none
def b4C (args:Array Operand)(ts:Array TypeId):fq:=match jQ env args.toList,ts.toList with
 |some [.map (some r),key],st::_=>match P.underlying st,s.get r with
  |some (.map kt _),some (.mp es)=>match q9 P kt key,Ey P kt key es with
   |true,some es'=>s.sr r (some (.mp es')) fun s'=>some (undef,s')
   |_,_=>none
  |_,_=>none
 |_,_=>none
variable (call:FuncId→List Value→St→fq)
def BT (f:Operand)(args:Array Operand):fq:=match cY env f,jQ env args.toList with
 |some (.func (.func g) first cap),some vs=>call g (first.toList++vs++cap.toList) s
 |_,_=>none
def BU (r:Operand)(name:String)(args:Array Operand):fq:=match cY env r,jQ env args.toList with
 |some (.iface t v),some vs=>match a6x P s t v name with
  |some (f,rv)=>call f (rv::vs) s
  |none=>none
 |_,_=>none
def a6D (op:Op):fq:=match op with
 | .pick c x y=>KD s env c x y
 | .nilCheck x=>b4w s env x
 | .binOp op t x y _=>b4x P s env op t x y
 | .load t x=>KE P s env t x
 | .store t x y=>BM P s env t x y
 | .alloc T=>BN P s T
 | .box _ x=>b4y s env x
 | .buildSlice t len parts=>ux P s env t len parts
 | .makeSlice t l c=>BO P s env t l c
 | .slice t x lo hi mx=>BQ P s env t x lo hi mx
 | .fieldAddr st x f=>BR P s env st x f
 | .indexAddr t x i=>KF P s env t x i
 | .index t x i=>b4z P s env t x i
 | .makeMap t none=>a6C P s t
 | .lookup t x i ok=>KG P s env t x i ok
 | .mapUpdate t x i y=>b4A P s env t x i y
 | .convert a d x=>KH P s env a d x
 | .makeInterface t x=>BS P s env t x
 | .typeAssert x _ T ok=>uy P s env x T ok
 | .call c=>match c.callee with
  | .value f=>BT s env call f c.args
  | .invoke r name=>BU P s env call r name c.args
  | .builtin .append=>b4B P s env c.args c.argTypes
  | .builtin .delete=>b4C P s env c.args c.argTypes
  |_=>none
 |_=>none
end kinds
def cop (P:Program)(call:FuncId→List Value→St→fq)(s:St)(env:eH)(o:Oper):fq:=
 match wT P env o.op with
 |some v=>some (v,s)
 |none=>a6D P s env call o.op
def BV (P:Program)(call:FuncId→List Value→St→fq)(ops:List Oper)(s:St)(env:eH)(o:Oper):fq:=match o.guard with
 |none=>cop P call s env o
 |some (j,want)=>match cB ops j with
  |none=>none
  |some c=>match env.get c with
   |some (.tuple _)=>some (undef,s)
   |some (.bool b)=>match want,b with
    |true,true=>cop P call s env o
    |false,false=>cop P call s env o
    |_,_=>some (undef,s)
   |_=>none
def BW (P:Program)(N:Nat)(call:FuncId→List Value→St→fq)(ops:List Oper):List Oper→St→eH→Option (eH×St)
 |[],s,env=>some (env,s)
 |o::os,s,env=>match BV P call ops s env o with
  |some (v,s')=>fV 3 v fun v=>sr N env o.dst (some v) fun env=>BW P N call ops os s' env
  |none=>none
def Aj (n:Nat):Nat:=Nat.pow 2 n
def sv {α:Type}(acc:List Nat):List Edge→Nat→(Nat→α)→α
 |[],m,k=>fN m k
 |e::es,m,k=>match Region.binds .any e with
  |true=>fN (Nat.lor m (Nat.lor (Aj e.on) (match acc[e.on]? with
   |some x=>x
   |none=>0))) fun m=>sv acc es m k
  |false=>sv acc es m k
def wU {α:Type}:List Oper→List Nat→(List Nat→α)→α
 |[],acc,k=>k acc
 |o::os,acc,k=>sv acc o.after.toList 0 fun m=>fL (acc++[m]) fun acc=>wU os acc k
def b4D (P:Program)(env:eH)(o:Oper):Bool:=(wT P env o.op).isSome||match o.op with
 | .pick _ _ _| .nilCheck _| .binOp _ _ _ _ _| .fieldAddr _ _ _| .indexAddr _ _ _| .index _ _ _| .slice _ _ _ _ _| .makeInterface _ _| .typeAssert _ _ _ _=>true
 |_=>false
abbrev ra:=List (Nat×Nat×List Nat)
def a6E (f id n:Nat):ra→List Nat
 |[]=>List.range n
 |(f',id',l)::os=>match Nat.beq f f',Nat.beq id id' with
  |true,true=>l
  |_,_=>a6E f id n os
structure Did where
 i:Nat
 blind:Bool
 lo:Nat
 hi:Nat
 old:List Nat
def rf:List Nat→List (Nat×Nat)→List (Nat×Nat)
 |[],l=>l
 |x::xs,l=>(x,Nat.succ x)::rf xs l
def jZ (mask:Nat)(lk:List (Nat×Nat)):List Did→List (Nat×Nat)
 |[]=>lk
 |d::ds=>match Nat.testBit mask d.i||d.blind with
  |true=>jZ mask lk ds
  |false=>(d.lo,d.hi)::rf d.old (jZ mask lk ds)
def yn (lo hi:Nat):List Nat→List Nat
 |[]=>[]
 |x::xs=>match Nat.ble lo x&&Nat.blt x hi with
  |true=>yn lo hi xs
  |false=>x::yn lo hi xs
def eI {α:Type}(i mask:Nat):Nat→List Oper→List Nat→eH→(eH→α)→α
 |k,o::os,m::ms,env,K=>match Nat.testBit mask k||Nat.testBit m i||Nat.beq k i with
  |true=>eI i mask (k+1) os ms env K
  |false=>match o.dst with
   |none=>eI i mask (k+1) os ms env K
   |some d=>match Nat.blt d 1000000,env.get d with
    |true,some _=>env.mL 20 d none fun env=>eI i mask (k+1) os ms env K
    |_,_=>eI i mask (k+1) os ms env K
 |_,_,_,env,K=>K env
def ma (mask:Nat):List Did→Bool
 |[]=>true
 |d::ds=>(Nat.testBit mask d.i||d.blind)&&ma mask ds
def lh (P:Program)(N:Nat)(call:FuncId→List Value→St→fq)(ops:List Oper)(dh:List Nat):List Nat→List Did→St→eH→Option (eH×St)
 |[],_,s,env=>some (env,s)
 |i::is,ds,s,env=>match ops[i]?,dh[i]? with
  |some o,some mask=>eI i mask 0 ops dh env fun env'=>match b4D P env' o with
    |true=>match BV P call ops ⟨.lf,0,[],[]⟩ env' o with
     |some (v,⟨_,0,_,_⟩)=>fV 3 v fun v=>sr N env o.dst (some v) fun env=>lh P N call ops dh is (⟨i,true,0,0,[]⟩::ds) s env
     |_=>none
    |false=>fL (jZ mask s.lk ds) fun lk=>match BV P call ops ⟨s.t,s.nx,lk,[]⟩ env' o with
     |some (v,s')=>fL (yn s.nx s'.nx s'.wr) fun old=>match old,ma mask ds with
      |_::_,false=>none
      |_,_=>fV 3 v fun v=>sr N env o.dst (some v) fun env=>fL (old++s.wr) fun wr=>lh P N call ops dh is (⟨i,false,s.nx,s'.nx,old⟩::ds) ⟨s'.t,s'.nx,s.lk,wr⟩ env
     |none=>none
  |_,_=>none
def pU (d mask:Nat):Nat→List Oper→Bool
 |_,[]=>true
 |k,o::os=>match o.dst with
  |none=>pU d mask (Nat.succ k) os
  |some d'=>match Nat.beq d d' with
   |false=>pU d mask (Nat.succ k) os
   |true=>Nat.testBit mask k&&pU d mask (Nat.succ k) os
def Ez (i:Nat):List Edge→Bool
 |[]=>true
 |e::es=>match Nat.blt e.on i with
  |true=>Ez i es
  |false=> !Region.binds .any e&&Ez i es
def BX (pre:List Oper):Nat→List Oper→List Nat→Bool
 |i,o::os,m::ms=>(match o.guard with
   |none=>true
   |some (j,_)=>Nat.testBit m j)&&Ez i o.after.toList&&(match o.dst with
   |none=>true
   |some d=>pU d m 0 pre)&&BX (pre++[o]) (Nat.succ i) os ms
 |_,[],_=>true
 |_,_,_=>false
def a6F (n:Nat)(dh:List Nat):Nat→List Nat→Bool
 |seen,[]=>Nat.beq seen (Aj n-1)
 |seen,i::is=>Nat.blt i n&& !Nat.testBit seen i&&(match dh[i]? with
  |some m=>Nat.beq (Nat.land m seen) m
  |none=>false)&&fN (Nat.lor seen (Aj i)) fun seen=>a6F n dh seen is
def wV (ops:List Oper)(dh ord:List Nat):Bool:=BX [] 0 ops dh&&a6F ops.length dh 0 ord
def EA (P:Program)(s:St)(env:eH):List ResultVar→List Value→Option (List Value)
 |[],acc=>some acc
 | .tmp t::rs,acc=>match env.get t with
  |some v=>EA P s env rs (acc++[v])
  |none=>none
 | .cell x t::rs,acc=>match env.get x with
  |some (.pointer (some a))=>match rdT P s t a with
   |some v=>EA P s env rs (acc++[v])
   |none=>none
  |_=>none
def mb (P:Program)(s:St)(env:eH)(rs:List ResultVar):fq:=match EA P s env rs [] with
 |some [v]=>some (v,s)
 |some vs=>some (.tuple vs.toArray,s)
 |none=>none
def kB (P:Program)(N:Nat)(call:FuncId→List Value→St→fq)(f:FuncId)(ords:ra)(res:List ResultVar):Nat→List Item→St→eH→fq
 |0,_,_,_=>none
 |n+1,todo,s,env=>match todo with
  |[]=>mb P s env res
  | .code c::k=>match c with
   | .ret=>mb P s env res
   | .skip=>kB P N call f ords res n k s env
   | .label _=>kB P N call f ords res n k s env
   | .seq x y=>kB P N call f ords res n (.code x:: .code y::k) s env
   | .cond c x y=>match cY env c with
    |some (.bool true)=>kB P N call f ords res n (.code x::k) s env
    |some (.bool false)=>kB P N call f ords res n (.code y::k) s env
    |_=>none
   | .block i c=>kB P N call f ords res n (.code c:: .inBlock i::k) s env
   | .loop c=>kB P N call f ords res n (.code c:: .inLoop c::k) s env
   | .exit i=>match exitTo i k with
    |some k'=>kB P N call f ords res n k' s env
    |none=>none
   | .region id ops draw=>match draw with
    |false=>match BW P N call ops.toList ops.toList s env with
     |some (env',s')=>kB P N call f ords res n k s' env'
     |none=>none
    |true=>wU ops.toList [] fun dh=>fL (a6E f id ops.toList.length ords) fun ord=>match wV ops.toList dh ord with
     |false=>none
     |true=>match lh P N call ops.toList dh ord [] s env with
      |some (env',s')=>kB P N call f ords res n k s' env'
      |none=>none
   |_=>none
  | .inBlock _::k=>kB P N call f ords res n k s env
  | .inLoop c::k=>kB P N call f ords res n (.code c:: .inLoop c::k) s env
  |_=>none
def EB {α:Type}:Nat→List Value→eH→(eH→α)→α
 |_,[],env,k=>k env
 |n,v::vs,env,k=>fV 3 v fun v=>env.mL 20 n (some v) fun env=>EB (Nat.succ n) vs env k
def wW (P:Program)(ords:ra)(ext:FuncId→Option (List Value→St→fq)):Nat→FuncId→List Value→St→fq
 |0,_,_,_=>none
 |d+1,f,args,s=>match ext f with
  |some x=>x args s
  |none=>match P.funcs.toList[f]? with
   |none=>none
   |some fn=>match fn.body with
    |none=>none
    |some c=>match Nat.blt fn.ntmps 1000000,Nat.ble args.length fn.ntmps with
     |true,true=>EB 0 args .lf fun env=>kB P fn.ntmps (wW P ords ext d) f ords fn.results.toList 20000 [.code c] s env
     |_,_=>none
end
end Go.Sb
end
section
namespace Go.Sb
open Go
section force
variable {α β:Type}
theorem tB (n:Nat)(k:Nat→α):fN n k=k n:=by cases n<;>rfl
theorem e4t (n:Int)(k:Int→α):fI n k=k n:=by cases n<;>simp[fI,tB]
theorem b6I (a:Addr)(k:Addr→α):fA a k=k a:=by
 obtain⟨b,o,s⟩:=a
 cases s<;>simp[fA,tB]
theorem mc:∀(l:List β) (k:List β→α),fL l k=k l
 |[],k=>rfl
 |x::xs,k=>by rw[fL,mc xs]
theorem a6G (v:Value)(k:Value→α):fV0 v k=k v:=by
 cases v<;>simp only[fV0,e4t]
 case bool b=>cases b<;>rfl
 case pointer p=>cases p<;>simp[b6I]
 case slice p n c=>cases p<;>simp[b6I,tB]
 case map p=>cases p<;>simp[tB]
 case string b=>obtain⟨⟨l⟩⟩:=b;simp[mc]
theorem Io {f:Value→(Value→α)→α}(hf:∀v k,f v k=k v):∀(l:List Value) (k:List Value→α),fVs f l k=k l
 |[],k=>rfl
 |x::xs,k=>by rw[fVs,hf,Io hf xs]
theorem m6:∀(n:Nat) (v:Value)(k:Value→α),fV n v k=k v
 |0,v,k=>a6G v k
 |n+1,v,k=>by
  have h:=Io (α:=α) (m6 n)
  cases v<;>simp only[fV,a6G,h,m6 n]
theorem a6H:∀(l:List (Value×Value)) (k:List (Value×Value)→α),fPs l k=k l
 |[],k=>rfl
 |(x,y)::xs,k=>by rw[fPs,m6,m6,a6H xs]
theorem b6J (b:Option Bl)(k:Option Bl→α):fB b k=k b:=by
 cases b with
 |none=>rfl
 |some b=>cases b<;>simp[fB,Io (m6 3),a6H]
end force
namespace Tr
variable {β α:Type}
theorem pV (n:Nat):(Tr.lf:Tr β).get n=none:=rfl
theorem gY (v:Option β)(l r:Tr β):(Tr.nd v l r).get 0=v:=rfl
theorem fY (v:Option β)(l r:Tr β)(k:Nat):(Tr.nd v l r).get (k+1)=if k%2=0 then l.get (k / 2) else r.get (k / 2):=by
 show Bool.rec (motive:=fun _=>Option β) (r.get (k / 2)) (l.get (k / 2)) (Nat.beq (k%2) 0)=_
 cases h:Nat.beq (k%2) 0
 ·have:¬k%2=0:=Nat.ne_of_beq_eq_false h
  rw[if_neg this]
 ·have:k%2=0:=Nat.eq_of_beq_eq_true h
  rw[if_pos this]
noncomputable def up (d n:Nat)(t:Tr β)(x:Option β):Tr β:=mL d n t x id
theorem mN (d m:Nat)(x:Option β)(k:Tr β→α):mL (d+1) (m+1) .lf x k=if m%2=0 then mL d (m / 2) .lf x fun l=>k (.nd none l .lf) else mL d (m / 2) .lf x fun r=>k (.nd none .lf r):=by
 show Bool.rec (motive:=fun _=>α) (mL d (m / 2) .lf x fun r=>k (.nd none .lf r)) (mL d (m / 2) .lf x fun l=>k (.nd none l .lf)) (Nat.beq (m%2) 0)=_
 cases h:Nat.beq (m%2) 0
 ·rw[if_neg (Nat.ne_of_beq_eq_false h)]
 ·rw[if_pos (Nat.eq_of_beq_eq_true h)]
theorem mO (d m:Nat)(v:Option β)(l r:Tr β)(x:Option β)(k:Tr β→α):mL (d+1) (m+1) (.nd v l r) x k=if m%2=0 then mL d (m / 2) l x fun l=>k (.nd v l r) else mL d (m / 2) r x fun r=>k (.nd v l r):=by
 show Bool.rec (motive:=fun _=>α) (mL d (m / 2) r x fun r=>k (.nd v l r)) (mL d (m / 2) l x fun l=>k (.nd v l r)) (Nat.beq (m%2) 0)=_
 cases h:Nat.beq (m%2) 0
 ·rw[if_neg (Nat.ne_of_beq_eq_false h)]
 ·rw[if_pos (Nat.eq_of_beq_eq_true h)]
theorem dn:∀(d n:Nat) (t:Tr β) (x:Option β) {α:Type} (k:Tr β→α),mL d n t x k=k (up d n t x)
 |0,n,t,x,α,k=>rfl
 |d+1,0,.lf,x,α,k=>rfl
 |d+1,0,.nd v l r,x,α,k=>rfl
 |d+1,m+1,.lf,x,α,k=>by
  unfold up
  rw[mN,mN,dn d,dn d (α:=α),dn d,dn d (α:=Tr β)]
  split<;>rfl
 |d+1,m+1,.nd v l r,x,α,k=>by
  unfold up
  rw[mO,mO,dn d,dn d (α:=α),dn d,dn d (α:=Tr β)]
  split<;>rfl
theorem BY:∀(d n:Nat) (t:Tr β) (x:Option β) (m:Nat),n+1<2 ^ d→(up d n t x).get m=if m=n then x else t.get m
 |0,n,t,x,m,h=>by simp at h
 |d+1,0,.lf,x,m,h=>by
  show (Tr.nd x .lf .lf).get m=_
  cases m with
  |zero=>simp[gY]
  |succ m=>rw[fY];simp[pV]
 |d+1,0,.nd v l r,x,m,h=>by
  show (Tr.nd x l r).get m=_
  cases m with
  |zero=>simp[gY]
  |succ m=>rw[fY,fY];simp
 |d+1,n+1,.lf,x,m,h=>by
  unfold up
  rw[mN,dn,dn]
  have hn:n / 2+1<2 ^ d:=by rw[Nat.pow_succ]at h;omega
  have ih:=fun m'=>BY d (n / 2) (.lf:Tr β) x m' hn
  by_cases hp:n%2=0
  ·rw[if_pos hp]
   cases m with
   |zero=>simp[gY,pV]
   |succ m=>
    simp only[id,fY,ih,pV,Nat.add_right_cancel_iff]
    by_cases hm:m%2=0
    ·simp only[hm,if_true]
     by_cases he:m / 2=n / 2
     ·rw[if_pos he,if_pos (by omega)]
     ·rw[if_neg he,if_neg (by omega)]
    ·simp only[hm,if_false]
     rw[if_neg (by omega)]
  ·rw[if_neg hp]
   cases m with
   |zero=>simp[gY,pV]
   |succ m=>
    simp only[id,fY,ih,pV,Nat.add_right_cancel_iff]
    by_cases hm:m%2=0
    ·simp only[hm,if_true]
     rw[if_neg (by omega)]
    ·simp only[hm,if_false]
     by_cases he:m / 2=n / 2
     ·rw[if_pos he,if_pos (by omega)]
     ·rw[if_neg he,if_neg (by omega)]
 |d+1,n+1,.nd v l r,x,m,h=>by
  unfold up
  rw[mO,dn,dn]
  have hn:n / 2+1<2 ^ d:=by rw[Nat.pow_succ]at h;omega
  have ihl:=fun m'=>BY d (n / 2) l x m' hn
  have ihr:=fun m'=>BY d (n / 2) r x m' hn
  by_cases hp:n%2=0
  ·rw[if_pos hp]
   cases m with
   |zero=>simp[gY]
   |succ m=>
    simp only[id,fY,ihl,Nat.add_right_cancel_iff]
    by_cases hm:m%2=0
    ·simp only[hm,if_true]
     by_cases he:m / 2=n / 2
     ·rw[if_pos he,if_pos (by omega)]
     ·rw[if_neg he,if_neg (by omega)]
    ·simp only[hm,if_false]
     rw[if_neg (by omega)]
  ·rw[if_neg hp]
   cases m with
   |zero=>simp[gY]
   |succ m=>
    simp only[id,fY,ihr,Nat.add_right_cancel_iff]
    by_cases hm:m%2=0
    ·simp only[hm,if_true]
     rw[if_neg (by omega)]
    ·simp only[hm,if_false]
     by_cases he:m / 2=n / 2
     ·rw[if_pos he,if_pos (by omega)]
     ·rw[if_neg he,if_neg (by omega)]
theorem kC {n:Nat}(t:Tr β)(x:Option β)(m:Nat)(h:n<1000000):(up 20 n t x).get m=if m=n then x else t.get m:=
 BY 20 n t x m (by have:(2:Nat) ^ 20=1048576:=(by decide);omega)
end Tr
def lH (h:Hp)(b:Nat)(cs:List Value):Prop:=∃T fz,h[b]? =some (.cells cs.toArray T fz)∧∀i,i<cs.length→¬(fz.1≤i∧i<fz.2)
theorem lH.lt {h:Hp}{b:Nat}{cs:List Value}(hb:lH h b cs):b<h.size:=by
 obtain⟨T,fz,hb,_⟩:=hb
 rcases Nat.lt_or_ge b h.size with hl|hl
 ·exact hl
 ·rw[Array.getElem?_eq_none hl]at hb;cases hb
theorem lH.cell {h:Hp}{b:Nat}{cs:List Value}(hb:lH h b cs)(o:Nat):hcell h ⟨b,o,none⟩=cs[o]? :=by
 obtain⟨T,fz,hb,_⟩:=hb
 unfold hcell;simp[hb]
theorem lH.free {h:Hp}{b:Nat}{cs:List Value}(hb:lH h b cs){o:Nat}(ho:o<cs.length):gM h ⟨b,o,none⟩=false:=by
 obtain⟨T,⟨lo,hi⟩,hb,hf⟩:=hb
 unfold gM
 have:=hf o ho
 simp only[hb]
 simp only at this
 simp;omega
theorem lH.set {h:Hp}{b:Nat}{cs:List Value}(hb:lH h b cs)(o:Nat)(v:Value):lH (gA h ⟨b,o,none⟩ v) b (cs.set o v):=by
 obtain⟨T,fz,hb,hf⟩:=hb
 refine⟨T,fz,?_,by simpa using hf⟩
 unfold gA
 rw[Array.getElem?_modify]
 simp[hb]
theorem lH.of_eq {h h':Hp}{b:Nat}{cs:List Value}(hb:lH h b cs)(he:h'[b]? =h[b]?):lH h' b cs:=by
 obtain⟨T,fz,hb,hf⟩:=hb
 exact⟨T,fz,by rw[he,hb],hf⟩
theorem lH.new (h:Hp)(cs:List Value)(T:TypeId):lH (h.push (.cells cs.toArray T)) h.size cs:=⟨T,(0,0),by simp,fun i _ hh=>by simp at hh⟩
theorem uz (b o i:Nat):Addr.add ⟨b,o,none⟩ i=⟨b,o+i,none⟩:=by
 unfold Addr.add
 split
 ·rename_i h;subst h;rfl
 ·rfl
theorem tC {h:Hp}{b:Nat}{cs:List Value}(hb:lH h b cs):∀(n o i:Nat),o+i+n≤cs.length→hcells h ⟨b,o,none⟩ i n=some ((cs.drop (o+i)).take n)
 |0,o,i,_=>by simp[hcells]
 |n+1,o,i,hl=>by
  simp only[hcells,uz,hb.cell]
  rw[List.getElem?_eq_getElem (by omega),tC hb n o (i+1) (by omega)]
  simp only[]
  rw[List.drop_eq_getElem_cons (by omega:o+i<cs.length),List.take_succ_cons,Nat.add_assoc]
theorem BZ (cs vs:List Value)(v:Value)(o i:Nat)(hl:o+i+(vs.length+1)≤cs.length):
  (cs.set (o+i) v).take (o+(i+1))++vs++(cs.set (o+i) v).drop (o+(i+1)+vs.length)=cs.take (o+i)++v::vs++cs.drop (o+i+(vs.length+1)):=by
 apply List.ext_getElem?
 intro k
 simp only[List.getElem?_append,List.getElem?_take,List.getElem?_drop,List.length_append,List.length_take,List.length_set,List.getElem?_set,List.length_cons]
 have m1:min (o+(i+1)) cs.length=o+i+1:=by omega
 have m2:min (o+i) cs.length=o+i:=by omega
 simp only[m1,m2]
 by_cases k1:k<o+i
 ·have:¬o+i=k:=by omega
  simp[k1,this,show k<o+i+1+vs.length by omega,show k<o+i+1 by omega,show k<o+i+(vs.length+1) by omega,show k<o+(i+1) by omega]
 ·by_cases k2:k=o+i
  ·subst k2
   simp[show o+i<o+i+1+vs.length by omega,show o+i<cs.length by omega,show o+i<o+(i+1) by omega]
  ·by_cases k3:k<o+i+1+vs.length
   ·have e1:k-(o+i)=(k-(o+i+1))+1:=by omega
    simp[k1,k3,show ¬k<o+i+1 by omega,show k<o+i+(vs.length+1) by omega,e1]
   ·simp[k3,show ¬k<o+i+(vs.length+1) by omega]
    have e2:o+(i+1)+vs.length+(k-(o+i+1+vs.length))=o+i+(vs.length+1)+(k-(o+i+(vs.length+1))):=by omega
    rw[e2]
    have:¬o+i=o+i+(vs.length+1)+(k-(o+i+(vs.length+1))):=by omega
    simp[this]
theorem pW {b:Nat}:∀(vs:List Value) (h:Hp) (o i:Nat) (cs:List Value),lH h b cs→o+i+vs.length≤cs.length→
  lH (dQ h ⟨b,o,none⟩ i vs) b (cs.take (o+i)++vs++cs.drop (o+i+vs.length))∧eB (·=b) h (dQ h ⟨b,o,none⟩ i vs)
 |[],h,o,i,cs,hb,_=>by simp[dQ,hb,eB.refl]
 |v::vs,h,o,i,cs,hb,hl=>by
  simp only[List.length_cons]at hl
  simp only[dQ,uz]
  obtain⟨h1,h2⟩:=pW vs (gA h ⟨b,o+i,none⟩ v) o (i+1) _ (hb.set (o+i) v) (by simp;omega)
  refine⟨?_,(eB.set (F:=fun x=>x=b) h ⟨b,o+i,none⟩ v rfl).trans h2⟩
  rw[List.length_cons,←BZ cs vs v o i (by omega)]
  exact h1
theorem wX {h:Hp}{b o n:Nat}{cs:List Value}(hb:lH h b cs)(hl:o+n≤cs.length):hfree h ⟨b,o,none⟩ 0 n:=by
 intro j _ hj
 rw[uz,hb.cell,hb.free (by omega)]
 exact⟨by rw[List.getElem?_eq_getElem (by omega)];rfl,rfl⟩
theorem kD {a:Addr}:∀(vs:List Value) (h:Hp) (i:Nat),(dQ h a i vs).size=h.size
 |[],h,i=>rfl
 |v::vs,h,i=>by rw[dQ,kD vs];simp[gA]
end Go.Sb
end
section
namespace Go.Sb
open Go
def B0 (p:Nat→Prop)(ρ ρ':Rn):Prop:=∀n,p n→ρ'.b n=ρ.b n∧ρ'.m n=ρ.m n
def dI (p:Nat→Prop)(v:Value):Prop:=∀ρ ρ',B0 p ρ ρ'→bk ρ' v=bk ρ v
theorem dI.mono {p q:Nat→Prop}{v:Value}(h:dI p v)(hpq:∀n,p n→q n):dI q v:=fun ρ ρ' ha=>h ρ ρ' fun n hn=>ha n (hpq n hn)
theorem B0.refl (p:Nat→Prop)(ρ:Rn):B0 p ρ ρ:=fun _ _=>⟨rfl,rfl⟩
theorem B0.symm {p:Nat→Prop}{ρ ρ':Rn}(h:B0 p ρ ρ'):B0 p ρ' ρ:=fun n hn=>⟨(h n hn).1.symm,(h n hn).2.symm⟩
theorem j6 (p:Nat→Prop){n:Nat}{v:Value}(h:clean n v=true):dI p v:=fun ρ ρ' _=>by rw[dC ρ n v h,dC ρ' n v h]
def oY (p:Nat→Prop):Bl→Prop
 | .cl cs _ _=>∀v∈cs,dI p v
 | .mp es=>∀e∈es,dI p e.1∧dI p e.2
def wY (ρ:Rn)(h:Hp)(n:Nat):Bl→Prop
 | .cl cs sz op=>∃ex,lH h (ρ.b n) (cs.map (bk ρ)++ex)∧ex.length=(if op then ρ.m n*sz else 0)
 | .mp es=>∃m clock,h[ρ.b n]? =some (.map m clock)∧m.toList.map (fun e=>(e.key,e.val))=es.map fun e=>(bk ρ e.1,bk ρ e.2)
theorem oY.mono {p q:Nat→Prop}{b:Bl}(h:oY p b)(hpq:∀n,p n→q n):oY q b:=by
 cases b with
 |cl cs sz op=>exact fun v hv=>(h v hv).mono hpq
 |mp es=>exact fun e he=>⟨(h e he).1.mono hpq,(h e he).2.mono hpq⟩
theorem wY.lt {ρ:Rn}{h:Hp}{n:Nat}{b:Bl}(hb:wY ρ h n b):ρ.b n<h.size:=by
 cases b with
 |cl cs sz op=>obtain⟨ex,h1,_⟩:=hb;exact h1.lt
 |mp es=>
  obtain⟨m,c,h1,_⟩:=hb
  rcases Nat.lt_or_ge (ρ.b n) h.size with hl|hl
  ·exact hl
  ·rw[Array.getElem?_eq_none hl]at h1;cases h1
theorem ll {p:Nat→Prop}{ρ ρ':Rn}(ha:B0 p ρ ρ'){cs:List Value}(hs:∀v∈cs,dI p v):cs.map (bk ρ')=cs.map (bk ρ):=
 List.map_congr_left fun v hv=>hs v hv ρ ρ' ha
theorem wY.keep {p:Nat→Prop}{ρ ρ':Rn}{h h':Hp}{n:Nat}{b:Bl}(hb:wY ρ h n b)(hs:oY p b)(ha:B0 p ρ ρ')(hn:p n)(he:h'[ρ.b n]? =h[ρ.b n]?):wY ρ' h' n b:=by
 cases b with
 |cl cs sz op=>
  obtain⟨ex,h1,h2⟩:=hb
  refine⟨ex,?_,by rw[(ha n hn).2];exact h2⟩
  rw[(ha n hn).1,ll ha hs]
  exact h1.of_eq he
 |mp es=>
  obtain⟨m,c,h1,h2⟩:=hb
  refine⟨m,c,by rw[(ha n hn).1,he,h1],h2.trans (List.map_congr_left fun e hee=>?_)⟩
  rw[(hs e hee).1 ρ ρ' ha,(hs e hee).2 ρ ρ' ha]
structure lp (ρ:Rn) (p:Nat→Prop) (g:Nat→Option Bl) (h:Hp):Prop where
 ok:∀n b,g n=some b→wY ρ h n b
 inj:∀n m b c,g n=some b→g m=some c→ρ.b n=ρ.b m→n=m
 sup:∀n b,g n=some b→p n∧oY p b
def pn (p:Nat→Prop)(lo hi:Nat):Nat→Prop:=fun n=>p n∨(lo≤n∧n<hi)
theorem B2 {p:Nat→Prop}{lo n:Nat}:pn p lo lo n↔p n:=
 ⟨fun h=>h.elim id fun h=>absurd h.2 (by omega),.inl⟩
theorem lp.mono {ρ:Rn}{p q:Nat→Prop}{g:Nat→Option Bl}{h:Hp}(hm:lp ρ p g h)(hpq:∀n,p n→q n):lp ρ q g h:=
 ⟨hm.ok,hm.inj,fun n b hn=>⟨hpq n (hm.sup n b hn).1,(hm.sup n b hn).2.mono hpq⟩⟩
structure m7 (ρ:Rn) (p:Nat→Prop) (g:Nat→Option Bl) (h:Hp) (lo hi:Nat) (ρ':Rn) (g':Nat→Option Bl) (h':Hp):Prop where
 mat:lp ρ' (pn p lo hi) g' h'
 wZ:∀n,¬(lo≤n∧n<hi)→ρ'.b n=ρ.b n∧ρ'.m n=ρ.m n
 size:h.size≤h'.size
 fr:∀b,b<h.size→(∀n c,g n=some c→ρ.b n≠b)→h'[b]? =h[b]?
 own:∀n c,g' n=some c→(∃m d,g m=some d∧ρ.b m=ρ'.b n)∨h.size≤ρ'.b n
theorem m7.refl {ρ:Rn}{p:Nat→Prop}{g:Nat→Option Bl}{h:Hp}(hm:lp ρ p g h)(lo:Nat):m7 ρ p g h lo lo ρ g h:=
 ⟨hm.mono fun _=>.inl,fun _ _=>⟨rfl,rfl⟩,Nat.le_refl _,fun _ _ _=>rfl,fun n c hn=>.inl ⟨n,c,hn,rfl⟩⟩
theorem m7.trans {ρ ρ1 ρ2:Rn}{p:Nat→Prop}{g g1 g2:Nat→Option Bl}{h h1 h2:Hp}{lo mid hi:Nat}(a:m7 ρ p g h lo mid ρ1 g1 h1)(b:m7 ρ1 (pn p lo mid) g1 h1 mid hi ρ2 g2 h2)(hlm:lo≤mid)(hmh:mid≤hi):m7 ρ p g h lo hi ρ2 g2 h2 where
 mat:=b.mat.mono fun n hn=>by
  rcases hn with (hn|hn)|hn
  ·exact .inl hn
  ·exact .inr ⟨hn.1,by omega⟩
  ·exact .inr ⟨by omega,hn.2⟩
 wZ n hn:=by
  obtain⟨x1,x2⟩:=a.wZ n (by omega)
  obtain⟨y1,y2⟩:=b.wZ n (by omega)
  exact⟨y1.trans x1,y2.trans x2⟩
 size:=Nat.le_trans a.size b.size
 fr c hc hno:=by
  rw[b.fr c (Nat.lt_of_lt_of_le hc a.size) ?_,a.fr c hc hno]
  intro n d hn he
  rcases a.own n d hn with ⟨m,e,hm,hme⟩|hge
  ·exact hno m e hm (hme.trans he)
  ·omega
 own n c hn:=by
  rcases b.own n c hn with ⟨m,d,hm,hme⟩|hge
  ·rcases a.own m d hm with ⟨m',d',TM,Ip⟩|a6I
   ·exact .inl ⟨m',d',TM,Ip.trans hme⟩
   ·exact .inr (by rw[←hme];exact a6I)
  ·exact .inr (Nat.le_trans a.size hge)
theorem m7.e4u {ρ ρ':Rn}{p:Nat→Prop}{g g':Nat→Option Bl}{h h':Hp}{lo hi:Nat}(l:m7 ρ p g h lo hi ρ' g' h')(hp:∀n,lo≤n→n<hi→¬p n):B0 p ρ ρ':=
 fun n hn=>l.wZ n fun hh=>hp n hh.1 hh.2 hn
structure nr (s s':St):Prop where
 nx:s.nx≤s'.nx
 lk:s'.lk=s.lk
 wr:∃l,s'.wr=l++s.wr∧(∀n,n∉l→¬(s.nx≤n∧n<s'.nx)→s'.t.get n=s.t.get n)∧(∀n∈l,mem s.lk n=false)∧((∀n,s.nx≤n→s.t.get n=none)→∀n∈l,n<s'.nx)
 ul:∀n,s.nx≤n→n<s'.nx→mem s.lk n=false
 fr:(∀n,s.nx≤n→s.t.get n=none)→∀n,s'.nx≤n→s'.t.get n=none
theorem nr.refl (s:St):nr s s:=⟨Nat.le_refl _,rfl,⟨[],rfl,fun _ _ _=>rfl,by simp,by simp⟩,fun n h1 h2=>by omega,fun h=>h⟩
theorem nr.trans {a b c:St}(x:nr a b)(y:nr b c):nr a c:=by
 obtain⟨l,h1,h2,h3,h4⟩:=x.wr
 obtain⟨m,k1,k2,k3,k4⟩:=y.wr
 have hx:=x.nx
 have hy:=y.nx
 refine⟨Nat.le_trans x.nx y.nx,y.lk.trans x.lk,⟨m++l,by rw[k1,h1];simp,fun n hn hr=>?_,fun n hn=>?_,fun hf n hn=>?_⟩,fun n hn hr=>?_,fun hf=>y.fr (x.fr hf)⟩
 ·simp only[List.mem_append,not_or]at hn
  rw[k2 n hn.1 (by omega),h2 n hn.2 (by omega)]
 ·rcases List.mem_append.1 hn with hn|hn
  ·rw[←x.lk];exact k3 n hn
  ·exact h3 n hn
 ·rcases List.mem_append.1 hn with hn|hn
  ·exact k4 (x.fr hf) n hn
  ·exact Nat.lt_of_lt_of_le (h4 hf n hn) hy
 ·by_cases hb:n<b.nx
  ·exact x.ul n hn hb
  ·rw[←x.lk];exact y.ul n (by omega) hr
theorem gP {s:St}{n:Nat}(h:mem s.lk n=false):s.get n=s.t.get n:=by unfold St.get;rw[h]
theorem m8 {s:St}{n:Nat}{b:Bl}(h:s.get n=some b):mem s.lk n=false:=by
 unfold St.get at h
 cases hm:mem s.lk n with
 |true=>rw[hm]at h;cases h
 |false=>rfl
theorem fu {α:Type}{s:St}{b:Bl}{k:Nat→St→Option α}{r:α}(h:s.gz b k=some r):∃s1,k s.nx s1=some r∧nr s s1∧s1.nx=s.nx+1∧∀n,s1.get n=if n=s.nx then some b else s.get n:=by
 unfold St.gz at h
 split at h
 ·rename_i hlt rH
  rw[b6J,Tr.dn,tB]at h
  have hlt:s.nx<1000000:=Nat.le_of_ble_eq_true hlt
  have hg:∀n,(Tr.up 20 s.nx s.t (some b)).get n=if n=s.nx then some b else s.t.get n:=fun n=>Tr.kC _ _ _ hlt
  refine⟨_,h,⟨by simp,rfl,⟨[],rfl,fun n _ hn=>?_,by simp,by simp⟩,fun n h1 h2=>?_,fun hf n hn=>?_⟩,rfl,fun n=>?_⟩
  ·simp only at hn ⊢
   rw[hg,if_neg (by omega)]
  ·simp only at h2
   have:n=s.nx:=by omega
   rw[this];exact rH
  ·simp only at hn ⊢
   rw[hg,if_neg (by omega),hf n (by omega)]
  ·unfold St.get
   simp only
   by_cases hn:n=s.nx
   ·subst hn;rw[rH,hg]
   ·rw[hg,if_neg hn,if_neg hn]
 ·cases h
theorem gZ {α:Type}{s:St}{n:Nat}{b:Option Bl}{k:St→Option α}{r:α}(h:s.sr n b k=some r){b0:Bl}(hg0:s.get n=some b0):∃s1,k s1=some r∧nr s s1∧s1.nx=s.nx∧∀m,s1.get m=if m=n then b else s.get m:=by
 have hn:=m8 hg0
 have AY:s.t.get n=some b0:=by rw[←gP hn];exact hg0
 unfold St.sr at h
 split at h
 ·rename_i hlt
  rw[b6J,Tr.dn]at h
  have hlt:n<1000000:=Nat.le_of_ble_eq_true hlt
  have hg:∀m,(Tr.up 20 n s.t b).get m=if m=n then b else s.t.get m:=fun m=>Tr.kC _ _ _ hlt
  have b4E:(∀m,s.nx≤m→s.t.get m=none)→n<s.nx:=fun hf=>by
   rcases Nat.lt_or_ge n s.nx with h'|h'
   ·exact h'
   ·rw[hf n h']at AY;cases AY
  refine⟨_,h,⟨Nat.le_refl _,rfl,⟨[n],rfl,fun m hm _=>?_,?_,fun hf m hm=>?_⟩,fun m h1 h2=>?_,fun hf m hm=>?_⟩,rfl,fun m=>?_⟩
  ·simp only[List.mem_singleton]at hm
   simp only
   rw[hg,if_neg hm]
  ·intro m hm;rw[List.mem_singleton.1 hm];exact hn
  ·rw[List.mem_singleton.1 hm];exact b4E hf
  ·simp only at h2;omega
  ·simp only at hm ⊢
   have:=b4E hf
   rw[hg,if_neg (by omega),hf m hm]
  ·unfold St.get
   simp only
   by_cases hm:m=n
   ·subst hm;rw[hn,hg]
   ·rw[hg,if_neg hm,if_neg hm]
 ·cases h
def Rn.ext (ρ:Rn)(n b m:Nat):Rn:=⟨fun k=>if k=n then b else ρ.b k,fun k=>if k=n then m else ρ.m k⟩
theorem Rn.B3 {ρ:Rn}{p:Nat→Prop}{n b m:Nat}(hp:¬p n):B0 p ρ (ρ.ext n b m):=fun k hk=>by
 have:k≠n:=fun h=>hp (h ▸ hk)
 simp[Rn.ext,this]
theorem uA {ρ:Rn}{p:Nat→Prop}{g g':Nat→Option Bl}{h:Hp}{n m:Nat}{b:Bl}{o:Obj}(hm:lp ρ p g h)(hp:¬p n)(hb:oY p b)(hg:∀k,g' k=if k=n then some b else g k)
  (hok:wY (ρ.ext n h.size m) (h.push o) n b):m7 ρ p g h n (n+1) (ρ.ext n h.size m) g' (h.push o):=by
 have hne:∀k c,g k=some c→k≠n:=fun k c hk he=>hp (he ▸ (hm.sup k c hk).1)
 have rh:∀k,k≠n→(ρ.ext n h.size m).b k=ρ.b k:=fun k hk=>by simp[Rn.ext,hk]
 have w7:(ρ.ext n h.size m).b n=h.size:=by simp[Rn.ext]
 refine⟨⟨fun k c hk=>?_,fun k l c d hk hl he=>?_,fun k c hk=>?_⟩,fun k hk=>?_,by simp,fun c hc _=>?_,fun k c hk=>?_⟩
 ·rw[hg]at hk
  by_cases hkn:k=n
  ·rw[if_pos hkn]at hk;cases hk;subst hkn;exact hok
  ·rw[if_neg hkn]at hk
   have h1:=hm.ok k c hk
   refine h1.keep (hm.sup k c hk).2 (Rn.B3 hp) (hm.sup k c hk).1 ?_
   rw[Array.getElem?_push,if_neg (by have:=h1.lt;omega)]
 ·rw[hg]at hk hl
  by_cases hkn:k=n<;>by_cases mF:l=n
  ·rw[hkn,mF]
  ·rw[if_neg mF]at hl
   have:=(hm.ok l d hl).lt
   rw[hkn,w7,rh l mF]at he;omega
  ·rw[if_neg hkn]at hk
   have:=(hm.ok k c hk).lt
   rw[mF,w7,rh k hkn]at he;omega
  ·rw[if_neg hkn]at hk
   rw[if_neg mF]at hl
   rw[rh k hkn,rh l mF]at he
   exact hm.inj k l c d hk hl he
 ·rw[hg]at hk
  by_cases hkn:k=n
  ·rw[if_pos hkn]at hk;cases hk
   exact⟨.inr ⟨by omega,by omega⟩,hb.mono fun _=>.inl⟩
  ·rw[if_neg hkn]at hk
   exact⟨.inl (hm.sup k c hk).1,(hm.sup k c hk).2.mono fun _=>.inl⟩
 ·have:k≠n:=by omega
  simp[Rn.ext,this]
 ·rw[Array.getElem?_push,if_neg (by omega)]
 ·rw[hg]at hk
  by_cases hkn:k=n
  ·exact .inr (by rw[hkn,w7];exact Nat.le_refl _)
  ·rw[if_neg hkn]at hk
   exact .inl ⟨k,c,hk,(rh k hkn).symm⟩
theorem uB {ρ:Rn}{p:Nat→Prop}{g g':Nat→Option Bl}{h h':Hp}{n lo:Nat}{b0:Bl}{b:Option Bl}(hm:lp ρ p g h)(hn:g n=some b0)(hg:∀k,g' k=if k=n then b else g k)(hsz:h'.size=h.size)
  (hfr:∀c,c≠ρ.b n→h'[c]? =h[c]?) (hb:∀bl,b=some bl→oY p bl∧wY ρ h' n bl):m7 ρ p g h lo lo ρ g' h':=by
 refine⟨⟨fun k c hk=>?_,fun k l c d hk hl he=>?_,fun k c hk=>?_⟩,fun k hk=>⟨rfl,rfl⟩,by omega,fun c hc hno=>hfr c (fun he=>hno n b0 hn he.symm),fun k c hk=>?_⟩
 ·rw[hg]at hk
  by_cases hkn:k=n
  ·rw[if_pos hkn]at hk;subst hkn;exact (hb c hk).2
  ·rw[if_neg hkn]at hk
   exact (hm.ok k c hk).keep (hm.sup k c hk).2 (B0.refl _ _) (hm.sup k c hk).1 (hfr _ fun he=>hkn (hm.inj k n c b0 hk hn he))
 ·rw[hg]at hk hl
  have key:∀x y,(if x=n then b else g x)=some y→∃z,g x=some z:=by
   intro x y hx
   by_cases TA:x=n
   ·subst TA;exact⟨b0,hn⟩
   ·rw[if_neg TA]at hx;exact⟨y,hx⟩
  obtain⟨c',hc'⟩:=key _ _ hk
  obtain⟨d',Uf⟩:=key _ _ hl
  exact hm.inj k l c' d' hc' Uf he
 ·rw[hg]at hk
  by_cases hkn:k=n
  ·rw[if_pos hkn]at hk;subst hkn
   exact⟨.inl (hm.sup k b0 hn).1,(hb c hk).1.mono fun _=>.inl⟩
  ·rw[if_neg hkn]at hk
   exact⟨.inl (hm.sup k c hk).1,(hm.sup k c hk).2.mono fun _=>.inl⟩
 ·rw[hg]at hk
  by_cases hkn:k=n
  ·subst hkn;exact .inl ⟨k,b0,hn,rfl⟩
  ·rw[if_neg hkn]at hk;exact .inl ⟨k,c,hk,rfl⟩
theorem m7.frame {ρ ρ':Rn}{p q:Nat→Prop}{g g' k k':Nat→Option Bl}{h h':Hp}{lo hi:Nat}(l:m7 ρ p g h lo hi ρ' g' h')(hm:lp ρ q k h)(hpq:∀n,p n→q n)(hq:∀n,lo≤n→n<hi→¬q n)
  (lC:∀n b,g n=some b→k n=some b) (W:Nat→Prop) (hW:∀n,W n→k' n=g' n) (hnW:∀n,¬W n→k' n=k n∧g' n=g n):m7 ρ q k h lo hi ρ' k' h':=by
 have a6J:B0 q ρ ρ':=fun n hn=>l.wZ n fun hh=>hq n hh.1 hh.2 hn
 have hmono:∀n,pn p lo hi n→pn q lo hi n:=fun n hn=>hn.imp (hpq n) id
 have key:∀n b,k' n=some b→g' n=some b∨(k n=some b∧g n=none):=by
  intro n b hn
  by_cases hw:W n
  ·rw[hW n hw]at hn;exact .inl hn
  ·obtain⟨h1,h2⟩:=hnW n hw
   rw[h1]at hn
   cases hg:g n with
   |none=>exact .inr ⟨hn,rfl⟩
   |some c=>
    have:=lC n c hg
    rw[hn]at this
    cases this
    exact .inl (by rw[h2,hg])
 have d2c:∀n b,k n=some b→g n=none→h'[ρ.b n]? =h[ρ.b n]? :=by
  intro n b hn hg
  refine l.fr _ (hm.ok n b hn).lt ?_
  intro m c hmc he
  have:=hm.inj m n c b (lC m c hmc) hn he
  rw[this]at hmc;rw[hmc]at hg;cases hg
 have b6K:∀n m b c,g' n=some b→k m=some c→g m=none→ρ'.b n=ρ'.b m→False:=by
  intro n m b c hn hk hg he
  rw[(a6J m (hm.sup m c hk).1).1]at he
  rcases l.own n b hn with ⟨m',d,TM,hme⟩|hge
  ·have:=hm.inj m' m d c (lC m' d TM) hk (hme.trans he)
   rw[this]at TM;rw[TM]at hg;cases hg
  ·have:=(hm.ok m c hk).lt;omega
 refine⟨⟨fun n b hn=>?_,fun n m b c hn hmm he=>?_,fun n b hn=>?_⟩,l.wZ,l.size,fun c hc hno=>l.fr c hc fun n d hn=>hno n d (lC n d hn),fun n c hn=>?_⟩
 ·rcases key n b hn with h1|⟨h1,h2⟩
  ·exact l.mat.ok n b h1
  ·exact (hm.ok n b h1).keep (hm.sup n b h1).2 a6J (hm.sup n b h1).1 (d2c n b h1 h2)
 ·rcases key n b hn with h1|⟨h1,h2⟩<;>rcases key m c hmm with h3|⟨h3,h4⟩
  ·exact l.mat.inj n m b c h1 h3 he
  ·exact (b6K n m b c h1 h3 h4 he).elim
  ·exact (b6K m n c b h3 h1 h2 he.symm).elim
  ·rw[(a6J n (hm.sup n b h1).1).1,(a6J m (hm.sup m c h3).1).1]at he
   exact hm.inj n m b c h1 h3 he
 ·rcases key n b hn with h1|⟨h1,h2⟩
  ·exact⟨hmono n (l.mat.sup n b h1).1,(l.mat.sup n b h1).2.mono hmono⟩
  ·exact⟨.inl (hm.sup n b h1).1,(hm.sup n b h1).2.mono fun _=>.inl⟩
 ·rcases key n c hn with h1|⟨h1,h2⟩
  ·rcases l.own n c h1 with ⟨m,d,hm1,hme⟩|hge
   ·exact .inl ⟨m,d,lC m d hm1,hme⟩
   ·exact .inr hge
  ·exact .inl ⟨n,c,h1,((a6J n (hm.sup n c h1).1).1).symm⟩
end Go.Sb
end
