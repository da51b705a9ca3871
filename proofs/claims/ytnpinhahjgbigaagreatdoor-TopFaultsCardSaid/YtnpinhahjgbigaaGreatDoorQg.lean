/- What TopFaults stands on, part 7. Conditions: none. -/
import Derived.Test.YtnpinhahjgbigaaGreatDoorQf
set_option linter.unusedSimpArgs false
set_option linter.unusedVariables false
set_option linter.unusedSectionVars false
section
namespace Go.Proofs.YtnpinhahjgbigaaGreatDoor
open Go Go.Sb
section
variable {C:bw}{s:KS}{P:List iO}{ex:Int}{a a':dD}{l:List dD}{L L':List LCei.Lk}
theorem rD (C:bw)(j:PJ)(o:dG){cost:Int}(hc:1≤cost):(cU C j o cost).t=j.t∧(cU C j o cost).left=j.left∧1≤(cU C j o cost).rest:=by
 have e:(if (1:Int)>cost then 1 else cost)=cost:=if_neg (by omega)
 unfold cU jDo
 rw[e]
 split
 ·exact⟨rfl,rfl,hc⟩
 split
 ·exact⟨rfl,rfl,hc⟩
 split
 ·split
  ·exact⟨rfl,rfl,Int.le_refl _⟩
  ·exact⟨rfl,rfl,hc⟩
 split
 ·exact⟨rfl,rfl,hc⟩
 ·exact⟨rfl,rfl,hc⟩
theorem Fm (hC:dE C){o:dG}(h:nW C L a)(ho:Fv C a.j=some o):(bS C a.j.t).ops[a.j.at_]? =some o∧xy C o∧(o.k=5→LCei.holds L a.rep o.a.toNat=false)∧(o.k=6→LCei.holds L a.rep o.a.toNat=true):=by
 obtain⟨hr,hf,fG,hbg⟩:=xA h ho
 obtain⟨h0,hl,hop,hall⟩:=qk hC h.t
 obtain⟨st,hst,Ch,d2L,rH⟩:=h.st
 rw[hbg]at hst
 have nk:=h.at_
 have hoe:(bS C a.j.t).ops[a.j.at_]=o:=(List.getElem?_eq_some_iff.1 fG).2
 have oS:=hop o (hoe ▸ List.getElem_mem nk)
 have hb:=xz hl hop a.j.at_ st (by omega) hst
 obtain⟨st',sF,hb'⟩:=hall (a.j.at_+1) (by omega)
 have hstep:eD st o=some st':=by
  have:=ku (st:=(0,0,[])) (bS C a.j.t).ops a.j.at_ nk
  rw[hst,sF,hoe]at this
  exact this.symm
 obtain⟨g1,g2,g⟩:=nV (by omega) oS hb hstep
 have hoa:=oS.a
 have ec:((o.a.toNat:Nat):Int)=o.a:=by omega
 refine⟨fG,oS,fun h5=>?_,fun h6=>?_⟩
 ·rcases g with ⟨e,_⟩|⟨e,_⟩|⟨e,hn,_⟩|⟨e,_⟩|⟨e,_⟩|⟨e,_⟩|⟨e,_⟩<;>first|omega|skip
  cases hh:LCei.holds L a.rep o.a.toNat
  ·rfl
  ·exact absurd ((rH o.a.toNat).1 hh) (by rw[ec];exact hn)
 ·rcases g with ⟨e,_⟩|⟨e,_⟩|⟨e,_⟩|⟨e,hn,_⟩|⟨e,_⟩|⟨e,_⟩|⟨e,_⟩<;>first|omega|skip
  refine (rH o.a.toNat).2 ?_
  rw[ec];exact List.mem_of_getLast? hn
theorem b5p (hC:dE C)(h:Wf C P ex s)(hl:s.aR=a::l){o:dG}(ho:Fv C a.j=some o){cost:Int}(tL:1≤cost∧cost≤1000):Wf C P ex { (bX s a.rep o).2.2.2 with aR:={ a with j:=cU C a.j o cost}::l}∧(o.k=5∨o.k=6→(bX s a.rep o).1=0):=by
 have ha:a∈s.aR:=by rw[hl];simp
 have oL:=h.st.gS a ha
 obtain⟨fG,oS,hl5,hl6⟩:=Fm hC oL ho
 have hoa:=oS.a
 obtain⟨kt,_,_⟩:=rD C a.j o tL.1
 have hnd:=h.st.nd
 rw[hl,List.map_cons,List.nodup_cons]at hnd
 have hne:∀b∈l,¬(b.rep:Int)=(a.rep:Int):=fun b hb he=>hnd.1 (List.mem_map.2 ⟨b,hb,by omega⟩)
 by_cases h5:o.k=5
 ·have hi:o.a.toNat<s.aD.length:=by have:=oS.lock (.inl h5);have:=h.ob.aD.1;omega
  have hx:=List.getElem?_eq_getElem hi
  generalize s.aD[o.a.toNat]=x at hx
  have hfree:x.2.2=false:=by
   cases hf:x.2.2
   ·rfl
   exfalso
   obtain⟨b,hb,e⟩:=h.st.held _ x hx hf
   rw[hl]at hb
   rcases List.mem_cons.1 hb with rfl|hb
   ·have:=hl5 h5
    unfold LCei.holds at this
    rw[hx]at this
    simp[hf,e]at this
   ·have h1:=Fj hC h hx hf e
    have h2:=h.ob.aD.2 _ x hx
    have h3:=(hC.task _ oL.t).low o (List.mem_of_getElem? fG) h5
    have h4:=h.st.chain
    rw[hl]at h4
    have h4:=(List.pairwise_cons.1 h4).1 b hb
    have h6:=(hC.task _ oL.t).pr
    rw[←h2]at h3
    omega
  have el:LCei.ld s.aD o.a.toNat a.rep=(0,s.aD.set o.a.toNat (x.1,(a.rep:Int),true)):=by
   unfold LCei.ld
   rw[hx]
   simp[hfree]
  have e:bX s a.rep o=(0,0,true,{ s with aD:=s.aD.set o.a.toNat (x.1,(a.rep:Int),true)}):=by
   unfold bX
   rw[if_pos (by simp[h5]),el]
  rw[e]
  refine⟨?_,fun _=>rfl⟩
  refine h.aD (a':={ a with j:=cU C a.j o cost}) hl rfl kt (ql hC oL ho (fun j=>?_) tL) (by simp) (fun j=>?_) (fun b hb j=>?_) (fun j y hy hh=>?_)
  ·rw[if_pos h5,oF _ _ _ _ hi]
   by_cases he:o.a.toNat=j
   ·rw[if_pos he]
    have:(j:Int)=o.a:=by omega
    simp[this]
   ·rw[if_neg he]
    have:¬(j:Int)=o.a:=by omega
    simp[this]
  ·rw[List.getElem?_set]
   by_cases he:o.a.toNat=j
   ·subst he;rw[if_pos rfl,if_pos hi,hx];rfl
   ·simp[he]
  ·rw[oF _ _ _ _ hi]
   by_cases he:o.a.toNat=j
   ·subst he
    rw[if_pos rfl]
    unfold LCei.holds
    rw[hx]
    have:=hne b hb
    simp[hfree];omega
   ·rw[if_neg he]
  ·rcases iL hy with ⟨rfl,rfl,_⟩|⟨_,hy⟩
   ·exact⟨a,by simp,rfl⟩
   ·rw[←hl];exact h.st.held j y hy hh
 by_cases h6:o.k=6
 ·have hi:o.a.toNat<s.aD.length:=by have:=oS.lock (.inr h6);have:=h.ob.aD.1;omega
  have hx:=List.getElem?_eq_getElem hi
  generalize s.aD[o.a.toNat]=x at hx
  have a7D:x.2.2=true∧x.2.1=(a.rep:Int):=by
   have:=hl6 h6
   unfold LCei.holds at this
   rw[hx]at this
   simpa using this
  have el:LCei.cO s.aD o.a.toNat a.rep=(0,s.aD.set o.a.toNat (x.1,0,false)):=by
   unfold LCei.cO
   rw[hx]
   simp[a7D.1,a7D.2]
  have e:bX s a.rep o=(0,0,true,{ s with aD:=s.aD.set o.a.toNat (x.1,0,false)}):=by
   unfold bX
   rw[if_neg (by simp[h6]),if_pos (by simp[h6]),el]
  rw[e]
  refine⟨?_,fun _=>rfl⟩
  refine h.aD (a':={ a with j:=cU C a.j o cost}) hl rfl kt (ql hC oL ho (fun j=>?_) tL) (by simp) (fun j=>?_) (fun b hb j=>?_) (fun j y hy hh=>?_)
  ·rw[if_neg h5,if_pos h6,oF _ _ _ _ hi]
   by_cases he:o.a.toNat=j
   ·rw[if_pos he]
    have:(j:Int)=o.a:=by omega
    simp[this]
   ·rw[if_neg he]
    have:¬(j:Int)=o.a:=by omega
    simp[this]
  ·rw[List.getElem?_set]
   by_cases he:o.a.toNat=j
   ·subst he;rw[if_pos rfl,if_pos hi,hx];rfl
   ·simp[he]
  ·rw[oF _ _ _ _ hi]
   by_cases he:o.a.toNat=j
   ·subst he
    rw[if_pos rfl]
    unfold LCei.holds
    rw[hx]
    have:=hne b hb
    simp[a7D.2];omega
   ·rw[if_neg he]
  ·rcases iL hy with ⟨rfl,rfl,_⟩|⟨_,hy⟩
   ·cases hh
   ·rw[←hl];exact h.st.held j y hy hh
 refine⟨?_,fun h=>by omega⟩
 have hj:nW C s.aD { a with j:=cU C a.j o cost}:=ql hC oL ho (fun j=>by rw[if_neg h5,if_neg h6]) tL
 have w:=rC (a':={ a with j:=cU C a.j o cost}) h hl rfl kt hj
 have xJ:=h.ob
 unfold bX
 rw[if_neg (by simp[h5]),if_neg (by simp[h6])]
 by_cases h9:(o.k == 9)=true
 ·rw[if_pos h9]
  split
  ·exact w.I1 xJ.cache (by simp) rfl xJ.groups.2 rfl xJ.counts.2
  ·exact w
 rw[if_neg h9]
 by_cases h10:(o.k == 10)=true
 ·rw[if_pos h10]
  split
  ·split
   ·exact w
   ·exact w.I1 xJ.cache (by simp) rfl xJ.groups.2 rfl xJ.counts.2
  ·exact w
 rw[if_neg h10]
 by_cases h11:(o.k == 11)=true
 ·rw[if_pos h11]
  refine w.I1 xJ.cache rfl (by simp) (fun x hx=>?_) rfl xJ.counts.2
  rcases List.mem_or_eq_of_mem_set hx with hx|rfl
  ·exact xJ.groups.2 x hx
  ·exact (Fl _ _).1
 rw[if_neg h11]
 by_cases h12:(o.k == 12)=true
 ·rw[if_pos h12]
  refine w.I1 xJ.cache rfl (by simp) (fun x hx=>?_) rfl xJ.counts.2
  rcases List.mem_or_eq_of_mem_set hx with hx|rfl
  ·exact xJ.groups.2 x hx
  ·exact (Fl _ _).2
 rw[if_neg h12]
 by_cases h13:(o.k == 13)=true
 ·rw[if_pos h13];exact w
 rw[if_neg h13]
 by_cases h14:(o.k == 14)=true
 ·rw[if_pos h14]
  split
  ·rename_i x hx
   refine w.I1 xJ.cache rfl rfl xJ.groups.2 (by split<;>simp) (fun y hy=>?_)
   split at hy
   ·exact xJ.counts.2 y hy
   ·rename_i hb
    rcases List.mem_or_eq_of_mem_set hy with hy|rfl
    ·exact xJ.counts.2 y hy
    ·have:=xJ.counts.2 x (List.mem_of_getElem? hx)
     unfold LCnt.fJ at hb
     simp at hb
     exact⟨by show 0≤x.1+1;omega,by show x.1+1≤x.2;omega,this.2.2⟩
  ·exact w
 rw[if_neg h14]
 by_cases h15:(o.k == 15)=true
 ·rw[if_pos h15]
  split
  ·rename_i x hx
   refine w.I1 xJ.cache rfl rfl xJ.groups.2 (by split<;>simp) (fun y hy=>?_)
   split at hy
   ·exact xJ.counts.2 y hy
   ·rename_i hb
    rcases List.mem_or_eq_of_mem_set hy with hy|rfl
    ·exact xJ.counts.2 y hy
    ·have:=xJ.counts.2 x (List.mem_of_getElem? hx)
     unfold LCnt.fJ at hb
     simp at hb
     exact⟨by show 0≤x.1+ -1;omega,by show x.1+ -1≤x.2;omega,this.2.2⟩
  ·exact w
 rw[if_neg h15]
 exact w
theorem a7E (hC:dE C){o:dG}(ho:xy C o)(b:Bool):1≤LFlg.fD o C.hit C.bT b∧LFlg.fD o C.hit C.bT b≤1000:=by
 have h1:=hC.hit
 have h2:=hC.bT
 unfold LFlg.fD
 split
 ·rename_i hk
  exact ho.cyc (by simpa using hk)
 ·split
  ·omega
  ·split<;>omega
theorem a7F (hC:dE C)(h:Wf C P ex s):Wf C P (ex+1) (cv C s)∧(cv C s).ev=s.ev∧(cv C s).now=s.now∧∀a l,s.aR=a::l→∃a',(cv C s).aR=a'::l∧a'.j.left=a.j.left∧1≤a'.j.rest:=by
 unfold cv
 cases hl:s.aR with
 |nil=>exact⟨h.ud (by omega),rfl,rfl,fun a l h=>by cases h⟩
 |cons a l=>
  dsimp only
  have ha:a∈s.aR:=by rw[hl];simp
  have oL:=h.st.gS a ha
  cases ho:Fv C a.j with
  |none=>
   refine⟨h.ud (by omega),rfl,rfl,fun b m hb=>?_⟩
   cases hb
   refine⟨a,hl,rfl,?_⟩
   unfold Fv at ho
   rw[oL.over]at ho
   split at ho
   ·rename_i hr
    simp at hr
    omega
   ·rw[List.getElem?_eq_getElem oL.at_]at ho;cases ho
  |some o=>
   dsimp only
   obtain⟨_,oS,_⟩:=Fm hC oL ho
   obtain⟨r,g,_⟩:=h.st.reps a ha
   have tL:=a7E hC oS (yp C s o)
   generalize LFlg.fD o C.hit C.bT (yp C s o)=cost at tL
   have w:=d2P h (List.getElem?_eq_some_iff.1 g).1 o
   obtain⟨k1,k2,k3,k4⟩:=I2 C s a.rep o
   generalize oK C s a.rep o=s1 at w k1 k2 k3 k4
   rw[hl]at k1
   obtain⟨w2,Ay⟩:=b5p hC w k1 ho tL
   obtain⟨m1,m2,m3,m4,m5⟩:=tJ s1 a.rep o
   obtain⟨kt,kl,kr⟩:=rD C a.j o tL.1
   generalize bX s1 a.rep o=r at w2 Ay m1 m2 m3 m4 m5
   obtain⟨code,val,f2Z,s2⟩:=r
   dsimp only at w2 Ay m1 m2 m3 m4 m5 ⊢
   cases f2Z
   ·rw[if_neg (by simp)]
    refine⟨w2.ud (by omega),by rw[m5,k3],by rw[m4,k4],fun b m hb=>?_⟩
    cases hb
    exact⟨_,rfl,kl,kr⟩
   ·rw[if_pos rfl]
    have w3:=Cl (k:=8) (at_:=s.now) (op:=o.k) (code:=code) (val:=val) (rep:=a.rep) w2 (by omega) (fun _ hk=>Ay hk)
    have e:({ cV s2 8 s.now a.rep o.k code val with aR:={ a with j:=cU C a.j o cost}::l}:KS)=cV { s2 with aR:={ a with j:=cU C a.j o cost}::l} 8 s.now a.rep o.k code val:=by
     unfold cV
     dsimp only
     cases s2.reps[a.rep]? <;>rfl
    rw[←e]at w3
    obtain⟨t,e2,_⟩:=mT s2 8 s.now a.rep o.k code val
    refine⟨w3,?_,?_,fun b m hb=>?_⟩
    ·rw[e2];show s2.ev=s.ev;rw[m5,k3]
    ·rw[e2];show s2.now=s.now;rw[m4,k4]
    ·cases hb
     exact⟨_,rfl,kl,kr⟩
end
end Go.Proofs.YtnpinhahjgbigaaGreatDoor
end
section
namespace Go.Proofs.YtnpinhahjgbigaaGreatDoor
open Go Go.Sb
section
variable {C:bw}{s:KS}{P:List iO}{ex:Int}{a a':dD}{l:List dD}{L L':List LCei.Lk}
def nc (who:Int)(x:LCei.Lk):LCei.Lk:=if x.2.2=true∧x.2.1=who then (x.1,0,false) else x
theorem rE {who:Int}{x:LCei.Lk}(h:¬(x.2.2=true∧x.2.1=who)):nc who x=x:=if_neg h
theorem Fo (who:Int)(x:LCei.Lk):nc who (nc who x)=nc who x:=by
 by_cases h:x.2.2=true∧x.2.1=who
 ·have:nc who x=(x.1,0,false):=if_pos h
  rw[this];exact if_neg (by simp)
 ·rw[rE h,rE h]
theorem I3 (who:Int)(j:Nat){i:Nat}{x:LCei.Lk}(hx:L[i]? =some x):(LCei.cO L j who).2[i]? =some (if j=i then nc who x else x):=by
 unfold LCei.cO
 by_cases he:j=i
 ·subst he
  rw[hx,if_pos rfl]
  have hi:=(List.getElem?_eq_some_iff.1 hx).1
  by_cases h:x.2.2=true∧x.2.1=who
  ·simp[h.1,h.2,nc,hi]
  ·rw[rE h]
   have:(!x.2.2||x.2.1 != who)=true:=by
    cases h1:x.2.2
    ·rfl
    ·simp;exact fun h2=>h ⟨h1,h2⟩
   simp[this,hx]
 ·rw[if_neg he]
  cases hj:L[j]? with
  |none=>exact hx
  |some y=>
   dsimp only
   split
   ·exact hx
   ·show (L.set j _)[i]? =_
    rw[List.getElem?_set_ne he];exact hx
theorem Fp (who:Int):∀(js:List Nat) (L:List LCei.Lk) {i:Nat} {x:LCei.Lk},L[i]? =some x→(LCei.eF who L js)[i]? =some (if i∈js then nc who x else x)
 |[],L,i,x,hx=>by
  rw[if_neg (by simp)];exact hx
 |j::js,L,i,x,hx=>by
  have h1:=I3 who j hx
  have h2:=Fp who js _ h1
  have e:LCei.eF who L (j::js)=LCei.eF who (LCei.cO L j who).2 js:=rfl
  rw[e,h2]
  by_cases he:j=i
  ·subst he
   simp only[if_true,List.mem_cons,true_or,Fo,ite_self]
  ·have:¬i=j:=fun h=>he h.symm
   simp only[he,if_false,List.mem_cons,this,false_or]
theorem nZ (who:Int){i:Nat}{x:LCei.Lk}(hx:L[i]? =some x):(LCei.eF who L (LCei.bL L who L.length))[i]? =some (nc who x):=by
 rw[Fp who _ L hx]
 split
 ·rfl
 ·rename_i hn
  rw[rE]
  intro hc
  refine hn ?_
  unfold LCei.bL
  refine List.mem_filter.2 ⟨List.mem_range.2 (List.getElem?_eq_some_iff.1 hx).1,?_⟩
  unfold LCei.holds
  rw[hx]
  simp[hc.1,hc.2]
theorem mq (who:Int):∀(js:List Nat) (L:List LCei.Lk),(LCei.eF who L js).length=L.length
 |[],L=>rfl
 |j::js,L=>by
  have e:LCei.eF who L (j::js)=LCei.eF who (LCei.cO L j who).2 js:=rfl
  rw[e,mq who js,LCei.tf]
theorem d2Q (hC:dE C)(h:Wf C P ex s)(hl:s.aR=a::l){a':dD}(hr:a'.rep=a.rep)(hf:a'.j.fault=iK (bS C a.j.t).fr (bS C a.j.t).ops 0 false):Wf C P (ex+1) (yq { s with aR:=a'::l})∧(yq { s with aR:=a'::l}).ev=s.ev∧(yq { s with aR:=a'::l}).now=s.now:=by
 have ha:a∈s.aR:=by rw[hl];simp
 have hst:=h.st
 have FQ:=hst.gS
 have hr0:=hst.reps
 have AY:=hst.nd
 have hc0:=hst.chain
 have ri:=hst.cr
 have hh0:=hst.held
 have b7h:=h.rp.live
 rw[hl]at FQ hr0 AY hc0 ri hh0 b7h
 obtain⟨r,g,g1,g2,g3,g4⟩:=hr0 a (by simp)
 rw[List.map_cons,List.nodup_cons]at AY
 have hne:∀b∈l,¬b.rep=a.rep:=fun b hb he=>AY.1 (List.mem_map.2 ⟨b,hb,he⟩)
 have sG:=h.now
 have qq:=h.tr
 have hrm:=List.mem_of_getElem? g
 have ho:∀b∈l,∀i,LCei.holds (LCei.eF a.rep s.aD (LCei.bL s.aD a.rep s.aD.length)) b.rep i=LCei.holds s.aD b.rep i:=by
  intro b hb i
  have hb':=hne b hb
  unfold LCei.holds
  cases hx:s.aD[i]? with
  |none=>
   have:(LCei.eF a.rep s.aD (LCei.bL s.aD a.rep s.aD.length))[i]? =none:=by
    rw[List.getElem?_eq_none_iff,mq];exact List.getElem?_eq_none_iff.1 hx
   rw[this]
  |some x=>
   rw[nZ _ hx]
   dsimp only
   unfold nc
   split
   ·rename_i hc
    rw[hc.2]
    simp;omega
   ·rfl
 have hlc:∀i:Nat,((LCei.eF a.rep s.aD (LCei.bL s.aD a.rep s.aD.length))[i]?).map (·.1)=(s.aD[i]?).map (·.1):=by
  intro i
  cases hx:s.aD[i]? with
  |none=>
   have:(LCei.eF a.rep s.aD (LCei.bL s.aD a.rep s.aD.length))[i]? =none:=by
    rw[List.getElem?_eq_none_iff,mq];exact List.getElem?_eq_none_iff.1 hx
   rw[this]
  |some x=>
   rw[nZ _ hx]
   unfold nc
   split<;>rfl
 have KX:∀(i:Nat) (x:LCei.Lk),(LCei.eF a.rep s.aD (LCei.bL s.aD a.rep s.aD.length))[i]? =some x→x.2.2=true→∃b∈l,x.2.1=(b.rep:Int):=by
  intro i x hx hh
  cases hy:s.aD[i]? with
  |none=>
   have:(LCei.eF a.rep s.aD (LCei.bL s.aD a.rep s.aD.length))[i]? =none:=by
    rw[List.getElem?_eq_none_iff,mq];exact List.getElem?_eq_none_iff.1 hy
   rw[this]at hx;cases hx
  |some y=>
   rw[nZ _ hy]at hx
   simp only[Option.some.injEq]at hx
   subst hx
   unfold nc at hh ⊢
   split at hh
   ·cases hh
   ·rename_i hc
    rw[if_neg hc]
    obtain⟨b,hb,e⟩:=hh0 i y hy hh
    rcases List.mem_cons.1 hb with rfl|hb
    ·exact absurd ⟨hh,e⟩ hc
    ·exact⟨b,hb,e⟩
 have hlen:=mq (a.rep:Int) (LCei.bL s.aD a.rep s.aD.length) s.aD
 unfold yq
 dsimp only
 rw[hr,dY s.reps a.rep _ g]
 generalize LCei.eF a.rep s.aD (LCei.bL s.aD a.rep s.aD.length)=L' at ho hlc KX hlen
 have hm:∀z∈s.reps.set a.rep { r with end_:=s.now,fault:=a'.j.fault},z={ r with end_:=s.now,fault:=a'.j.fault}∨z∈s.reps:=fun z hz=>by
  rcases List.mem_or_eq_of_mem_set hz with h|h
  ·exact .inr h
  ·exact .inl h
 have hot:∀(n:Nat) (x:nj),n≠a.rep→s.reps[n]? =some x→(s.reps.set a.rep { r with end_:=s.now,fault:=a'.j.fault})[n]? =some x:=fun n x hn hx=>by rw[List.getElem?_set_ne (Ne.symm hn)];exact hx
 have b5o:∀b∈l,∀(t:List IF) (rp:List nj),eT C { s with reps:=rp,aD:=L',aR:=l,tr:=t} b=eT C s b:=by
  intro b hb t rp
  unfold eT
  split
  ·rfl
  ·show LCei.nJ L' _ (LCei.bL L' _ L'.length)=_
   rw[mW hlc]
   congr 1
   unfold LCei.bL
   rw[hlen]
   exact List.filter_congr fun i _=>ho b hb i
 have main:∀y:IF,(y.kind=7↔a'.j.fault=true)→(y.kind=7→y.code=11)→y.kind≠8→Wf C P (ex+1) { s with reps:=s.reps.set a.rep { r with end_:=s.now,fault:=a'.j.fault},aD:=L',aR:=l,tr:=s.tr++[y]}:=by
  intro y y1 y2 y3
  refine⟨h.now,h.Cj,h.ord,h.yx,h.pg,h.Fz,h.nY,by show ((s.reps.set _ _).length:Int)≤_;rw[List.length_set];exact h.reps,by show ((s.tr++[y]).length:Int)≤iR s.ready+4*s.now+(ex+1);simp;omega,⟨h.cN.len,h.cN.at_,h.cN.qN,h.cN.Ff,h.cN.IV,h.cN.KV,fun p hp=>?_⟩,⟨h.ob.cache,h.ob.boxes,h.ob.groups,h.ob.counts,⟨by show L'.length=_;rw[hlen];exact h.ob.aD.1,fun i x hx=>?_⟩,h.ob.lines⟩,⟨fun b hb=>?_,fun b hb=>?_,AY.2,?_,KX,?_⟩,⟨fun z hz=>?_,fun z hz he=>?_,?_,?_,fun x hx=>?_,fun x hx=>?_⟩⟩
  ·obtain⟨x,k,k1,k2,k3,k4,k5⟩:=h.cN.Fy p hp
   refine⟨x,hot _ x (fun he=>?_) k,k1,k2,k3,k4,k5⟩
   rw[he,g]at k
   cases k
   omega
  ·have hx:L'[i]? =some x:=hx
   have h1:=hlc i
   rw[hx]at h1
   cases h2:s.aD[i]? with
   |none=>rw[h2]at h1;cases h1
   |some y=>
    rw[h2]at h1
    simp only[Option.map_some,Option.some.injEq]at h1
    rw[h1];exact h.ob.aD.2 i y h2
  ·have Cn:=FQ b (by simp[hb])
   obtain⟨st,e1,e2,e3,e4⟩:=Cn.st
   exact⟨Cn.t,Cn.over,Cn.at_,Cn.rest,Cn.left,Cn.aU,⟨st,e1,e2,e3,fun i=>by show LCei.holds L' b.rep i=true↔_;rw[ho b hb i];exact e4 i⟩,Cn.ov,Cn.flt⟩
  ·obtain⟨x,k,k'⟩:=hr0 b (by simp[hb])
   exact⟨x,hot _ x (hne b hb) k,k'⟩
  ·refine List.Pairwise.imp_of_mem (fun {u w} _ hw hp=>?_) (List.pairwise_cons.1 hc0).2
   rw[b5o w hw];exact hp
  ·refine Int.le_trans ?_ ri
   unfold depth
   rw[kJ,LFrame.Ei]
   have e:LFrame.du [((a.rep:Int),(bS C a.j.t).fr)]=(bS C a.j.t).fr:=by unfold LFrame.du;simp
   have:=(hC.task _ (FQ a (by simp)).t).fr
   rw[e]
   show LFrame.du (iJ C l)≤_
   omega
  ·rcases hm z hz with rfl|hz
   ·exact h.rp.task r hrm
   ·exact h.rp.task z hz
  ·rcases hm z hz with rfl|hz
   ·show a'.j.fault=iK (bS C r.task.toNat).fr (bS C r.task.toNat).ops 0 false
    rw[hf,g1,Int.toNat_natCast]
   ·exact h.rp.over z hz he
  ·have:=dF (fun x:nj=>x.fault) s.reps a.rep r { r with end_:=s.now,fault:=a'.j.fault} g
   show ((s.tr++[y]).filter _).length=((s.reps.set _ _).filter _).length
   rw[List.filter_append,List.length_append,h.rp.count]
   dsimp only at this
   rw[g4,if_neg (by simp)]at this
   cases xX:a'.j.fault
   ·have hy:(y.kind == 7)=false:=by
     rw[beq_eq_false_iff_ne];intro hc;rw[y1.1 hc]at xX;cases xX
    rw[xX]at this
    simp only[List.filter_cons,List.filter_nil,hy]
    simp at this ⊢
    omega
   ·have hy:(y.kind == 7)=true:=by rw[beq_iff_eq];exact y1.2 xX
    rw[xX]at this
    simp only[List.filter_cons,List.filter_nil,hy]
    simp at this ⊢
    omega
  ·have:=dF kM s.reps a.rep r { r with end_:=s.now,fault:=a'.j.fault} g
   have e1:kM r=true:=by unfold kM;rw[g3,decide_eq_true g2];rfl
   have e2:kM { r with end_:=s.now,fault:=a'.j.fault}=false:=by
    unfold kM
    dsimp only
    rw[decide_eq_false (show ¬s.now<0 by omega),Bool.and_false]
   rw[e1,e2]at this
   show ((s.reps.set _ _).filter _).length=l.length
   rw[List.length_cons]at b7h
   simp at this
   omega
  ·rcases List.mem_append.1 hx with hx|hx
   ·exact h.rp.code x hx
   ·rw[List.mem_singleton.1 hx];exact y2
  ·rcases List.mem_append.1 hx with hx|hx
   ·exact h.rp.lock x hx
   ·rw[List.mem_singleton.1 hx];exact fun hc=>absurd hc y3
 have hg:(s.reps.set a.rep { r with end_:=s.now,fault:=a'.j.fault})[a.rep]? =some { r with end_:=s.now,fault:=a'.j.fault}:=by
  rw[mV _ g,if_pos rfl]
 cases xX:a'.j.fault
 ·rw[xX]at hg main
  rw[if_neg (by simp)]
  unfold cV
  dsimp only
  rw[hg]
  dsimp only
  exact⟨main _ ⟨fun h=>(by cases h),fun h=>(by cases h)⟩ (fun h=>(by cases h)) (fun h=>(by cases h)),rfl,rfl⟩
 ·rw[xX]at hg main
  rw[if_pos rfl]
  unfold cV
  dsimp only
  rw[hg]
  dsimp only
  exact⟨main _ ⟨fun _=>rfl,fun _=>rfl⟩ (fun _=>rfl) (fun h=>(by cases h)),rfl,rfl⟩
end
end Go.Proofs.YtnpinhahjgbigaaGreatDoor
end
section
namespace Go.Proofs.YtnpinhahjgbigaaGreatDoor
open Go Go.Sb
section
variable {C:bw}{s:KS}{P:List iO}{ex:Int}{a a':dD}{l:List dD}
theorem Wf.adv (h:Wf C P ex s){n:Int}(hn:0≤n)(sG:s.now+n≤1000):Wf C P (ex-4*n) { s with now:=s.now+n}:=
 ⟨⟨by have:=h.now;show 0≤s.now+n;omega,sG⟩,h.Cj,h.ord,h.yx,h.pg,h.Fz,h.nY,h.reps,by have:=h.tr;show (s.tr.length:Int)≤iR s.ready+4*(s.now+n)+(ex-4*n);omega,⟨h.cN.len,h.cN.at_,h.cN.qN,h.cN.Ff,h.cN.IV,h.cN.KV,h.cN.Fy⟩,⟨h.ob.cache,h.ob.boxes,h.ob.groups,h.ob.counts,h.ob.aD,h.ob.lines⟩,⟨h.st.gS,h.st.reps,h.st.nd,h.st.chain,h.st.held,h.st.cr⟩,⟨h.rp.task,h.rp.over,h.rp.count,h.rp.live,h.rp.code,h.rp.lock⟩⟩
theorem b5q (hC:dE C)(h:Wf C P ex s){n:Int}(hn:1≤n)(sG:s.now+n≤1000)(kS:∀a l,s.aR=a::l→n≤a.j.rest)(held:Bool):Wf C P (ex+1-4*n) (lA C s n held)∧(lA C s n held).ev=s.ev∧(lA C s n held).now=s.now+n:=by
 have w:=h.adv (n:=n) (by omega) sG
 unfold lA
 cases hl:s.aR with
 |nil=>
  dsimp only
  exact⟨by have:=w.ud (ex':=ex+1-4*n) (by omega);rw[←hl];exact this,rfl,rfl⟩
 |cons a l=>
  dsimp only
  have ha:a∈s.aR:=by rw[hl];simp
  have oL:=h.st.gS a ha
  obtain⟨r,g,_⟩:=h.st.reps a ha
  obtain⟨b1,b2⟩:=Ts hC oL ⟨hn,kS a l hl⟩
  have kt:(eJ C a.j n).t=a.j.t:=by unfold eJ;dsimp only;split<;>rfl
  have w2:Wf C P (ex-4*n) { s with now:=s.now+n,reps:=if held then s.reps.modify a.rep (fun r=>{ r with held:=IntKind.i64.wrap (r.held+n)}) else s.reps}:=by
   cases held
   ·exact w
   ·rw[if_pos rfl,dY s.reps a.rep _ g]
    exact IZ (s:={ s with now:=s.now+n}) w g rfl rfl rfl rfl rfl
  generalize (if held then s.reps.modify a.rep (fun r=>{ r with held:=IntKind.i64.wrap (r.held+n)}) else s.reps)=rp at w2
  cases ho:(eJ C a.j n).over
  ·rw[if_neg (by simp)]
   have w3:=rC (s:={ s with now:=s.now+n,reps:=rp}) (a':={ a with j:=eJ C a.j n}) w2 hl rfl kt (b1 ho)
   exact⟨w3.ud (by omega),rfl,rfl⟩
  ·rw[if_pos rfl]
   obtain⟨g1,g2,g3⟩:=d2Q (s:={ s with now:=s.now+n,reps:=rp}) (a':={ a with j:=eJ C a.j n}) hC w2 hl rfl (b2 ho)
   exact⟨g1.ud (by omega),g2,g3⟩
def xE (ev:List dy)(now n:Int):Int:=match ev with
 |[]=>n
 |x::_=>if x.e.t-now<n then x.e.t-now else n
def a7G (aR:List dD)(held:Bool)(n:Int):Int:=match aR with
 |[]=>n
 |a::_=>
  let n:=if a.j.rest<n then a.j.rest else n
  if held then (if a.j.left<n then a.j.left else n) else n
theorem a7H (s:KS)(u:Int)(held:Bool):iP s u held=a7G s.aR held (xE s.ev s.now (u-s.now)):=by
 unfold iP a7G xE
 cases s.aR<;>cases s.ev<;>rfl
theorem b5r {u:Int}{held:Bool}(hlt:s.now<u)(aH:∀x∈s.ev,s.now<x.e.t)(hr:∀a l,s.aR=a::l→1≤a.j.rest)(hh:held=true→∀a l,s.aR=a::l→1≤a.j.left):
  1≤iP s u held∧s.now+iP s u held≤u∧(∀x l,s.ev=x::l→s.now+iP s u held≤x.e.t)∧∀a l,s.aR=a::l→iP s u held≤a.j.rest:=by
 have h1:∀n0:Int,1≤n0→1≤xE s.ev s.now n0∧xE s.ev s.now n0≤n0∧(∀x l,s.ev=x::l→xE s.ev s.now n0≤x.e.t-s.now):=by
  intro n0 AY
  unfold xE
  cases he:s.ev with
  |nil=>exact⟨AY,Int.le_refl _,fun x l h=>by cases h⟩
  |cons x l=>
   dsimp only
   have:=aH x (by rw[he];simp)
   refine⟨by split<;>omega,by split<;>omega,fun y m hy=>?_⟩
   cases hy
   split<;>omega
 obtain⟨g1,g2,g3⟩:=h1 (u-s.now) (by omega)
 rw[a7H]
 generalize xE s.ev s.now (u-s.now)=n1 at g1 g2 g3
 unfold a7G
 cases hl:s.aR with
 |nil=>
  dsimp only
  exact⟨g1,by omega,fun x l hx=>by have:=g3 x l hx;omega,fun a l h=>by cases h⟩
 |cons a l=>
  dsimp only
  have hr1:=hr a l hl
  have m1:1≤(if a.j.rest<n1 then a.j.rest else n1)∧(if a.j.rest<n1 then a.j.rest else n1)≤n1∧(if a.j.rest<n1 then a.j.rest else n1)≤a.j.rest:=by split<;>omega
  generalize (if a.j.rest<n1 then a.j.rest else n1)=n2 at m1
  cases held
  ·rw[if_neg (by simp)]
   refine⟨by omega,by omega,fun x m hx=>?_,fun b m hb=>?_⟩
   ·have:=g3 x m hx
    omega
   ·cases hb;omega
  ·rw[if_pos rfl]
   have hl1:=hh rfl a l hl
   have m2:1≤(if a.j.left<n2 then a.j.left else n2)∧(if a.j.left<n2 then a.j.left else n2)≤n2:=by split<;>omega
   generalize (if a.j.left<n2 then a.j.left else n2)=n3 at m2
   refine⟨by omega,by omega,fun x m hx=>?_,fun b m hb=>?_⟩
   ·have:=g3 x m hx
    omega
   ·cases hb;omega
theorem d2R (h:pN s.ev){t:Int}(hh:∀x l,s.ev=x::l→t≤x.e.t):∀x∈s.ev,t≤x.e.t:=by
 cases he:s.ev with
 |nil=>intro x hx;simp at hx
 |cons y l=>
  have hy:=hh y l he
  rw[he]at h
  intro x hx
  rcases List.mem_cons.1 hx with rfl|hx
  ·exact hy
  ·have:=h.head x hx
   rw[dy.lt_iff]at this
   omega
def Tv (C:bw)(u:Int)(s:KS):Prop:=Wf C [] 0 s∧(∀x∈s.ev,s.now≤x.e.t)∧s.now≤u
theorem KY (hC:dE C){u:Int}(hu:u≤1000)(h:Tv C u s)(hlt:s.now<u):IN C u s∧Tv C u (iQ C u s)∧s.now<(iQ C u s).now:=by
 obtain⟨hw,aH,_⟩:=h
 obtain⟨d1,d2,d3,d4,d5⟩:=d2M hC (by omega) hw aH
 obtain⟨c1,c2,c3,c4⟩:=Tu hC d2
 obtain⟨e1,e2,e3,e4⟩:=a7F hC c1
 have sG:(cv C (bt C (eS C s)).1).now=s.now:=by rw[e3,c3,d3]
 have f3a:∀x∈(cv C (bt C (eS C s)).1).ev,s.now<x.e.t:=by rw[e2,c2];exact d5
 have hr:∀a l,(cv C (bt C (eS C s)).1).aR=a::l→1≤a.j.rest:=by
  intro a l hl
  cases h2:(bt C (eS C s)).1.aR with
  |nil=>
   have:=xx C (bt C (eS C s)).1
   rw[hl,h2]at this;cases this
  |cons b m=>
   obtain⟨a',g1,g2,g3⟩:=e4 b m h2
   rw[hl]at g1
   cases g1
   exact g3
 have hh:(bt C (eS C s)).2=true→∀a l,(cv C (bt C (eS C s)).1).aR=a::l→1≤a.j.left:=by
  intro hc a l hl
  obtain⟨b,m,h2,h3⟩:=c4 hc
  obtain⟨a',g1,g2,g3⟩:=e4 b m h2
  rw[hl]at g1
  cases g1
  omega
 obtain⟨p1,p2,p3,p4⟩:=b5r (held:=(bt C (eS C s)).2) (by rw[sG];exact hlt) (by rw[sG];exact f3a) hr hh
 obtain⟨b1,b2,b3⟩:=b5q hC e1 p1 (by omega) p4 (bt C (eS C s)).2
 have AY:=hw.now
 obtain⟨f1,f2,f3,f4,f5⟩:=e1.yg
 have ht:=e1.tr
 have hso:=e1.e5f hC (by omega)
 refine⟨⟨?_,d1,d2.f2X hC (by omega),fun a l hl=>c1.f2Y hC (by omega) hl,by rw[sG];omega,fun x hx=>?_,⟨by omega,by omega⟩,fun a l hl=>?_,by omega,hso.iJ,by have:=I0 hC e1;omega,?_⟩,⟨?_,?_,?_⟩,?_⟩
 ·have:=hw.yg;omega
 ·have:=(e1.yx x hx).ok.t;omega
 ·have ha:a∈(cv C (bt C (eS C s)).1).aR:=by rw[hl];simp
  have hj:=e1.st.gS a ha
  obtain⟨r,g,_⟩:=e1.st.reps a ha
  obtain⟨_,zP,_,_⟩:=qk hC hj.t
  have j1:=hj.rest
  have j2:=hj.left
  have j3:=hj.at_
  exact⟨⟨hj.t,⟨p1,p4 a l hl⟩,by omega,by omega,by omega⟩,(List.getElem?_eq_some_iff.1 g).1⟩
 ·have:=e1.ob.aD.1
  have:=hC.bP
  omega
 ·exact b1.ud (by omega)
 ·show ∀x∈(lA C _ _ _).ev,(lA C _ _ _).now≤x.e.t
  rw[b2,b3]
  exact d2R e1.Cj p3
 ·show (lA C _ _ _).now≤u
  rw[b3];exact p2
 ·show s.now<(lA C _ _ _).now
  rw[b3,sG];omega
theorem a7I (hC:dE C){u:Int}(hu:u≤1000):∀(d:Nat) (s:KS),Tv C u s→Tv C u (kQ C u d s)
 |0,s,h=>h
 |d+1,s,h=>by
  unfold kQ
  split
  ·rename_i hlt
   exact a7I hC hu d _ (KY hC hu h hlt).2.1
  ·exact h
end
end Go.Proofs.YtnpinhahjgbigaaGreatDoor
end
section
namespace Go.Proofs.YtnpinhahjgbigaaGreatDoor
open Go Go.Sb
section
variable {C:bw}{s:KS}
theorem b5s {e:iO}(hn:s.now=0)(h:Th C s e=0):EvG C e∧0≤e.t:=by
 unfold Th at h
 by_cases h1:e.k<1∨e.k>5
 ·rw[if_pos h1]at h;cases h
 rw[if_neg h1]at h
 by_cases h2:e.t<s.now∨e.t>16777216∨(e.k=5∧¬(e.b≥1∧e.b≤1048576∧e.c≥1∧e.c≤256))
 ·rw[if_pos h2]at h;cases h
 rw[if_neg h2]at h
 by_cases h3:e.a≥0∧e.a<(if e.k=2∨e.k=3∨e.k=4 then (C.lines.length:Int) else C.tasks.length)
 case neg=>rw[if_pos h3]at h;cases h
 clear h
 have hk:1≤e.k∧e.k≤5:=by omega
 have ht:0≤e.t∧e.t≤16777216:=by omega
 have hb:e.k=5→1≤e.b∧e.b≤1048576∧1≤e.c∧e.c≤256:=by intro h5;omega
 refine⟨⟨⟨hk,h3.1,fun h=>?_,fun h=>?_,by omega,hb⟩,?_⟩,ht.1⟩
 ·have:=h3.2;rw[if_neg (by omega)]at this;exact this
 ·have:=h3.2;rw[if_pos h]at this;exact this
 ·split
  ·rename_i h5
   have:=hb h5
   have:(e.c-1)*1048576≤255*1048576:=Int.mul_le_mul_of_nonneg_right (by omega) (by omega)
   omega
  ·omega
theorem d2S {e:iO}(h:IJ C e):Fx e≤256:=by
 unfold Fx
 split
 ·rename_i h5;exact (h.b h5).2.2.2
 ·omega
theorem b7i (C:bw):iR (k0 C).ready=0:=by
 have:∀l:List cx,iR (l.map q0)=0:=by
  intro l
  induction l with
  |nil=>rfl
  |cons x l ih=>
   unfold iR at ih ⊢
   rw[List.map_cons,List.map_cons,List.sum_cons,ih];rfl
 exact this C.tasks
theorem e5g (hC:dE C):Wf C [] 0 (k0 C):=by
 have hx:=b7i C
 have hs:=hC.sets
 have hw:=hC.ways
 have hg:=hC.groups
 have mF:=hC.lines
 have h0:cM ([]:List iO)=0:=rfl
 have hd:depth C ([]:List dD)=0:=rfl
 refine⟨⟨Int.le_refl _,by show (0:Int)≤1000;omega⟩,.nil,⟨Int.le_refl _,fun x hx=>(by cases hx)⟩,fun x hx=>(by cases hx),fun x hx=>(by cases hx),?_,(show (0:Int)+(0+0)≤12000 by decide),?_,?_,⟨by show (C.tasks.map q0).length=_;simp,fun i y hy=>?_,fun i y hy=>?_,fun i y x hy hx=>?_,fun p hp=>(by cases hp),.nil,fun p hp=>(by cases hp)⟩,⟨⟨?_,?_,fun row hr=>?_⟩,by show (C.gi.map _).length=_;simp,⟨?_,fun x hx=>?_⟩,⟨by show (C.counts.map _).length=_;simp,fun x hx=>?_⟩,⟨by show (C.bP.map _).length=_;simp,fun i x hx=>?_⟩,?_⟩,⟨fun a ha=>(by cases ha),fun a ha=>(by cases ha),.nil,.nil,fun i x hx hh=>?_,by show depth C []≤0;rw[hd];omega⟩,⟨fun x hx=>(by cases hx),fun x hx=>(by cases hx),rfl,rfl,fun x hx=>(by cases hx),fun x hx=>(by cases hx)⟩⟩
 ·show cM []+cM []+iR (k0 C).ready≤12000;rw[hx,h0];omega
 ·show (0:Int)≤iR (k0 C).ready;rw[hx];omega
 ·show (0:Int)≤iR (k0 C).ready+4*0+0;rw[hx];omega
 ·have hy:(C.tasks.map q0)[i]? =some y:=hy
  rw[List.getElem?_map]at hy
  cases ht:C.tasks[i]? with
  |none=>rw[ht]at hy;cases hy
  |some t=>
   rw[ht]at hy
   cases hy
   refine⟨?_,Int.le_refl _,by show 0≤4;omega,fun x hx=>(by cases hx)⟩
   have hi:=(List.getElem?_eq_some_iff.1 ht).1
   have:=uG hi
   rw[ht]at this
   cases this
   rfl
 ·have hy:(C.tasks.map q0)[i]? =some y:=hy
  rw[List.getElem?_map]at hy
  cases ht:C.tasks[i]? with
  |none=>rw[ht]at hy;cases hy
  |some t=>
   rw[ht]at hy
   cases hy
   exact .nil
 ·have hy:(C.tasks.map q0)[i]? =some y:=hy
  rw[List.getElem?_map]at hy
  cases ht:C.tasks[i]? with
  |none=>rw[ht]at hy;cases hy
  |some t=>
   rw[ht]at hy
   cases hy
   cases hx
 ·show 1≤(List.replicate C.sets.toNat ([]:List Int)).length∧(List.replicate C.sets.toNat ([]:List Int)).length≤16
  rw[List.length_replicate];omega
 ·omega
 ·have hr:row=[]:=List.eq_of_mem_replicate hr
  subst hr
  exact⟨Nat.zero_le _,.nil⟩
 ·show ((List.replicate C.groups.toNat (0:Int)).length:Int)=_
  rw[List.length_replicate];omega
 ·have:x=0:=List.eq_of_mem_replicate hx
  omega
 ·obtain⟨z,hz,rfl⟩:=List.mem_map.1 hx
  have:=hC.Tm z hz
  exact⟨Int.le_refl _,by show 0≤z;omega,this.2⟩
 ·have hx:(C.bP.map fun z=>((z,0,false):LCei.Lk))[i]? =some x:=hx
  rw[List.getElem?_map]at hx
  cases hz:C.bP[i]? with
  |none=>rw[hz]at hx;cases hx
  |some z=>
   rw[hz]at hx
   cases hx
   rw[List.getD_eq_getElem?_getD,hz];rfl
 ·show (List.replicate (LLin.Bg C.lines.length) _).length=_
  rw[List.length_replicate]
  unfold LLin.Bg
  omega
 ·have hx:(C.bP.map fun z=>((z,0,false):LCei.Lk))[i]? =some x:=hx
  rw[List.getElem?_map]at hx
  cases hz:C.bP[i]? with
  |none=>rw[hz]at hx;cases hx
  |some z=>
   rw[hz]at hx
   cases hx
   cases hh
theorem I4 (_hC:dE C):∀(dN:List iO) (s:KS) (k:Int),0≤k→k+dN.length≤40→Wf C [] 0 s→s.now=0→(∀x∈s.ev,0≤x.e.t)→iR s.ready=0→cM (s.ev.map (·.e))≤256*k→s.ord≤k→
  Wf C [] 0 (dN.foldl (bK C) s)∧(dN.foldl (bK C) s).now=0∧∀x∈(dN.foldl (bK C) s).ev,0≤x.e.t
 |[],s,k,_,_,h,hn,ht,_,_,_=>⟨h,hn,ht⟩
 |e::dN,s,k,hk,hl,h,hn,ht,hx,hw,ho=>by
  rw[List.length_cons]at hl
  show Wf C [] 0 (dN.foldl (bK C) (bK C s e))∧(dN.foldl (bK C) (bK C s e)).now=0∧∀x∈(dN.foldl (bK C) (bK C s e)).ev,0≤x.e.t
  unfold bK
  by_cases he:Th C s e=0
  ·rw[if_pos he]
   obtain⟨hg,hte⟩:=b5s hn he
   have h1:=d2S hg.ok
   have h0:cM ([]:List iO)=0:=rfl
   have hp:=(gX (⟨e,s.ord⟩:dy) s.ev)
   have e1:cM ((oJ ⟨e,s.ord⟩ s.ev).map (·.e))=Fx e+cM (s.ev.map (·.e)):=by
    rw[AD (hp.map _)];unfold cM;simp
   refine I4 _hC dN (a7i s e) (k+1) (by omega) (by omega) (a7B h hg (by rw[h0,hx];omega) (by rw[h0];omega)) hn (fun x hx=>?_) hx (by show cM ((oJ _ s.ev).map _)≤_;rw[e1];omega) (by show s.ord+1≤k+1;omega)
   rcases List.mem_cons.1 (hp.mem_iff.1 hx) with rfl|hx
   ·exact hte
   ·exact ht x hx
  ·rw[if_neg he]
   exact I4 _hC dN s (k+1) (by omega) (by omega) h hn ht hx (by omega) (by omega)
theorem b5t (hc:eE C=0){dN:List iO}(hl:dN.length≤40){u:Int}(hu:0≤u∧u≤1000):a7u C dN u:=by
 have hC:=e4Z hc
 obtain⟨w,wn,wt⟩:=I4 hC dN (k0 C) 0 (by omega) (by omega) (e5g hC) rfl (fun x hx=>by cases hx) (b7i C) (show (0:Int)≤256*0 by decide) (Int.le_refl _)
 have hi:Tv C u (dN.foldl (bK C) (k0 C)):=⟨w,by rw[wn];exact wt,by rw[wn];omega⟩
 refine⟨⟨Tv C u,fun s h hlt=>KY hC hu.2 h hlt,hi⟩,?_⟩
 have hr:=a7I hC hu.2 u.toNat _ hi
 generalize kQ C u u.toNat (dN.foldl (bK C) (k0 C))=f at hr
 have h:=hr.1
 obtain⟨f1,f2,f3,f4,f5⟩:=h.yg
 have h1:=h.tr
 have h2:=h.now
 exact⟨h.rp.code,h.rp.lock,h.rp.task,h.rp.over,h.rp.count,h.rp.live,by omega,by omega,by have:=I0 hC h;omega⟩
end
end Go.Proofs.YtnpinhahjgbigaaGreatDoor
end
section
namespace Go.Proofs.YtnpinhahjgbigaaGreatDoor
open Go Go.Sb
theorem Co {h0:Hp}{y:oV}{ls:Sl}{dN:List QA}{u:Int}(o:y.ok h0)(hv:fK h0.size h0 QA.enc 5 ls dN)(_:∀x∈dN,x.ok h0)(hu:0≤u∧u≤65535):
  c7L y.machine.sets y.machine.ways y.machine.hit y.machine.bT y.fo y.groups y.counts y.gJ y.tasks y.lines ls u h0 (fun v h'=>v= .bool true∧ck h0.size h0 h'):=by
 obtain⟨M,cs,ce,T,L,ts,hc,hb⟩:=a8X o
 have hv:fK h0.size h0 LAgd.gp 5 ls (dN.map fun x=>(⟨x.at_,x.kind,x.a,x.b,x.c⟩:iO)):=JM (fun x=>rfl) hv
 exact Fa (c:=⟨⟨y.machine.sets,y.machine.ways,y.machine.hit,y.machine.bT,M,y.groups,cs,ce,T,L⟩,y.fo,y.counts,y.gJ,y.tasks,y.lines,ts⟩) hc hb hv hu (fun _ hk hl=>b5t hk hl (by omega))
end Go.Proofs.YtnpinhahjgbigaaGreatDoor
end
