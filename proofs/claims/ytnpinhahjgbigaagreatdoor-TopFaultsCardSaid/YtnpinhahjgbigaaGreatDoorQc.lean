/- What TopFaults stands on, part 3. Conditions: none. -/
import Derived.Test.YtnpinhahjgbigaaGreatDoorQb
set_option linter.unusedSimpArgs false
set_option linter.unusedVariables false
set_option linter.unusedSectionVars false
section
namespace Go.Proofs.YtnpinhahjgbigaaGreatDoor
open Go Go.Sb
section
variable {h0 h:Hp}{R L:List As}{C:bw}{sm sc se st sl:Sl}{ts:List (cx×Sl)}
def yf (C:bw):Bool:=C.tasks.all (fun t=>decide (t.ops.length≤80))&&decide (C.gi.length≤20)&&decide (C.counts.length≤20)&&decide (C.bP.length≤20)&&decide (C.tasks.length≤20)&&decide (C.lines.length≤20)
theorem d6H (hc:hU h0 C sm sc se st sl ts)(hb:(st.n:Int)≤9223372036854775807){c:Nat}:∀(d k:Nat) (h:Hp),k+d=ts.length→(C.tasks.take k).all (fun t=>decide (t.ops.length≤80))=true→Sep h0 h (aBlk c (cP C sm sc se st sl)::R)→
  a8O ⟨c,0,none⟩ st (st.n:Int) (k:Int) h (fun v h'=>v= .bool (yf C)∧Sep h0 h' R)
 |0,k,h,hk,ha,hs=>by
  have hn:=hc.rows.n
  obtain⟨n1,n2,n3,n4,n5,n6⟩:=hc.len
  rw[List.take_of_length_le (by omega)]at ha
  apply Szg
  unfold Bzg
  refine aA (by simp;omega) ?_
  have e:yf C=((((decide ((sm.n:Int)≤20)&&decide ((sc.n:Int)≤20))&&decide ((se.n:Int)≤20))&&decide ((st.n:Int)≤20))&&decide ((sl.n:Int)≤20)):=by
   unfold yf
   rw[ha,n1,n2,n3,n4,n5,Bool.eq_iff_iff]
   simp only[Bool.and_eq_true,decide_eq_true_eq,true_and]
   omega
  rw[e]
  clear e
  (refine Sep.bu hs 0 rfl rfl ?_;simp only[ay,Nat.zero_add,ae])
  cases decide ((sm.n:Int)≤20)
  ·(simp only[Bool.false_and,aj];rw[ak];simp only[aj];rw[ak];simp only[aj];rw[ak];simp only[aj];rw[ak]);exact⟨rfl,hs.drop⟩
  (simp only[Bool.true_and,aq];refine Sep.bu hs 0 rfl rfl ?_;rw[ak])
  cases decide ((sc.n:Int)≤20)
  ·(simp only[Bool.false_and,aj];rw[ak];simp only[aj];rw[ak];simp only[aj];rw[ak]);exact⟨rfl,hs.drop⟩
  (simp only[Bool.true_and,aq];refine Sep.bu hs 0 rfl rfl ?_;rw[ak])
  cases decide ((se.n:Int)≤20)
  ·(simp only[Bool.false_and,aj];rw[ak];simp only[aj];rw[ak]);exact⟨rfl,hs.drop⟩
  (simp only[Bool.true_and,aq];refine Sep.bu hs 0 rfl rfl ?_;rw[ak])
  cases decide ((st.n:Int)≤20)
  ·(simp only[Bool.false_and,aj];rw[ak]);exact⟨rfl,hs.drop⟩
  (simp only[Bool.true_and,aq];refine Sep.bu hs 0 rfl rfl ?_;rw[ak])
  exact⟨rfl,hs.drop⟩
 |d+1,k,h,hk,ha,hs=>by
  have ih:=d6H hc hb (c:=c) d (k+1)
  have hn:=hc.rows.n
  have eW:k<ts.length:=by omega
  have pG:=hc.ops _ (List.getElem_mem eW)
  have JL:=hc.at eW
  apply Szg
  unfold Bzg
  refine aM (by simp;omega) ?_
  refine hc.rows.ix hs eW fun a hA=>?_
  generalize ts[k]=p at hA pG JL ⊢
  (refine Arg.mG hA rfl ?_;refine Arg.aB hA rfl ?_;refine Arg.aB hA rfl ?_;refine Arg.aB hA rfl ?_;refine Arg.aB hA rfl ?_;refine Arg.aB hA rfl ?_;refine Arg.bu hA rfl ?_;(refine Sep.new hs fun nb h hs=>?_;try simp only[sz2]at hs);(refine Sep.st hs 0 rfl rfl rfl fun h hs=>?_;simp only[sz0,sz1]at hs);(refine Sep.st hs 0 rfl rfl rfl fun h hs=>?_;simp only[sz0,sz1]at hs);(refine Sep.st hs 0 rfl rfl rfl fun h hs=>?_;simp only[sz0,sz1]at hs);(refine Sep.st hs 0 rfl rfl rfl fun h hs=>?_;simp only[sz0,sz1]at hs);(refine Sep.st hs 0 rfl rfl rfl fun h hs=>?_;simp only[sz0,sz1]at hs);(refine Sep.st hs 0 rfl rfl rfl fun h hs=>?_;simp only[sz0,sz1]at hs);(refine Sep.st hs 0 rfl rfl rfl fun h hs=>?_;simp only[sz0,sz1]at hs);refine Sep.bu hs 0 rfl rfl ?_)
  have hpn:=pG.1.n
  refine aE (fun h1=>?_) (fun h1=>?_)
  ·have:yf C=false:=by
    have:C.tasks.all (fun t=>decide (t.ops.length≤80))=false:=by
     rw[List.all_eq_false]
     exact⟨p.1,List.mem_of_getElem? JL,by simp at h1;simp;omega⟩
    unfold yf
    rw[this];rfl
   rw[this]
   exact⟨rfl,hs.drop.drop⟩
  ·rw[dK k (by omega)]
   refine ih h (by omega) ?_ hs.drop
   obtain⟨q1,q2⟩:=List.getElem?_eq_some_iff.1 JL
   rw[List.take_succ_eq_append_getElem q1,List.all_append,ha,q2]
   simp at h1 ⊢
   omega
theorem d6I (hc:hU h0 C sm sc se st sl ts)(hb:(st.n:Int)≤9223372036854775807)(hs:Sep h0 h R):b7M C.sets C.ways C.hit C.bT sm C.groups sc se st sl h (fun v h'=>v= .bool (yf C)∧Sep h0 h' R):=by
 apply e7i
 unfold d6v
 refine Sep.new hs fun c h hs=>?_
 simp only[sz2]at hs
 have hs:Sep h0 h (aBlk c (cP C sm sc se st sl)::R):=hs
 (refine Sep.bu hs 0 rfl rfl ?_)
 exact d6H hc hb ts.length 0 h (Nat.zero_add _) rfl hs
end
end Go.Proofs.YtnpinhahjgbigaaGreatDoor
end
section
set_option maxRecDepth 100000
namespace Go.Proofs.YtnpinhahjgbigaaGreatDoor
open Go Go.Sb
structure gI where
 sets:Int
 ways:Int
 hit:Int
 bT:Int
def gI.enc (x:gI):List Value:=[.int .i64 x.sets,.int .i64 x.ways,.int .i64 x.hit,.int .i64 x.bT]
def gI.ok (_h:Hp)(x:gI):Prop:=(-9223372036854775808≤x.sets∧x.sets≤9223372036854775807)∧(-9223372036854775808≤x.ways∧x.ways≤9223372036854775807)∧(-9223372036854775808≤x.hit∧x.hit≤9223372036854775807)∧(-9223372036854775808≤x.bT∧x.bT≤9223372036854775807)
theorem gI.qU {h:Hp}{d:Nat}{cs:List Value}(hcs:eC Tryz.prog h (d+2) 23 cs):∃x:gI,cs=x.enc∧x.ok h:=by
 obtain⟨hlen,hf⟩:=eC.fields (l:=[(3,0),(3,1),(3,2),(3,3)]) (by kernel_rfl) hcs
 rw[show Tryz.prog.cellsOf 23=4 by kernel_rfl]at hlen
 obtain⟨c0,c1,c2,c3,rfl⟩:∃c0 c1 c2 c3,cs=[c0,c1,c2,c3]:=by
  match cs,hlen with
  |[c0,c1,c2,c3],_=>exact⟨c0,c1,c2,c3,rfl⟩
 have g0:=hf 0 3 0 rfl
 rw[show Tryz.prog.cellsOf 3=1 by kernel_rfl]at g0
 simp only[List.drop_succ_cons,List.drop_zero,List.take_succ_cons,List.take_zero]at g0
 obtain⟨n0,e0,l0,m0⟩:=eC.int (show Tryz.prog.underlying 3=some (.int .i64) by kernel_rfl) g0
 rw[show IntKind.i64.min= -9223372036854775808 by decide]at l0
 rw[show IntKind.i64.max=9223372036854775807 by decide]at m0
 simp only[List.cons.injEq,and_true]at e0
 have g1:=hf 1 3 1 rfl
 rw[show Tryz.prog.cellsOf 3=1 by kernel_rfl]at g1
 simp only[List.drop_succ_cons,List.drop_zero,List.take_succ_cons,List.take_zero]at g1
 obtain⟨n1,e1,l1,m1⟩:=eC.int (show Tryz.prog.underlying 3=some (.int .i64) by kernel_rfl) g1
 rw[show IntKind.i64.min= -9223372036854775808 by decide]at l1
 rw[show IntKind.i64.max=9223372036854775807 by decide]at m1
 simp only[List.cons.injEq,and_true]at e1
 have g2:=hf 2 3 2 rfl
 rw[show Tryz.prog.cellsOf 3=1 by kernel_rfl]at g2
 simp only[List.drop_succ_cons,List.drop_zero,List.take_succ_cons,List.take_zero]at g2
 obtain⟨n2,e2,l2,m2⟩:=eC.int (show Tryz.prog.underlying 3=some (.int .i64) by kernel_rfl) g2
 rw[show IntKind.i64.min= -9223372036854775808 by decide]at l2
 rw[show IntKind.i64.max=9223372036854775807 by decide]at m2
 simp only[List.cons.injEq,and_true]at e2
 have g3:=hf 3 3 3 rfl
 rw[show Tryz.prog.cellsOf 3=1 by kernel_rfl]at g3
 simp only[List.drop_succ_cons,List.drop_zero,List.take_succ_cons,List.take_zero]at g3
 obtain⟨n3,e3,l3,m3⟩:=eC.int (show Tryz.prog.underlying 3=some (.int .i64) by kernel_rfl) g3
 rw[show IntKind.i64.min= -9223372036854775808 by decide]at l3
 rw[show IntKind.i64.max=9223372036854775807 by decide]at m3
 simp only[List.cons.injEq,and_true]at e3
 exact⟨⟨n0,n1,n2,n3⟩,by simp[gI.enc,e0,e1,e2,e3],⟨l0,m0⟩,⟨l1,m1⟩,⟨l2,m2⟩,⟨l3,m3⟩⟩
structure XQ where
 kind:Int
 a:Int
 b:Int
def XQ.enc (x:XQ):List Value:=[.int .i64 x.kind,.int .i64 x.a,.int .i64 x.b]
def XQ.ok (_h:Hp)(x:XQ):Prop:=(-9223372036854775808≤x.kind∧x.kind≤9223372036854775807)∧(-9223372036854775808≤x.a∧x.a≤9223372036854775807)∧(-9223372036854775808≤x.b∧x.b≤9223372036854775807)
theorem XQ.qU {h:Hp}{d:Nat}{cs:List Value}(hcs:eC Tryz.prog h (d+2) 90 cs):∃x:XQ,cs=x.enc∧x.ok h:=by
 obtain⟨hlen,hf⟩:=eC.fields (l:=[(3,0),(3,1),(3,2)]) (by kernel_rfl) hcs
 rw[show Tryz.prog.cellsOf 90=3 by kernel_rfl]at hlen
 obtain⟨c0,c1,c2,rfl⟩:∃c0 c1 c2,cs=[c0,c1,c2]:=by
  match cs,hlen with
  |[c0,c1,c2],_=>exact⟨c0,c1,c2,rfl⟩
 have g0:=hf 0 3 0 rfl
 rw[show Tryz.prog.cellsOf 3=1 by kernel_rfl]at g0
 simp only[List.drop_succ_cons,List.drop_zero,List.take_succ_cons,List.take_zero]at g0
 obtain⟨n0,e0,l0,m0⟩:=eC.int (show Tryz.prog.underlying 3=some (.int .i64) by kernel_rfl) g0
 rw[show IntKind.i64.min= -9223372036854775808 by decide]at l0
 rw[show IntKind.i64.max=9223372036854775807 by decide]at m0
 simp only[List.cons.injEq,and_true]at e0
 have g1:=hf 1 3 1 rfl
 rw[show Tryz.prog.cellsOf 3=1 by kernel_rfl]at g1
 simp only[List.drop_succ_cons,List.drop_zero,List.take_succ_cons,List.take_zero]at g1
 obtain⟨n1,e1,l1,m1⟩:=eC.int (show Tryz.prog.underlying 3=some (.int .i64) by kernel_rfl) g1
 rw[show IntKind.i64.min= -9223372036854775808 by decide]at l1
 rw[show IntKind.i64.max=9223372036854775807 by decide]at m1
 simp only[List.cons.injEq,and_true]at e1
 have g2:=hf 2 3 2 rfl
 rw[show Tryz.prog.cellsOf 3=1 by kernel_rfl]at g2
 simp only[List.drop_succ_cons,List.drop_zero,List.take_succ_cons,List.take_zero]at g2
 obtain⟨n2,e2,l2,m2⟩:=eC.int (show Tryz.prog.underlying 3=some (.int .i64) by kernel_rfl) g2
 rw[show IntKind.i64.min= -9223372036854775808 by decide]at l2
 rw[show IntKind.i64.max=9223372036854775807 by decide]at m2
 simp only[List.cons.injEq,and_true]at e2
 exact⟨⟨n0,n1,n2⟩,by simp[XQ.enc,e0,e1,e2],⟨l0,m0⟩,⟨l1,m1⟩,⟨l2,m2⟩⟩
structure jr where
 priority:Int
 threshold:Int
 period:Int
 deadline:Int
 frame:Int
 float:Int
 program:Sl
def jr.enc (x:jr):List Value:=[.int .i64 x.priority,.int .i64 x.threshold,.int .i64 x.period,.int .i64 x.deadline,.int .i64 x.frame,.int .i64 x.float,.slice x.program.p x.program.n x.program.c]
def jr.ok (h:Hp)(x:jr):Prop:=(-9223372036854775808≤x.priority∧x.priority≤9223372036854775807)∧(-9223372036854775808≤x.threshold∧x.threshold≤9223372036854775807)∧(-9223372036854775808≤x.period∧x.period≤9223372036854775807)∧(-9223372036854775808≤x.deadline∧x.deadline≤9223372036854775807)∧(-9223372036854775808≤x.frame∧x.frame≤9223372036854775807)∧(-9223372036854775808≤x.float∧x.float≤9223372036854775807)∧((x.program.n:Int)≤9223372036854775807)∧(x.program.n≤x.program.c)∧(∃xs:List XQ,fK h.size h XQ.enc 3 x.program xs∧∀y∈xs,y.ok h)
theorem jr.qU {h:Hp}{d:Nat}{cs:List Value}(hcs:eC Tryz.prog h (d+4) 59 cs):∃x:jr,cs=x.enc∧x.ok h:=by
 obtain⟨hlen,hf⟩:=eC.fields (l:=[(3,0),(3,1),(3,2),(3,3),(3,4),(3,5),(57,6)]) (by kernel_rfl) hcs
 rw[show Tryz.prog.cellsOf 59=7 by kernel_rfl]at hlen
 obtain⟨c0,c1,c2,c3,c4,c5,c6,rfl⟩:∃c0 c1 c2 c3 c4 c5 c6,cs=[c0,c1,c2,c3,c4,c5,c6]:=by
  match cs,hlen with
  |[c0,c1,c2,c3,c4,c5,c6],_=>exact⟨c0,c1,c2,c3,c4,c5,c6,rfl⟩
 have g0:=hf 0 3 0 rfl
 rw[show Tryz.prog.cellsOf 3=1 by kernel_rfl]at g0
 simp only[List.drop_succ_cons,List.drop_zero,List.take_succ_cons,List.take_zero]at g0
 obtain⟨n0,e0,l0,m0⟩:=eC.int (show Tryz.prog.underlying 3=some (.int .i64) by kernel_rfl) g0
 rw[show IntKind.i64.min= -9223372036854775808 by decide]at l0
 rw[show IntKind.i64.max=9223372036854775807 by decide]at m0
 simp only[List.cons.injEq,and_true]at e0
 have g1:=hf 1 3 1 rfl
 rw[show Tryz.prog.cellsOf 3=1 by kernel_rfl]at g1
 simp only[List.drop_succ_cons,List.drop_zero,List.take_succ_cons,List.take_zero]at g1
 obtain⟨n1,e1,l1,m1⟩:=eC.int (show Tryz.prog.underlying 3=some (.int .i64) by kernel_rfl) g1
 rw[show IntKind.i64.min= -9223372036854775808 by decide]at l1
 rw[show IntKind.i64.max=9223372036854775807 by decide]at m1
 simp only[List.cons.injEq,and_true]at e1
 have g2:=hf 2 3 2 rfl
 rw[show Tryz.prog.cellsOf 3=1 by kernel_rfl]at g2
 simp only[List.drop_succ_cons,List.drop_zero,List.take_succ_cons,List.take_zero]at g2
 obtain⟨n2,e2,l2,m2⟩:=eC.int (show Tryz.prog.underlying 3=some (.int .i64) by kernel_rfl) g2
 rw[show IntKind.i64.min= -9223372036854775808 by decide]at l2
 rw[show IntKind.i64.max=9223372036854775807 by decide]at m2
 simp only[List.cons.injEq,and_true]at e2
 have g3:=hf 3 3 3 rfl
 rw[show Tryz.prog.cellsOf 3=1 by kernel_rfl]at g3
 simp only[List.drop_succ_cons,List.drop_zero,List.take_succ_cons,List.take_zero]at g3
 obtain⟨n3,e3,l3,m3⟩:=eC.int (show Tryz.prog.underlying 3=some (.int .i64) by kernel_rfl) g3
 rw[show IntKind.i64.min= -9223372036854775808 by decide]at l3
 rw[show IntKind.i64.max=9223372036854775807 by decide]at m3
 simp only[List.cons.injEq,and_true]at e3
 have g4:=hf 4 3 4 rfl
 rw[show Tryz.prog.cellsOf 3=1 by kernel_rfl]at g4
 simp only[List.drop_succ_cons,List.drop_zero,List.take_succ_cons,List.take_zero]at g4
 obtain⟨n4,e4,l4,m4⟩:=eC.int (show Tryz.prog.underlying 3=some (.int .i64) by kernel_rfl) g4
 rw[show IntKind.i64.min= -9223372036854775808 by decide]at l4
 rw[show IntKind.i64.max=9223372036854775807 by decide]at m4
 simp only[List.cons.injEq,and_true]at e4
 have g5:=hf 5 3 5 rfl
 rw[show Tryz.prog.cellsOf 3=1 by kernel_rfl]at g5
 simp only[List.drop_succ_cons,List.drop_zero,List.take_succ_cons,List.take_zero]at g5
 obtain⟨n5,e5,l5,m5⟩:=eC.int (show Tryz.prog.underlying 3=some (.int .i64) by kernel_rfl) g5
 rw[show IntKind.i64.min= -9223372036854775808 by decide]at l5
 rw[show IntKind.i64.max=9223372036854775807 by decide]at m5
 simp only[List.cons.injEq,and_true]at e5
 have g6:=hf 6 57 6 rfl
 rw[show Tryz.prog.cellsOf 57=1 by kernel_rfl]at g6
 simp only[List.drop_succ_cons,List.drop_zero,List.take_succ_cons,List.take_zero]at g6
 obtain⟨n6,e6⟩:=eC.slice (show Tryz.prog.underlying 57=some (.slice 90) by kernel_rfl) g6
 rw[e6]at g6
 simp only[List.cons.injEq,and_true]at e6
 exact⟨⟨n0,n1,n2,n3,n4,n5,n6⟩,by simp[jr.enc,e0,e1,e2,e3,e4,e5,e6],⟨l0,m0⟩,⟨l1,m1⟩,⟨l2,m2⟩,⟨l3,m3⟩,⟨l4,m4⟩,⟨l5,m5⟩,(eC.len (show Tryz.prog.underlying 57=some (.slice 90) by kernel_rfl) g6),(eC.cap (show Tryz.prog.underlying 57=some (.slice 90) by kernel_rfl) g6),(pE (t:=57) (e:=90) (by kernel_rfl) (by kernel_rfl) (by intro x;simp[XQ.enc]) (fun cs hcs=>XQ.qU hcs) g6)⟩
structure oV where
 machine:gI
 fo:Sl
 groups:Int
 counts:Sl
 gJ:Sl
 tasks:Sl
 lines:Sl
def oV.enc (x:oV):List Value:=[.int .i64 x.machine.sets,.int .i64 x.machine.ways,.int .i64 x.machine.hit,.int .i64 x.machine.bT,.slice x.fo.p x.fo.n x.fo.c,.int .i64 x.groups,.slice x.counts.p x.counts.n x.counts.c,.slice x.gJ.p x.gJ.n x.gJ.c,.slice x.tasks.p x.tasks.n x.tasks.c,.slice x.lines.p x.lines.n x.lines.c]
def oV.ok (h:Hp)(x:oV):Prop:=x.machine.ok h∧((x.fo.n:Int)≤9223372036854775807)∧(x.fo.n≤x.fo.c)∧(∃zs,mr h.size h .i64 x.fo zs)∧(-9223372036854775808≤x.groups∧x.groups≤9223372036854775807)∧((x.counts.n:Int)≤9223372036854775807)∧(x.counts.n≤x.counts.c)∧(∃zs,mr h.size h .i64 x.counts zs)∧((x.gJ.n:Int)≤9223372036854775807)∧(x.gJ.n≤x.gJ.c)∧(∃zs,mr h.size h .i64 x.gJ zs)∧((x.tasks.n:Int)≤9223372036854775807)∧(x.tasks.n≤x.tasks.c)∧(∃xs:List jr,fK h.size h jr.enc 7 x.tasks xs∧∀y∈xs,y.ok h)∧((x.lines.n:Int)≤9223372036854775807)∧(x.lines.n≤x.lines.c)∧(∃zs,mr h.size h .i64 x.lines zs)
theorem oV.qU {h:Hp}{d:Nat}{cs:List Value}(hcs:eC Tryz.prog h (d+6) 27 cs):∃x:oV,cs=x.enc∧x.ok h:=by
 obtain⟨hlen,hf⟩:=eC.fields (l:=[(23,0),(24,4),(3,5),(24,6),(24,7),(25,8),(24,9)]) (by kernel_rfl) hcs
 rw[show Tryz.prog.cellsOf 27=10 by kernel_rfl]at hlen
 obtain⟨c0,c1,c2,c3,c4,c5,c6,c7,c8,c9,rfl⟩:∃c0 c1 c2 c3 c4 c5 c6 c7 c8 c9,cs=[c0,c1,c2,c3,c4,c5,c6,c7,c8,c9]:=by
  match cs,hlen with
  |[c0,c1,c2,c3,c4,c5,c6,c7,c8,c9],_=>exact⟨c0,c1,c2,c3,c4,c5,c6,c7,c8,c9,rfl⟩
 have g0:=hf 0 23 0 rfl
 rw[show Tryz.prog.cellsOf 23=4 by kernel_rfl]at g0
 simp only[List.drop_succ_cons,List.drop_zero,List.take_succ_cons,List.take_zero]at g0
 obtain⟨n0,e0,o0⟩:=gI.qU g0
 simp only[gI.enc,List.cons.injEq,and_true]at e0
 obtain⟨DF,DG,DH,e7o⟩:=e0
 have g1:=hf 1 24 4 rfl
 rw[show Tryz.prog.cellsOf 24=1 by kernel_rfl]at g1
 simp only[List.drop_succ_cons,List.drop_zero,List.take_succ_cons,List.take_zero]at g1
 obtain⟨n1,e1⟩:=eC.slice (show Tryz.prog.underlying 24=some (.slice 3) by kernel_rfl) g1
 rw[e1]at g1
 simp only[List.cons.injEq,and_true]at e1
 have g2:=hf 2 3 5 rfl
 rw[show Tryz.prog.cellsOf 3=1 by kernel_rfl]at g2
 simp only[List.drop_succ_cons,List.drop_zero,List.take_succ_cons,List.take_zero]at g2
 obtain⟨n2,e2,l2,m2⟩:=eC.int (show Tryz.prog.underlying 3=some (.int .i64) by kernel_rfl) g2
 rw[show IntKind.i64.min= -9223372036854775808 by decide]at l2
 rw[show IntKind.i64.max=9223372036854775807 by decide]at m2
 simp only[List.cons.injEq,and_true]at e2
 have g3:=hf 3 24 6 rfl
 rw[show Tryz.prog.cellsOf 24=1 by kernel_rfl]at g3
 simp only[List.drop_succ_cons,List.drop_zero,List.take_succ_cons,List.take_zero]at g3
 obtain⟨n3,e3⟩:=eC.slice (show Tryz.prog.underlying 24=some (.slice 3) by kernel_rfl) g3
 rw[e3]at g3
 simp only[List.cons.injEq,and_true]at e3
 have g4:=hf 4 24 7 rfl
 rw[show Tryz.prog.cellsOf 24=1 by kernel_rfl]at g4
 simp only[List.drop_succ_cons,List.drop_zero,List.take_succ_cons,List.take_zero]at g4
 obtain⟨n4,e4⟩:=eC.slice (show Tryz.prog.underlying 24=some (.slice 3) by kernel_rfl) g4
 rw[e4]at g4
 simp only[List.cons.injEq,and_true]at e4
 have g5:=hf 5 25 8 rfl
 rw[show Tryz.prog.cellsOf 25=1 by kernel_rfl]at g5
 simp only[List.drop_succ_cons,List.drop_zero,List.take_succ_cons,List.take_zero]at g5
 obtain⟨n5,e5⟩:=eC.slice (show Tryz.prog.underlying 25=some (.slice 59) by kernel_rfl) g5
 rw[e5]at g5
 simp only[List.cons.injEq,and_true]at e5
 have g6:=hf 6 24 9 rfl
 rw[show Tryz.prog.cellsOf 24=1 by kernel_rfl]at g6
 simp only[List.drop_succ_cons,List.drop_zero,List.take_succ_cons,List.take_zero]at g6
 obtain⟨n6,e6⟩:=eC.slice (show Tryz.prog.underlying 24=some (.slice 3) by kernel_rfl) g6
 rw[e6]at g6
 simp only[List.cons.injEq,and_true]at e6
 exact⟨⟨n0,n1,n2,n3,n4,n5,n6⟩,by simp[oV.enc,DF,DG,DH,e7o,e1,e2,e3,e4,e5,e6],o0,(eC.len (show Tryz.prog.underlying 24=some (.slice 3) by kernel_rfl) g1),(eC.cap (show Tryz.prog.underlying 24=some (.slice 3) by kernel_rfl) g1),(qI (t:=24) (e:=3) (by kernel_rfl) (by kernel_rfl) (by kernel_rfl) g1),⟨l2,m2⟩,(eC.len (show Tryz.prog.underlying 24=some (.slice 3) by kernel_rfl) g3),(eC.cap (show Tryz.prog.underlying 24=some (.slice 3) by kernel_rfl) g3),(qI (t:=24) (e:=3) (by kernel_rfl) (by kernel_rfl) (by kernel_rfl) g3),(eC.len (show Tryz.prog.underlying 24=some (.slice 3) by kernel_rfl) g4),(eC.cap (show Tryz.prog.underlying 24=some (.slice 3) by kernel_rfl) g4),(qI (t:=24) (e:=3) (by kernel_rfl) (by kernel_rfl) (by kernel_rfl) g4),(eC.len (show Tryz.prog.underlying 25=some (.slice 59) by kernel_rfl) g5),(eC.cap (show Tryz.prog.underlying 25=some (.slice 59) by kernel_rfl) g5),(pE (t:=25) (e:=59) (by kernel_rfl) (by kernel_rfl) (by intro x;simp[jr.enc]) (fun cs hcs=>jr.qU hcs) g5),(eC.len (show Tryz.prog.underlying 24=some (.slice 3) by kernel_rfl) g6),(eC.cap (show Tryz.prog.underlying 24=some (.slice 3) by kernel_rfl) g6),(qI (t:=24) (e:=3) (by kernel_rfl) (by kernel_rfl) (by kernel_rfl) g6)⟩
structure QA where
 at_:Int
 kind:Int
 a:Int
 b:Int
 c:Int
def QA.enc (x:QA):List Value:=[.int .i64 x.at_,.int .i64 x.kind,.int .i64 x.a,.int .i64 x.b,.int .i64 x.c]
def QA.ok (_h:Hp)(x:QA):Prop:=(-9223372036854775808≤x.at_∧x.at_≤9223372036854775807)∧(-9223372036854775808≤x.kind∧x.kind≤9223372036854775807)∧(-9223372036854775808≤x.a∧x.a≤9223372036854775807)∧(-9223372036854775808≤x.b∧x.b≤9223372036854775807)∧(-9223372036854775808≤x.c∧x.c≤9223372036854775807)
theorem QA.qU {h:Hp}{d:Nat}{cs:List Value}(hcs:eC Tryz.prog h (d+2) 47 cs):∃x:QA,cs=x.enc∧x.ok h:=by
 obtain⟨hlen,hf⟩:=eC.fields (l:=[(3,0),(3,1),(3,2),(3,3),(3,4)]) (by kernel_rfl) hcs
 rw[show Tryz.prog.cellsOf 47=5 by kernel_rfl]at hlen
 obtain⟨c0,c1,c2,c3,c4,rfl⟩:∃c0 c1 c2 c3 c4,cs=[c0,c1,c2,c3,c4]:=by
  match cs,hlen with
  |[c0,c1,c2,c3,c4],_=>exact⟨c0,c1,c2,c3,c4,rfl⟩
 have g0:=hf 0 3 0 rfl
 rw[show Tryz.prog.cellsOf 3=1 by kernel_rfl]at g0
 simp only[List.drop_succ_cons,List.drop_zero,List.take_succ_cons,List.take_zero]at g0
 obtain⟨n0,e0,l0,m0⟩:=eC.int (show Tryz.prog.underlying 3=some (.int .i64) by kernel_rfl) g0
 rw[show IntKind.i64.min= -9223372036854775808 by decide]at l0
 rw[show IntKind.i64.max=9223372036854775807 by decide]at m0
 simp only[List.cons.injEq,and_true]at e0
 have g1:=hf 1 3 1 rfl
 rw[show Tryz.prog.cellsOf 3=1 by kernel_rfl]at g1
 simp only[List.drop_succ_cons,List.drop_zero,List.take_succ_cons,List.take_zero]at g1
 obtain⟨n1,e1,l1,m1⟩:=eC.int (show Tryz.prog.underlying 3=some (.int .i64) by kernel_rfl) g1
 rw[show IntKind.i64.min= -9223372036854775808 by decide]at l1
 rw[show IntKind.i64.max=9223372036854775807 by decide]at m1
 simp only[List.cons.injEq,and_true]at e1
 have g2:=hf 2 3 2 rfl
 rw[show Tryz.prog.cellsOf 3=1 by kernel_rfl]at g2
 simp only[List.drop_succ_cons,List.drop_zero,List.take_succ_cons,List.take_zero]at g2
 obtain⟨n2,e2,l2,m2⟩:=eC.int (show Tryz.prog.underlying 3=some (.int .i64) by kernel_rfl) g2
 rw[show IntKind.i64.min= -9223372036854775808 by decide]at l2
 rw[show IntKind.i64.max=9223372036854775807 by decide]at m2
 simp only[List.cons.injEq,and_true]at e2
 have g3:=hf 3 3 3 rfl
 rw[show Tryz.prog.cellsOf 3=1 by kernel_rfl]at g3
 simp only[List.drop_succ_cons,List.drop_zero,List.take_succ_cons,List.take_zero]at g3
 obtain⟨n3,e3,l3,m3⟩:=eC.int (show Tryz.prog.underlying 3=some (.int .i64) by kernel_rfl) g3
 rw[show IntKind.i64.min= -9223372036854775808 by decide]at l3
 rw[show IntKind.i64.max=9223372036854775807 by decide]at m3
 simp only[List.cons.injEq,and_true]at e3
 have g4:=hf 4 3 4 rfl
 rw[show Tryz.prog.cellsOf 3=1 by kernel_rfl]at g4
 simp only[List.drop_succ_cons,List.drop_zero,List.take_succ_cons,List.take_zero]at g4
 obtain⟨n4,e4,l4,m4⟩:=eC.int (show Tryz.prog.underlying 3=some (.int .i64) by kernel_rfl) g4
 rw[show IntKind.i64.min= -9223372036854775808 by decide]at l4
 rw[show IntKind.i64.max=9223372036854775807 by decide]at m4
 simp only[List.cons.injEq,and_true]at e4
 exact⟨⟨n0,n1,n2,n3,n4⟩,by simp[QA.enc,e0,e1,e2,e3,e4],⟨l0,m0⟩,⟨l1,m1⟩,⟨l2,m2⟩,⟨l3,m3⟩,⟨l4,m4⟩⟩
theorem a8W {h:Hp}{a:Option Addr}{len cap:Nat}(hr:eC Tryz.prog h 12 28 [.slice a len cap]):∃xs:List QA,fK h.size h QA.enc 5 ⟨a,len,cap⟩ xs∧∀x∈xs,x.ok h:=
 pE (e:=47) (d:=11) (by kernel_rfl) (by kernel_rfl) (by intro x;simp[QA.enc]) (fun cs hcs=>QA.qU hcs) hr
end Go.Proofs.YtnpinhahjgbigaaGreatDoor
end
section
namespace Go.Proofs.YtnpinhahjgbigaaGreatDoor
open Go Go.Sb
section
variable {h:Hp}
theorem JM {X Y:Type}{enc:X→List Value}{enc':Y→List Value}{sz:Nat}{s:Sl}{xs:List X}{f:X→Y}(hf:∀x,enc' (f x)=enc x){B:Nat}(hr:fK B h enc sz s xs):fK B h enc' sz s (xs.map f):=by
 refine⟨by rw[List.length_map];exact hr.n,fun i x hx=>?_⟩
 rw[List.getElem?_map]at hx
 cases hq:xs[i]? with
 |none=>rw[hq]at hx;cases hx
 |some y=>
  rw[hq]at hx
  simp only[Option.map_some,Option.some.injEq]at hx
  subst hx
  obtain⟨a,h1,h2,h3⟩:=hr.at_ i y hq
  exact⟨a,h1,h2,fun j v hv=>h3 j v (by rw[hf]at hv;exact hv)⟩
theorem XR {X Y:Type}{enc:X→List Value}{enc':Y→List Value}{sz:Nat}{s:Sl}{xs:List X}{ys:List Y}(hl:ys.length=xs.length)(hf:∀(i:Nat) (x:X) (y:Y),xs[i]? =some x→ys[i]? =some y→enc' y=enc x){B:Nat}(hr:fK B h enc sz s xs):fK B h enc' sz s ys:=by
 refine⟨by rw[hl];exact hr.n,fun i y hy=>?_⟩
 have hi:=(List.getElem?_eq_some_iff.1 hy).1
 have hq:=List.getElem?_eq_getElem (show i<xs.length by omega)
 obtain⟨a,h1,h2,h3⟩:=hr.at_ i _ hq
 exact⟨a,h1,h2,fun j v hv=>h3 j v (by rw[hf i _ y hq hy]at hv;exact hv)⟩
theorem DI:∀xs:List jr,(∀y∈xs,y.ok h)→∃ts:List (cx×Sl),ts.length=xs.length∧(∀(i:Nat) (x:jr) (y:cx×Sl),xs[i]? =some x→ts[i]? =some y→lO y=x.enc)∧∀p∈ts,fK h.size h dM 3 p.2 p.1.ops∧p.2.n≤p.2.c
 |[],_=>⟨[],rfl,fun i x y hx=>by simp at hx,fun p hp=>by cases hp⟩
 |x::xs,hx=>by
  obtain⟨ts,h1,h2,h3⟩:=DI xs fun y hy=>hx y (by simp[hy])
  obtain⟨_,_,_,_,_,_,_,hcap,zs,hz,_⟩:=hx x (by simp)
  refine⟨(⟨x.priority,x.threshold,x.period,x.deadline,x.frame,x.float,zs.map fun o=>⟨o.kind,o.a,o.b⟩⟩,x.program)::ts,by simp[h1],fun i a b ha hb=>?_,fun p hp=>?_⟩
  ·cases i with
   |zero=>
    simp only[List.getElem?_cons_zero,Option.some.injEq]at ha hb
    subst ha hb
    rfl
   |succ i=>
    simp only[List.getElem?_cons_succ]at ha hb
    exact h2 i a b ha hb
  ·rcases List.mem_cons.1 hp with rfl|hp
   ·exact⟨JM (fun o=>rfl) hz,hcap⟩
   ·exact h3 p hp
theorem a8X {y:oV}(o:y.ok h):∃M cs ce T L ts,hU h ⟨y.machine.sets,y.machine.ways,y.machine.hit,y.machine.bT,M,y.groups,cs,ce,T,L⟩ y.fo y.counts y.gJ y.tasks y.lines ts∧(y.tasks.n:Int)≤9223372036854775807:=by
 obtain⟨_,_,_,⟨M,hM⟩,_,_,_,⟨cs,hcs⟩,_,_,⟨ce,hce⟩,Ue,htc,⟨xs,hxs,hok⟩,_,_,⟨L,hL⟩⟩:=o
 obtain⟨ts,h1,h2,h3⟩:=DI xs hok
 exact⟨M,cs,ce,ts.map (·.1),L,ts,⟨hM,hcs,hce,hL,XR h1 h2 hxs,htc,rfl,h3⟩,Ue⟩
end
end Go.Proofs.YtnpinhahjgbigaaGreatDoor
end
section
set_option maxRecDepth 100000
namespace Go.Proofs.YtnpinhahjgbigaaGreatDoor
open Go Go.Sb
def c4B (g h i j:Int)(a:Sl)(k:Int)(b d e f:Sl):M Value:=Nf Tryz.prog 73 #[.agg #[.int .i64 g,.int .i64 h,.int .i64 i,.int .i64 j,.slice a.p a.n a.c,.int .i64 k,.slice b.p b.n b.c,.slice d.p d.n d.c,.slice e.p e.n e.c,.slice f.p f.n f.c]]
def c4C (a:Option Addr):M Value:=Nf Tryz.prog 216 #[.pointer a]
def XS (c:Option Addr)(b a:Int):M Value:=Nf Tryz.prog 211 #[.pointer c,.int .i64 b,.int .i64 a]
def a8Y (a:Option Addr):M Value:=Nf Tryz.prog 151 #[.pointer a]
def c4D (a:Sl):M Value:=Nf Tryz.prog 141 #[.slice a.p a.n a.c]
def Nzj (a:Int):M Value:=Nf Tryz.prog 142 #[.int .i64 a]
def Nzy (b:Option Addr)(a:Int):M Value:=Nf Tryz.prog 214 #[.pointer b,.int .i64 a]
def c4E (a:Option Addr):M Value:=Nf Tryz.prog 280 #[.pointer a]
def a8Z (a:Option Addr):M Value:=Nf Tryz.prog 278 #[.pointer a]
def c4F (b:Option Addr)(a:Int):M Value:=Nf Tryz.prog 281 #[.pointer b,.int .i64 a]
def Nzz (d:Option Addr)(a b c:Int):M Value:=Nf Tryz.prog 275 #[.pointer d,.agg #[.int .i64 a,.int .i64 b,.int .i64 c]]
def Nzn (b:Option Addr)(a:Int):M Value:=Nf Tryz.prog 208 #[.pointer b,.int .i64 a]
def c4G (a:Option Addr):M Value:=Nf Tryz.prog 213 #[.pointer a]
def a9a (a:Option Addr):M Value:=Nf Tryz.prog 215 #[.pointer a]
def XT (b:Option Addr)(a:Int):M Value:=Nf Tryz.prog 279 #[.pointer b,.int .i64 a]
def a9b (b:Option Addr)(a:Int):M Value:=Nf Tryz.prog 274 #[.pointer b,.int .i64 a]
def a9c (b:Option Addr)(a:Int):M Value:=Nf Tryz.prog 273 #[.pointer b,.int .i64 a]
def d6J (a:Int):M Value:=Nf Tryz.prog 277 #[.int .u64 a]
def c4H (a:Int):M Value:=Nf Tryz.prog 314 #[.int .u64 a]
def a9d (b:Addr)(a:Sl)(d e:Int):M Value:=Cut Tryz.prog 73 (aQ Tryz.f73 6) (bf [(5,.pointer (some b)),(18,.slice a.p a.n a.c),(19,.int .i64 d),(20,.int .i64 e)] 47 0)
def Kz7 (d:Addr)(b:Int)(g:Addr)(a:Sl)(e f:Int):M Value:=Cut Tryz.prog 73 (aQ Tryz.f73 9) (bf [(5,.pointer (some d)),(6,.int .i64 b),(7,.pointer (some g)),(18,.slice a.p a.n a.c),(19,.int .i64 e),(20,.int .i64 f)] 47 0)
def d6K (l m o q:Int)(b:Sl)(r:Int)(d e f g:Sl):M Value:=
 aJ #[.int .i64 l,.int .i64 m,.int .i64 o,.int .i64 q,.slice b.p b.n b.c,.int .i64 r,.slice d.p d.n d.c,.slice e.p e.n e.c,.slice f.p f.n f.c,.slice g.p g.n g.c] 27 fun a=>
 ab .i64 a fun E=>
 ab .i64 (a.add 1) fun D=>
 ab .i64 (a.add 2) fun j=>
 ab .i64 (a.add 3) fun k=>
 aw (a.add 4) fun t=>
 ab .i64 (a.add 5) fun u=>
 aw (a.add 6) fun v=>
 aw (a.add 7) fun w=>
 aw (a.add 8) fun x=>
 aw (a.add 9) fun y=>
 ai (b7z E D j k t u v w x y) fun C=>
 aP .i64 C fun i=>
 aI (i != 0) (
 af (.tuple #[.pointer none,.int .i64 i])) (
 mv fun z=>
 ai (c4D (Sl.mk none 0 0)) fun B=>
 gx B fun A=>
 aJ #[.slice none (0) (0),.map (some z),.pointer A] 221 fun s=>
 aw (a.add 8) fun h=>
 a9d s h (h.n:Int) 0)
def Bzh (a:Addr)(e:Sl)(f d:Int):M Value:=
 aI (decide (d<f)) (
 bd e d 7 fun g=>
 ab .i64 g fun X=>
 ab .i64 (g.add 1) fun Y=>
 ab .i64 (g.add 2) fun ad=>
 ab .i64 (g.add 3) fun y=>
 ab .i64 (g.add 4) fun x=>
 ab .i64 (g.add 5) fun z=>
 aw (g.add 6) fun r=>
 aJ #[.int .i64 0,.int .i64 0,.int .i64 0,.int .i64 0,.int .i64 0,.int .i64 0,.slice none (0) (0)] 59 fun b=>
 an b (.int .i64 X) <|
 an (b.add 1) (.int .i64 Y) <|
 an (b.add 2) (.int .i64 ad) <|
 an (b.add 3) (.int .i64 y) <|
 an (b.add 4) (.int .i64 x) <|
 an (b.add 5) (.int .i64 z) <|
 an (b.add 6) (.slice r.p r.n r.c) <|
 aG (
 aw a fun u=>
 aG (
 ab .i64 b fun A=>
 ai (Nzj 4) fun B=>
 gx B fun C=>
 aJ #[.int .i64 A,.int .i64 0,.pointer C] 227 fun D=>
 bU 227 3 24 #[.int .i64 0,.int .i64 0,.pointer none] u ⟨(some D),1,1⟩ fun h=>
 an a (.slice h.p h.n h.c) <|
 Kz7 a d b e f d) (
 ai (Nzj 4) fun E=>
 gx E fun F=>
 ab .i64 b fun G=>
 aJ #[.int .i64 G,.int .i64 0,.pointer F] 227 fun H=>
 bU 227 3 24 #[.int .i64 0,.int .i64 0,.pointer none] u ⟨(some H),1,1⟩ fun s=>
 an a (.slice s.p s.n s.c) <|
 Kz7 a d b e f d)) (
 aG (
 ab .i64 b fun i=>
 aG (
 aw a fun I=>
 ai (Nzj 4) fun J=>
 gx J fun K=>
 aJ #[.int .i64 i,.int .i64 0,.pointer K] 227 fun L=>
 bU 227 3 24 #[.int .i64 0,.int .i64 0,.pointer none] I ⟨(some L),1,1⟩ fun j=>
 an a (.slice j.p j.n j.c) <|
 Kz7 a d b e f d) (
 ai (Nzj 4) fun N=>
 gx N fun v=>
 aG (
 aw a fun O=>
 aJ #[.int .i64 i,.int .i64 0,.pointer v] 227 fun P=>
 bU 227 3 24 #[.int .i64 0,.int .i64 0,.pointer none] O ⟨(some P),1,1⟩ fun k=>
 an a (.slice k.p k.n k.c) <|
 Kz7 a d b e f d) (
 aJ #[.int .i64 i,.int .i64 0,.pointer v] 227 fun Q=>
 aw a fun R=>
 bU 227 3 24 #[.int .i64 0,.int .i64 0,.pointer none] R ⟨(some Q),1,1⟩ fun l=>
 an a (.slice l.p l.n l.c) <|
 Kz7 a d b e f d))) (
 ai (Nzj 4) fun Z=>
 gx Z fun q=>
 aG (
 aw a fun S=>
 ab .i64 b fun T=>
 aJ #[.int .i64 T,.int .i64 0,.pointer q] 227 fun U=>
 bU 227 3 24 #[.int .i64 0,.int .i64 0,.pointer none] S ⟨(some U),1,1⟩ fun m=>
 an a (.slice m.p m.n m.c) <|
 Kz7 a d b e f d) (
 ab .i64 b fun w=>
 aG (
 aw a fun V=>
 aJ #[.int .i64 w,.int .i64 0,.pointer q] 227 fun W=>
 bU 227 3 24 #[.int .i64 0,.int .i64 0,.pointer none] V ⟨(some W),1,1⟩ fun t=>
 an a (.slice t.p t.n t.c) <|
 Kz7 a d b e f d) (
 aJ #[.int .i64 w,.int .i64 0,.pointer q] 227 fun ac=>
 aw a fun aa=>
 bU 227 3 24 #[.int .i64 0,.int .i64 0,.pointer none] aa ⟨(some ac),1,1⟩ fun o=>
 an a (.slice o.p o.n o.c) <|
 Kz7 a d b e f d))))) (
 af (.tuple #[.pointer (some a),.int .i64 0]))
def d6L (a:Addr)(c:Int)(h:Addr)(e:Sl)(f g:Int):M Value:=
 uJ (a.add 1) fun b=>
 ab .i64 h fun i=>
 gT b fun d=>
 gb .i64 d i (.int .i64 c) <|
 a9d a e f (IntKind.i64.wrap (g+(1:Int)))
theorem e7v (bE bF bG bH aV bI aW aX aY aZ){h Q}:d6K bE bF bG bH aV bI aW aX aY aZ h Q→c4B bE bF bG bH aV bI aW aX aY aZ h Q:=Nf.bh Tryz.call73 Tryz.func73 rfl mixed (cuts:=[(6,[5,18,19,20]),(9,[5,6,7,18,19,20])]) (dm:=[(8,[]),(9,[0,1,2,3,4,5,6])]) (by kernel_rfl)
theorem Szh (r5 t18 t19 t20){h Q}:Bzh r5 t18 t19 t20 h Q→a9d r5 t18 t19 t20 h Q:=Cut.bh Tryz.func73 mixed (cuts:=[(6,[5,18,19,20]),(9,[5,6,7,18,19,20])]) (dm:=[(8,[]),(9,[0,1,2,3,4,5,6])]) (by kernel_rfl)
theorem e7w (r5 i6 t7 t18 t19 t20){h Q}:d6L r5 i6 t7 t18 t19 t20 h Q→Kz7 r5 i6 t7 t18 t19 t20 h Q:=Cut.bh Tryz.func73 mixed (cuts:=[(6,[5,18,19,20]),(9,[5,6,7,18,19,20])]) (dm:=[(8,[]),(9,[0,1,2,3,4,5,6])]) (by kernel_rfl)
def d6M (c:Option Addr):M Value:=
 aJ #[.int .i64 0,.int .i64 0,.int .i64 0] 225 fun a=>
 ai (a8Y c) fun e=>
 tM e fun Z=>
 bB Z fun K L=>
 kg K fun I=>
 bB I fun t u=>
 aP .i64 t fun v=>
 bB u fun w x=>
 aP .i64 w fun y=>
 bB x fun z A=>
 aP .i64 z fun B=>
 fO A <|
 bB L fun N O=>
 aP .i64 N fun ao=>
 bB O fun P Q=>
 da P fun ap=>
 fO Q <|
 aJ #[.int .i64 0,.int .i64 0,.int .i64 0] 225 fun b=>
 an b (.int .i64 v) <|
 an (b.add 1) (.int .i64 y) <|
 an (b.add 2) (.int .i64 B) <|
 aI (!ap) (
 an a (.int .i64 0) <|
 an (a.add 1) (.int .i64 0) <|
 an (a.add 2) (.int .i64 0) <|
 ab .i64 a fun q=>
 ab .i64 (a.add 1) fun r=>
 ab .i64 (a.add 2) fun j=>
 af (.tuple #[.agg #[.int .i64 q,.int .i64 r,.int .i64 j],.bool false])) (
 ab .i64 b fun ac=>
 ai (Nzy c ac) fun aj=>
 gx aj fun d=>
 ax d fun ad=>
 bz (ad.add 2) fun ae=>
 ai (c4E ae) fun g=>
 tM g fun aa=>
 bB aa fun R S=>
 kg R fun J=>
 bB J fun C D=>
 aP .i64 C fun ar=>
 bB D fun E F=>
 aP .i64 E fun au=>
 bB F fun G H=>
 aP .i64 G fun av=>
 fO H <|
 bB S fun T U=>
 aP .i64 T fun aq=>
 fO U <|
 ax d fun f=>
 bz (f.add 2) fun am=>
 ai (a8Z am) fun ak=>
 aP .i64 ak fun ag=>
 aI (ag == 0) (
 ax c fun s=>
 bz (s.add 2) fun ah=>
 ai (c4F ah ao) fun al=>
 da al fun aw=>
 ab .i64 b fun V=>
 ab .i64 (b.add 1) fun W=>
 ab .i64 (b.add 2) fun X=>
 an a (.int .i64 V) <|
 an (a.add 1) (.int .i64 W) <|
 an (a.add 2) (.int .i64 X) <|
 ab .i64 a fun k=>
 ab .i64 (a.add 1) fun l=>
 ab .i64 (a.add 2) fun m=>
 af (.tuple #[.agg #[.int .i64 k,.int .i64 l,.int .i64 m],.bool true])) (
 ab .i64 b fun n=>
 ab .i64 (b.add 1) fun o=>
 ab .i64 (b.add 2) fun p=>
 an a (.int .i64 n) <|
 an (a.add 1) (.int .i64 o) <|
 an (a.add 2) (.int .i64 p) <|
 ab .i64 a fun h=>
 ab .i64 (a.add 1) fun i=>
 ab .i64 (a.add 2) fun Y=>
 af (.tuple #[.agg #[.int .i64 h,.int .i64 i,.int .i64 Y],.bool true])))
theorem e7A (r0){h Q}:d6M r0 h Q→c4C r0 h Q:=Nf.bh Tryz.call216 Tryz.func216 rfl mixed (cuts:=[]) (dm:=[]) (by kernel_rfl)
def Kzz (d:Option Addr)(e:Addr)(c:Option Addr)(b:Addr)(a:Int):M Value:=Cut Tryz.prog 211 (aQ Tryz.f211 9) (bf [(0,.pointer d),(6,.pointer (some e)),(8,.pointer c),(9,.pointer (some b)),(10,.int .i64 a)] 55 0)
def d7e (d:Option Addr)(f h:Int):M Value:=
 aJ #[.int .i64 0,.int .i64 0,.int .i64 0] 225 fun a=>
 ai (Nzy d f) fun k=>
 gx k fun c=>
 aI d.isNone (
 an a (.int .i64 0) <|
 an (a.add 1) (.int .i64 0) <|
 an (a.add 2) (.int .i64 0) <|
 ab .i64 a fun x=>
 ab .i64 (a.add 1) fun y=>
 ab .i64 (a.add 2) fun z=>
 af (.tuple #[.agg #[.int .i64 x,.int .i64 y,.int .i64 z],.int .i64 1])) (
 aI c.isNone (
 an a (.int .i64 0) <|
 an (a.add 1) (.int .i64 0) <|
 an (a.add 2) (.int .i64 0) <|
 ab .i64 a fun n=>
 ab .i64 (a.add 1) fun o=>
 ab .i64 (a.add 2) fun l=>
 af (.tuple #[.agg #[.int .i64 n,.int .i64 o,.int .i64 l],.int .i64 6])) (
 ax c fun u=>
 ab .i64 (u.add 1) fun A=>
 aJ #[.int .i64 0,.int .i64 0,.int .i64 0] 225 fun b=>
 an b (.int .i64 f) <|
 an (b.add 1) (.int .i64 A) <|
 an (b.add 2) (.int .i64 h) <|
 ax c fun s=>
 ab .i64 (s.add 1) fun C=>
 ax c fun t=>
 an (t.add 1) (.int .i64 (IntKind.i64.wrap (C+1))) <|
 ax c fun e=>
 aG (
 bz (e.add 2) fun j=>
 ab .i64 b fun D=>
 ab .i64 (b.add 1) fun m=>
 ab .i64 (b.add 2) fun p=>
 ai (Nzz j D m p) fun v=>
 aP .i64 v fun w=>
 Kzz d a c b w) (
 ab .i64 b fun i=>
 ab .i64 (b.add 1) fun q=>
 ab .i64 (b.add 2) fun r=>
 bz (e.add 2) fun E=>
 ai (Nzz E i q r) fun B=>
 aP .i64 B fun g=>
 Kzz d a c b g)))
def d7f (B:Option Addr)(a:Addr)(A:Option Addr)(b:Addr)(c:Int):M Value:=
 aI (c == 0) (
 ax B fun d=>
 ax A fun e=>
 aG (
 bz (d.add 2) fun s=>
 ab .i64 e fun t=>
 ai (Nzn s t) fun u=>
 da u fun F=>
 ab .i64 b fun m=>
 ab .i64 (b.add 1) fun n=>
 ab .i64 (b.add 2) fun o=>
 an a (.int .i64 m) <|
 an (a.add 1) (.int .i64 n) <|
 an (a.add 2) (.int .i64 o) <|
 ab .i64 a fun v=>
 ab .i64 (a.add 1) fun w=>
 ab .i64 (a.add 2) fun x=>
 af (.tuple #[.agg #[.int .i64 v,.int .i64 w,.int .i64 x],.int .i64 c])) (
 ab .i64 e fun D=>
 bz (d.add 2) fun E=>
 ai (Nzn E D) fun C=>
 da C fun G=>
 ab .i64 b fun h=>
 ab .i64 (b.add 1) fun i=>
 ab .i64 (b.add 2) fun j=>
 an a (.int .i64 h) <|
 an (a.add 1) (.int .i64 i) <|
 an (a.add 2) (.int .i64 j) <|
 ab .i64 a fun f=>
 ab .i64 (a.add 1) fun g=>
 ab .i64 (a.add 2) fun y=>
 af (.tuple #[.agg #[.int .i64 f,.int .i64 g,.int .i64 y],.int .i64 c]))) (
 ab .i64 b fun p=>
 ab .i64 (b.add 1) fun q=>
 ab .i64 (b.add 2) fun r=>
 an a (.int .i64 p) <|
 an (a.add 1) (.int .i64 q) <|
 an (a.add 2) (.int .i64 r) <|
 ab .i64 a fun k=>
 ab .i64 (a.add 1) fun l=>
 ab .i64 (a.add 2) fun z=>
 af (.tuple #[.agg #[.int .i64 k,.int .i64 l,.int .i64 z],.int .i64 c]))
theorem e7F (r0 bC DJ){h Q}:d7e r0 bC DJ h Q→XS r0 bC DJ h Q:=Nf.bh Tryz.call211 Tryz.func211 rfl mixed (cuts:=[(9,[0,6,8,9,10])]) (dm:=[(8,[]),(10,[])]) (by kernel_rfl)
theorem e7G (r0 t6 q8 j9 X8){h Q}:d7f r0 t6 q8 j9 X8 h Q→Kzz r0 t6 q8 j9 X8 h Q:=Cut.bh Tryz.func211 mixed (cuts:=[(9,[0,6,8,9,10])]) (dm:=[(8,[]),(10,[])]) (by kernel_rfl)
def d7l (c:Option Addr):M Value:=
 aJ #[.int .i64 0,.int .i64 0,.int .i64 0] 225 fun a=>
 aI c.isNone (
 an a (.int .i64 0) <|
 an (a.add 1) (.int .i64 0) <|
 an (a.add 2) (.int .i64 0) <|
 ab .i64 a fun B=>
 ab .i64 (a.add 1) fun C=>
 ab .i64 (a.add 2) fun J=>
 af (.tuple #[.agg #[.int .i64 B,.int .i64 C,.int .i64 J],.int .i64 0,.bool false])) (
 ax c fun r=>
 bz (r.add 2) fun N=>
 ai (c4G N) fun f=>
 aP .i64 f fun d=>
 aI (decide (d<0)) (
 an a (.int .i64 0) <|
 an (a.add 1) (.int .i64 0) <|
 an (a.add 2) (.int .i64 0) <|
 ab .i64 a fun k=>
 ab .i64 (a.add 1) fun l=>
 ab .i64 (a.add 2) fun E=>
 af (.tuple #[.agg #[.int .i64 k,.int .i64 l,.int .i64 E],.int .i64 0,.bool false])) (
 ax c fun e=>
 uJ (e.add 1) fun P=>
 gT P fun O=>
 qs .i64 O d (.int .i64 0) fun K U=>
 aP .i64 K fun R=>
 ai (Nzy c R) fun S=>
 gx S fun T=>
 ax T fun m=>
 bz (m.add 2) fun Q=>
 ai (a9a Q) fun g=>
 tM g fun L=>
 bB L fun F G=>
 kg F fun D=>
 bB D fun u v=>
 aP .i64 u fun w=>
 bB v fun x y=>
 aP .i64 x fun z=>
 bB y fun A s=>
 aP .i64 A fun t=>
 fO s <|
 bB G fun H I=>
 da H fun n=>
 fO I <|
 aJ #[.int .i64 0,.int .i64 0,.int .i64 0] 225 fun b=>
 an b (.int .i64 w) <|
 an (b.add 1) (.int .i64 z) <|
 an (b.add 2) (.int .i64 t) <|
 ab .i64 b fun o=>
 ab .i64 (b.add 1) fun p=>
 ab .i64 (b.add 2) fun q=>
 an a (.int .i64 o) <|
 an (a.add 1) (.int .i64 p) <|
 an (a.add 2) (.int .i64 q) <|
 ab .i64 a fun h=>
 ab .i64 (a.add 1) fun i=>
 ab .i64 (a.add 2) fun j=>
 af (.tuple #[.agg #[.int .i64 h,.int .i64 i,.int .i64 j],.int .i64 d,.bool n])))
theorem e7K (r0){h Q}:d7l r0 h Q→a8Y r0 h Q:=Nf.bh Tryz.call151 Tryz.func151 rfl mixed (cuts:=[]) (dm:=[]) (by kernel_rfl)
def c5n (b:Addr)(a:Sl)(e d:Int):M Value:=Cut Tryz.prog 141 (aQ Tryz.f141 3) (bf [(3,.pointer (some b)),(8,.slice a.p a.n a.c),(9,.int .i64 e),(10,.int .i64 d)] 19 0)
def d7r (a:Sl):M Value:=
 aJ #[.int .u64 0,.int .u64 0] 307 fun b=>
 c5n b a (a.n:Int) 0
def d7s (a:Addr)(c:Sl)(d b:Int):M Value:=
 aI (decide (b<d)) (
 bd c b 1 fun f=>
 ab .i64 f fun e=>
 ai (Nzn (some a) e) fun g=>
 da g fun h=>
 c5n a c d (IntKind.i64.wrap (b+(1:Int)))) (
 af (.pointer (some a)))
theorem e7L (l0){h Q}:d7r l0 h Q→c4D l0 h Q:=Nf.bh Tryz.call141 Tryz.func141 rfl mixed (cuts:=[(3,[3,8,9,10])]) (dm:=[]) (by kernel_rfl)
theorem e7M (s3 t8 t9 t10){h Q}:d7s s3 t8 t9 t10 h Q→c5n s3 t8 t9 t10 h Q:=Cut.bh Tryz.func141 mixed (cuts:=[(3,[3,8,9,10])]) (dm:=[]) (by kernel_rfl)
def d7t (a:Int):M Value:=
 aI ((decide (a<0))||(decide (a>4096))) (
 af (.pointer none)) (
 uK 225 24 #[.int .i64 0,.int .i64 0,.int .i64 0] a a fun b=>
 aJ #[.slice b.p b.n b.c,.int .i64 0,.int .i64 0] 310 fun d=>
 af (.pointer (some d)))
theorem e7N (iz){h Q}:d7t iz h Q→Nzj iz h Q:=Nf.bh Tryz.call142 Tryz.func142 rfl mixed (cuts:=[]) (dm:=[]) (by kernel_rfl)
def d7u (b:Option Addr)(a:Int):M Value:=
 ai (aI (b.isNone||(decide (a<0))) (af true) (ax b fun c=>
 aw c fun f=>
 af (decide (a≥(f.n:Int))))) fun e=>
 aI e (
 af (.pointer none)) (
 ax b fun d=>
 aw d fun g=>
 bd g a 3 fun h=>
 af (.pointer (some h)))
theorem e7O (r0 bC){h Q}:d7u r0 bC h Q→Nzy r0 bC h Q:=Nf.bh Tryz.call214 Tryz.func214 rfl mixed (cuts:=[]) (dm:=[]) (by kernel_rfl)
def d7v (b:Option Addr):M Value:=
 aJ #[.int .i64 0,.int .i64 0,.int .i64 0] 225 fun a=>
 aJ #[.int .i64 0,.int .i64 0,.int .i64 0] 225 fun d=>
 ai (a9a b) fun K=>
 tM K fun V=>
 bB V fun q r=>
 kg q fun i=>
 bB i fun L N=>
 aP .i64 L fun O=>
 bB N fun P Q=>
 aP .i64 P fun R=>
 bB Q fun S T=>
 aP .i64 S fun U=>
 fO T <|
 bB r fun s t=>
 da s fun k=>
 fO t <|
 aJ #[.int .i64 0,.int .i64 0,.int .i64 0] 225 fun c=>
 an c (.int .i64 O) <|
 an (c.add 1) (.int .i64 R) <|
 an (c.add 2) (.int .i64 U) <|
 aI (!k) (
 ab .i64 d fun u=>
 ab .i64 (d.add 1) fun j=>
 ab .i64 (d.add 2) fun W=>
 an a (.int .i64 u) <|
 an (a.add 1) (.int .i64 j) <|
 an (a.add 2) (.int .i64 W) <|
 ab .i64 a fun v=>
 ab .i64 (a.add 1) fun w=>
 ab .i64 (a.add 2) fun z=>
 af (.tuple #[.agg #[.int .i64 v,.int .i64 w,.int .i64 z],.int .i64 8])) (
 mQ (XT b 0) fun J=>
 gx J fun D=>
 ab .i64 d fun G=>
 ab .i64 (d.add 1) fun F=>
 ab .i64 (d.add 2) fun I=>
 ax D fun e=>
 an e (.int .i64 G) <|
 an (e.add 1) (.int .i64 F) <|
 an (e.add 2) (.int .i64 I) <|
 ax b fun g=>
 ab .i64 (g.add 1) fun E=>
 ax b fun p=>
 aw p fun f=>
 cD ((f.n:Int)≠0) <|
 ax b fun l=>
 an (l.add 1) (.int .i64 (Int.tmod (IntKind.i64.wrap (E+1)) (f.n:Int))) <|
 ax b fun x=>
 ab .i64 (x.add 2) fun H=>
 ax b fun y=>
 an (y.add 2) (.int .i64 (IntKind.i64.wrap (H-1))) <|
 ab .i64 c fun h=>
 ab .i64 (c.add 1) fun m=>
 ab .i64 (c.add 2) fun o=>
 an a (.int .i64 h) <|
 an (a.add 1) (.int .i64 m) <|
 an (a.add 2) (.int .i64 o) <|
 ab .i64 a fun A=>
 ab .i64 (a.add 1) fun B=>
 ab .i64 (a.add 2) fun C=>
 af (.tuple #[.agg #[.int .i64 A,.int .i64 B,.int .i64 C],.int .i64 0]))
theorem e7P (r0){h Q}:d7v r0 h Q→c4E r0 h Q:=Nf.bh Tryz.call280 Tryz.func280 rfl mixed (cuts:=[]) (dm:=[(5,[0,1,2,3]),(6,[0,1,2,3,4,5,6,7,8,9,10,11])]) (by kernel_rfl)
def d7z (a:Option Addr):M Value:=
 aI a.isNone (
 af (.int .i64 0)) (
 ax a fun b=>
 ab .i64 (b.add 2) fun c=>
 af (.int .i64 c))
theorem e7Q (r0){h Q}:d7z r0 h Q→a8Z r0 h Q:=Nf.bh Tryz.call278 Tryz.func278 rfl mixed (cuts:=[]) (dm:=[]) (by kernel_rfl)
def d7A (b:Option Addr)(a:Int):M Value:=
 ai (a9b b a) fun g=>
 da g fun h=>
 aI (!h) (
 af (.bool false)) (
 cD ((64:Int)≠0) <|
 ax b fun c=>
 bd ⟨(some c),2,2⟩ (IntKind.i64.wrap (Int.tdiv a 64)) 1 fun f=>
 cD ((64:Int)≠0) <|
 cD (0≤(IntKind.u64.wrap (Int.tmod a 64))) <|
 ax b fun i=>
 ab .u64 f fun d=>
 bd ⟨(some i),2,2⟩ (IntKind.i64.wrap (Int.tdiv a 64)) 1 fun e=>
 an e (.int .u64 (Cw .u64 d (a7M .u64 1 (IntKind.u64.wrap (Int.tmod a 64))))) <|
 af (.bool true))
theorem e7R (s0 n1){h Q}:d7A s0 n1 h Q→c4F s0 n1 h Q:=Nf.bh Tryz.call281 Tryz.func281 rfl mixed (cuts:=[]) (dm:=[(3,[])]) (by kernel_rfl)
def d7B (a:Option Addr)(o p q:Int):M Value:=
 aJ #[.int .i64 o,.int .i64 p,.int .i64 q] 225 fun b=>
 aI a.isNone (
 af (.int .i64 1)) (
 ax a fun h=>
 ab .i64 (h.add 2) fun l=>
 ax a fun i=>
 aw i fun j=>
 aI (l == (j.n:Int)) (
 af (.int .i64 7)) (
 ax a fun m=>
 ab .i64 (m.add 2) fun k=>
 mQ (XT a k) fun t=>
 gx t fun r=>
 ab .i64 b fun u=>
 ab .i64 (b.add 1) fun d=>
 ab .i64 (b.add 2) fun f=>
 ax r fun c=>
 an c (.int .i64 u) <|
 an (c.add 1) (.int .i64 d) <|
 an (c.add 2) (.int .i64 f) <|
 ax a fun g=>
 ab .i64 (g.add 2) fun s=>
 ax a fun e=>
 an (e.add 2) (.int .i64 (IntKind.i64.wrap (s+1))) <|
 af (.int .i64 0)))
theorem e7S (r0 lR lS lT){h Q}:d7B r0 lR lS lT h Q→Nzz r0 lR lS lT h Q:=Nf.bh Tryz.call275 Tryz.func275 rfl mixed (cuts:=[]) (dm:=[(5,[0,1,2,3,4,5,6,7])]) (by kernel_rfl)
def d7C (b:Option Addr)(a:Int):M Value:=
 ai (a9c b a) fun i=>
 da i fun l=>
 ai (aI (!l) (af true) (ai (a9b b a) fun h=>
 da h fun g=>
 af g)) fun e=>
 aI e (
 af (.bool false)) (
 cD ((64:Int)≠0) <|
 ax b fun d=>
 bd ⟨(some d),2,2⟩ (IntKind.i64.wrap (Int.tdiv a 64)) 1 fun f=>
 cD ((64:Int)≠0) <|
 cD (0≤(IntKind.u64.wrap (Int.tmod a 64))) <|
 ax b fun c=>
 ab .u64 f fun k=>
 bd ⟨(some c),2,2⟩ (IntKind.i64.wrap (Int.tdiv a 64)) 1 fun j=>
 an j (.int .u64 (ior .u64 k (a7M .u64 1 (IntKind.u64.wrap (Int.tmod a 64))))) <|
 af (.bool true))
theorem e7T (s0 n1){h Q}:d7C s0 n1 h Q→Nzn s0 n1 h Q:=Nf.bh Tryz.call208 Tryz.func208 rfl mixed (cuts:=[]) (dm:=[(3,[])]) (by kernel_rfl)
def c5p (b:Option Addr)(a:Int):M Value:=Cut Tryz.prog 213 (aQ Tryz.f213 4) (bf [(0,.pointer b),(3,.int .i64 a)] 26 0)
def d7D (a:Option Addr):M Value:=
 aI a.isNone (
 af (.int .i64 (-1:Int))) (
 c5p a 1)
def Bz2 (c:Option Addr)(a:Int):M Value:=
 aI (decide (a≥(0:Int))) (
 ax c fun d=>
 bd ⟨(some d),2,2⟩ a 1 fun e=>
 ab .u64 e fun b=>
 aI (b != 0) (
 ai (d6J b) fun g=>
 aP .i64 g fun f=>
 af (.int .i64 (IntKind.i64.wrap ((IntKind.i64.wrap ((IntKind.i64.wrap ((IntKind.i64.wrap (a*(64:Int)))+64))-1))-f)))) (
 c5p c (IntKind.i64.wrap (a-(1:Int))))) (
 af (.int .i64 (-1:Int)))
theorem e7U (s0){h Q}:d7D s0 h Q→c4G s0 h Q:=Nf.bh Tryz.call213 Tryz.func213 rfl mixed (cuts:=[(4,[0,3])]) (dm:=[]) (by kernel_rfl)
theorem Sz2 (s0 i3){h Q}:Bz2 s0 i3 h Q→c5p s0 i3 h Q:=Cut.bh Tryz.func213 mixed (cuts:=[(4,[0,3])]) (dm:=[]) (by kernel_rfl)
def d7E (c:Option Addr):M Value:=
 aJ #[.int .i64 0,.int .i64 0,.int .i64 0] 225 fun a=>
 ai (a8Z c) fun n=>
 aP .i64 n fun r=>
 aI (r == 0) (
 ab .i64 a fun d=>
 ab .i64 (a.add 1) fun e=>
 ab .i64 (a.add 2) fun f=>
 an a (.int .i64 d) <|
 an (a.add 1) (.int .i64 e) <|
 an (a.add 2) (.int .i64 f) <|
 ab .i64 a fun k=>
 ab .i64 (a.add 1) fun l=>
 ab .i64 (a.add 2) fun m=>
 af (.tuple #[.agg #[.int .i64 k,.int .i64 l,.int .i64 m],.bool false])) (
 ai (XT c 0) fun o=>
 gx o fun s=>
 ax s fun b=>
 ab .i64 b fun p=>
 ab .i64 (b.add 1) fun q=>
 ab .i64 (b.add 2) fun i=>
 an a (.int .i64 p) <|
 an (a.add 1) (.int .i64 q) <|
 an (a.add 2) (.int .i64 i) <|
 ab .i64 a fun g=>
 ab .i64 (a.add 1) fun h=>
 ab .i64 (a.add 2) fun j=>
 af (.tuple #[.agg #[.int .i64 g,.int .i64 h,.int .i64 j],.bool true]))
theorem e7Y (r0){h Q}:d7E r0 h Q→a9a r0 h Q:=Nf.bh Tryz.call215 Tryz.func215 rfl mixed (cuts:=[]) (dm:=[]) (by kernel_rfl)
def d7G (a:Option Addr)(e:Int):M Value:=
 ax a fun c=>
 aw c fun h=>
 ax a fun d=>
 ab .i64 (d.add 1) fun f=>
 ax a fun i=>
 aw i fun b=>
 cD ((b.n:Int)≠0) <|
 bd h (Int.tmod (IntKind.i64.wrap (f+e)) (b.n:Int)) 3 fun g=>
 af (.pointer (some g))
theorem e7Z (r0 i1){h Q}:d7G r0 i1 h Q→XT r0 i1 h Q:=Nf.bh Tryz.call279 Tryz.func279 rfl mixed (cuts:=[]) (dm:=[]) (by kernel_rfl)
def d7H (b:Option Addr)(a:Int):M Value:=
 ai (a9c b a) fun g=>
 da g fun h=>
 ai (aI h (cD ((64:Int)≠0) <|
 ax b fun c=>
 bd ⟨(some c),2,2⟩ (IntKind.i64.wrap (Int.tdiv a 64)) 1 fun f=>
 ab .u64 f fun e=>
 cD ((64:Int)≠0) <|
 cD (0≤(IntKind.u64.wrap (Int.tmod a 64))) <|
 af ((qt .u64 (tN .u64 e (IntKind.u64.wrap (Int.tmod a 64))) 1) == 1)) (af false)) fun d=>
 af (.bool d)
theorem e8a (s0 n1){h Q}:d7H s0 n1 h Q→a9b s0 n1 h Q:=Nf.bh Tryz.call274 Tryz.func274 rfl mixed (cuts:=[]) (dm:=[]) (by kernel_rfl)
def d7I (b:Option Addr)(a:Int):M Value:=
 af (.bool (((!b.isNone)&&(decide (a≥(0:Int))))&&(decide (a≤(64:Int)))))
theorem e8b (s0 n1){h Q}:d7I s0 n1 h Q→a9c s0 n1 h Q:=Nf.bh Tryz.call273 Tryz.func273 rfl mixed (cuts:=[]) (dm:=[]) (by kernel_rfl)
def d7J (b:Int):M Value:=
 ai (c4H b) fun a=>
 aP .i64 a fun c=>
 af (.int .i64 (IntKind.i64.wrap ((64:Int)-c)))
theorem e8c (x0){h Q}:d7J x0 h Q→d6J x0 h Q:=Nf.bh Tryz.call277 Tryz.func277 rfl mixed (cuts:=[]) (dm:=[]) (by kernel_rfl)
def Kzo (b a:Int):M Value:=Cut Tryz.prog 314 (aQ Tryz.f314 7) (bf [(0,.int .u64 b),(2,.int .i64 a)] 25 0)
def d7K (a:Int):M Value:=
 aI (decide (a≥(4294967296:Int))) (
 cD (0≤(32:Int)) <|
 aI (decide ((tN .u64 a 32)≥65536)) (
 cD (0≤(16:Int)) <|
 Kzo (tN .u64 (tN .u64 a 32) 16) (IntKind.i64.wrap ((32:Int)+16))) (
 Kzo (tN .u64 a 32) 32)) (
 aI (decide (a≥(65536:Int))) (
 cD (0≤(16:Int)) <|
 Kzo (tN .u64 a 16) (IntKind.i64.wrap ((0:Int)+16))) (
 Kzo a 0))
def d7L (a b:Int):M Value:=
 aI (decide (a≥(256:Int))) (
 cD (0≤(8:Int)) <|
 I5 (ByteArray.mk #[0,1,2,2,3,3,3,3,4,4,4,4,4,4,4,4,5,5,5,5,5,5,5,5,5,5,5,5,5,5,5,5,6,6,6,6,6,6,6,6,6,6,6,6,6,6,6,6,6,6,6,6,6,6,6,6,6,6,6,6,6,6,6,6,7,7,7,7,7,7,7,7,7,7,7,7,7,7,7,7,7,7,7,7,7,7,7,7,7,7,7,7,7,7,7,7,7,7,7,7,7,7,7,7,7,7,7,7,7,7,7,7,7,7,7,7,7,7,7,7,7,7,7,7,7,7,7,7,8,8,8,8,8,8,8,8,8,8,8,8,8,8,8,8,8,8,8,8,8,8,8,8,8,8,8,8,8,8,8,8,8,8,8,8,8,8,8,8,8,8,8,8,8,8,8,8,8,8,8,8,8,8,8,8,8,8,8,8,8,8,8,8,8,8,8,8,8,8,8,8,8,8,8,8,8,8,8,8,8,8,8,8,8,8,8,8,8,8,8,8,8,8,8,8,8,8,8,8,8,8,8,8,8,8,8,8,8,8,8,8,8,8,8,8,8,8,8,8,8,8,8,8,8,8,8,8]) (IntKind.u8.wrap (tN .u64 a 8)) fun d=>
 af (.int .i64 (IntKind.i64.wrap ((IntKind.i64.wrap (b+(8:Int)))+(IntKind.i64.wrap d))))) (
 I5 (ByteArray.mk #[0,1,2,2,3,3,3,3,4,4,4,4,4,4,4,4,5,5,5,5,5,5,5,5,5,5,5,5,5,5,5,5,6,6,6,6,6,6,6,6,6,6,6,6,6,6,6,6,6,6,6,6,6,6,6,6,6,6,6,6,6,6,6,6,7,7,7,7,7,7,7,7,7,7,7,7,7,7,7,7,7,7,7,7,7,7,7,7,7,7,7,7,7,7,7,7,7,7,7,7,7,7,7,7,7,7,7,7,7,7,7,7,7,7,7,7,7,7,7,7,7,7,7,7,7,7,7,7,8,8,8,8,8,8,8,8,8,8,8,8,8,8,8,8,8,8,8,8,8,8,8,8,8,8,8,8,8,8,8,8,8,8,8,8,8,8,8,8,8,8,8,8,8,8,8,8,8,8,8,8,8,8,8,8,8,8,8,8,8,8,8,8,8,8,8,8,8,8,8,8,8,8,8,8,8,8,8,8,8,8,8,8,8,8,8,8,8,8,8,8,8,8,8,8,8,8,8,8,8,8,8,8,8,8,8,8,8,8,8,8,8,8,8,8,8,8,8,8,8,8,8,8,8,8,8,8]) (IntKind.u8.wrap a) fun c=>
 af (.int .i64 (IntKind.i64.wrap (b+(IntKind.i64.wrap c)))))
theorem e8d (x0){h Q}:d7K x0 h Q→c4H x0 h Q:=Nf.bh Tryz.call314 Tryz.func314 rfl mixed (cuts:=[(7,[0,2])]) (dm:=[]) (by kernel_rfl)
theorem e8e (x0 n2){h Q}:d7L x0 n2 h Q→Kzo x0 n2 h Q:=Cut.bh Tryz.func314 mixed (cuts:=[(7,[0,2])]) (dm:=[]) (by kernel_rfl)
end Go.Proofs.YtnpinhahjgbigaaGreatDoor
end
section
namespace Go.Proofs.YtnpinhahjgbigaaGreatDoor
open Go Go.Sb
structure cA where
 t:Int
 n:Int
 a:Int
deriving DecidableEq
abbrev pH (x:cA):List Value:=[.int .i64 x.t,.int .i64 x.n,.int .i64 x.a]
abbrev gj (x:cA):Value:=.agg #[.int .i64 x.t,.int .i64 x.n,.int .i64 x.a]
structure jF {X:Type} (cells:List X) (fr:Nat) (q:List X):Prop where
 len:q.length≤cells.length
 lo:0<cells.length→fr<cells.length
 z:cells.length=0→fr=0
 at_:∀k x,q[k]? =some x→cells[(fr+k)%cells.length]? =some x
theorem jF.nil {X:Type}(cells:List X):jF cells 0 []:=⟨by simp,id,fun _=>rfl,by simp⟩
theorem vO {N f j k:Nat}(hk:k<N)(hj:j<N)(hne:j≠k):(f+j)%N≠(f+k)%N:=by
 intro he
 have h1:=Nat.div_add_mod (f+j) N
 have h2:=Nat.div_add_mod (f+k) N
 rw[he]at h1
 rcases Nat.lt_trichotomy ((f+j) / N) ((f+k) / N) with h|h|h
 ·have:N*((f+j) / N+1)≤N*((f+k) / N):=Nat.mul_le_mul_left _ h
  rw[Nat.mul_add]at this;omega
 ·rw[h]at h1;omega
 ·have:N*((f+k) / N+1)≤N*((f+j) / N):=Nat.mul_le_mul_left _ h
  rw[Nat.mul_add]at this;omega
theorem jF.put {X:Type}{cells:List X}{fr:Nat}{q:List X}(hr:jF cells fr q)(hlt:q.length<cells.length)(x:X):jF (cells.set ((fr+q.length)%cells.length) x) fr (q++[x]):=by
 have hN:0<cells.length:=by omega
 refine⟨by simp;omega,by simpa using hr.lo,by simpa using hr.z,fun k y hk=>?_⟩
 rw[List.length_set]
 by_cases e:k=q.length
 ·subst e
  simp only[List.getElem?_concat_length,Option.some.injEq]at hk
  subst hk
  rw[List.getElem?_set_self (Nat.mod_lt _ hN)]
 ·have hk1:=(List.getElem?_eq_some_iff.1 hk).1
  simp only[List.length_append,List.length_cons,List.length_nil]at hk1
  rw[List.getElem?_append_left (by omega)]at hk
  rw[List.getElem?_set_ne (vO (by omega) (by omega) (by omega))]
  exact hr.at_ k y hk
theorem jF.take {X:Type}{cells:List X}{fr:Nat}{x:X}{q:List X}(hr:jF cells fr (x::q))(z:X):jF (cells.set fr z) ((fr+1)%cells.length) q:=by
 have hl:=hr.len
 simp only[List.length_cons]at hl
 have hN:0<cells.length:=by omega
 have hf:=hr.lo hN
 refine⟨by simp;omega,by rw[List.length_set];intro _;exact Nat.mod_lt _ hN,by rw[List.length_set];omega,fun k y hk=>?_⟩
 rw[List.length_set,Nat.mod_add_mod,Nat.add_assoc,Nat.add_comm 1 k]
 have h1:=hr.at_ (k+1) y (by simpa using hk)
 have hk1:=(List.getElem?_eq_some_iff.1 hk).1
 have hne:=vO (N:=cells.length) (f:=fr) (j:=0) (k:=k+1) (by omega) hN (by omega)
 rw[Nat.add_zero,Nat.mod_eq_of_lt hf]at hne
 rw[List.getElem?_set_ne hne]
 exact h1
theorem jF.first {X:Type}{cells:List X}{fr:Nat}{x:X}{q:List X}(hr:jF cells fr (x::q)):cells[fr]? =some x:=by
 have hl:=hr.len
 simp only[List.length_cons]at hl
 have:=hr.at_ 0 x rfl
 rwa [Nat.add_zero,Nat.mod_eq_of_lt (hr.lo (by omega))]at this
def fU (b:Nat)(q:List cA):As:=aEx fun t:Sl×List cA×Nat=>
 aStar (aPure (t.2.1.length=4∧jF t.2.1 t.2.2 q)) (aStar (aBlk b [.slice t.1.p t.1.n t.1.c,.int .i64 (t.2.2:Int),.int .i64 (q.length:Int)]) (aRow pH 3 t.1 t.2.1))
theorem gk {h0 h:Hp}{R:List As}{b:Nat}{q:List cA}:Sep h0 h (fU b q::R)↔
  ∃(s:Sl) (cells:List cA) (fr:Nat),(cells.length=4∧jF cells fr q)∧Sep h0 h (aBlk b [.slice s.p s.n s.c,.int .i64 (fr:Int),.int .i64 (q.length:Int)]::aRow pH 3 s cells::R):=by
 unfold fU
 rw[Sep.ex]
 constructor
 ·rintro ⟨⟨s,cells,fr⟩,hs⟩
  rw[Sep.star,Sep.pure,Sep.star]at hs
  exact⟨s,cells,fr,hs⟩
 ·rintro ⟨s,cells,fr,hs⟩
  refine⟨⟨s,cells,fr⟩,?_⟩
  rw[Sep.star,Sep.pure,Sep.star]
  exact hs
def a9C:List cA→Value
 |[]=>.tuple #[gj ⟨0,0,0⟩,.bool false]
 |x::_=>.tuple #[gj x,.bool true]
def b5Q:List cA→Value
 |[]=>.tuple #[gj ⟨0,0,0⟩,.int .i64 8]
 |x::_=>.tuple #[gj x,.int .i64 0]
section
variable {h0 h:Hp}{R:List As}{b:Nat}{q:List cA}
theorem At.some {s:Sl}{cells:List cA}{j:Nat}{L:List As}(hs:Sep h0 h L)(k:Nat)(hk:L[k]? =some (aRow pH 3 s cells))(hj:j<cells.length):∃a,At s a j 3:=by
 have h1:bd (α:=Unit) s (j:Int) 3 (fun a _ _=>At s a j 3) h (fun _ _=>True):=hs.idx k hk (by omega) (by omega) fun a ha=>by rw[Int.toNat_natCast]at ha;exact ha
 obtain⟨_,_,a,_,ha⟩:=h1
 exact⟨_,ha⟩
theorem Gm {s:Sl}{cells:List cA}{fr n i:Nat}{L:List As}(hs:Sep h0 h L)(k1 k2:Nat)(hk1:L[k1]? =some (aBlk b [.slice s.p s.n s.c,.int .i64 (fr:Int),.int .i64 (n:Int)]))(hk2:L[k2]? =some (aRow pH 3 s cells))(hN:0<cells.length)(hf:fr<cells.length)(hl:cells.length≤4096)(hi:i≤4096):
  ∃a,At s a ((fr+i)%cells.length) 3∧XT (some ⟨b,0,none⟩) (i:Int) h (fun v h'=>v= .pointer (some a)∧h'=h):=by
 have mF:=hs.bn k2 hk2
 have Gn:=Nat.mod_lt (fr+i) hN
 obtain⟨a,ha⟩:=At.some hs k2 hk2 Gn
 refine⟨a,ha,?_⟩
 apply e7Z
 unfold d7G
 simp only[au,ay,Nat.zero_add]
 refine Sep.bu hs k1 hk1 rfl ?_
 refine Sep.aB hs k1 hk1 rfl ?_
 refine Sep.bu hs k1 hk1 rfl ?_
 refine⟨by omega,?_⟩
 rw[wrap64 _ (by omega),Int.tmod_eq_emod_of_nonneg (by omega),mF,show (fr:Int)+(i:Int)=((fr+i:Nat):Int) by omega,←Int.natCast_emod]
 refine hs.idx k2 hk2 (by omega) (by omega) fun a' ha'=>?_
 rw[Int.toNat_natCast]at ha'
 obtain⟨p,e1,e2⟩:=ha
 obtain⟨p',e1',e2'⟩:=ha'
 rw[e1]at e1'
 cases e1'
 rw[e2,e2']
 exact⟨rfl,rfl⟩
theorem JN (hs:Sep h0 h (fU b q::R)):a8Z (some ⟨b,0,none⟩) h (fun v h'=>v= .int .i64 (q.length:Int)∧h'=h):=by
 obtain⟨s,cells,fr,hp,hs⟩:=gk.1 hs
 apply e7Q
 unfold d7z
 (simp only[Option.isNone_some,au,ay,Nat.zero_add,aj];refine Sep.aB hs 0 rfl rfl ?_)
 exact⟨rfl,rfl⟩
theorem a9D (hs:Sep h0 h (fU b q::R))(x:cA):Nzz (some ⟨b,0,none⟩) x.t x.n x.a h (fun v h'=>v= .int .i64 (if q.length=4 then 7 else 0)∧Sep h0 h' (fU b (if q.length=4 then q else q++[x])::R)):=by
 obtain⟨s,cells,fr,⟨hp,hr⟩,hs⟩:=gk.1 hs
 have mF:=hs.bn 1 rfl
 have hql:=hr.len
 apply e7S
 unfold d7B
 ((refine Sep.new hs fun nb h hs=>?_;try simp only[sz2]at hs);simp only[Option.isNone_some,ay,Nat.zero_add,au,aj];refine Sep.aB hs 1 rfl rfl ?_;refine Sep.bu hs 1 rfl rfl ?_)
 refine aE (fun hc=>?_) (fun hc=>?_)
 ·have hc:(q.length:Int)=s.n:=by simpa using hc
  rw[if_pos (by omega),if_pos (by omega)]
  exact⟨rfl,gk.2 ⟨s,cells,fr,⟨hp,hr⟩,hs.drop⟩⟩
 ·have hc:¬(q.length:Int)=s.n:=by simpa using hc
  rw[if_neg (by omega),if_neg (by omega)]
  have hlt:q.length<cells.length:=by omega
  (refine Sep.aB hs 1 rfl rfl ?_)
  obtain⟨a,ha,hm⟩:=Gm (i:=q.length) hs 1 2 rfl rfl (by omega) (hr.lo (by omega)) (by omega) (by omega)
  refine jo _ hm ?_
  have Gn:=Nat.mod_lt (fr+q.length) (by omega:0<cells.length)
  (simp only[aS,au];refine Sep.aB hs 0 rfl rfl ?_;refine Sep.aB hs 0 rfl rfl ?_;refine Sep.aB hs 0 rfl rfl ?_)
  refine hs.vo 2 ⟨x.t,(cells[(fr+q.length)%cells.length]).n,(cells[(fr+q.length)%cells.length]).a⟩ rfl (fun _=>rfl) ha (List.getElem?_eq_getElem Gn) (by omega) rfl rfl fun h hs=>?_
  simp only[sz0,sz1]at hs
  refine hs.sR 2 ⟨x.t,x.n,(cells[(fr+q.length)%cells.length]).a⟩ rfl (fun _=>rfl) ha (List.getElem?_set_self Gn) (by omega) rfl rfl fun h hs=>?_
  simp only[sz0,sz1,List.set_set]at hs
  refine hs.sR 2 x rfl (fun _=>rfl) ha (List.getElem?_set_self Gn) (by omega) rfl rfl fun h hs=>?_
  simp only[sz0,sz1,List.set_set]at hs
  (refine Sep.aB hs 1 rfl rfl ?_;(refine Sep.st hs 1 rfl rfl rfl fun h hs=>?_;simp only[sz0,sz1]at hs))
  rw[wrap64 _ (by omega),show (q.length:Int)+1=((q++[x]).length:Int) by simp]at hs
  exact⟨rfl,gk.2 ⟨s,_,fr,⟨by rw[List.length_set];exact hp,hr.put hlt x⟩,hs.drop⟩⟩
theorem zV (hs:Sep h0 h (fU b q::R)):a9a (some ⟨b,0,none⟩) h (fun v h'=>v=a9C q∧Sep h0 h' (fU b q::R)):=by
 apply e7Y
 unfold d7E
 ((refine Sep.new hs fun nb h hs=>?_;try simp only[sz2]at hs);simp only[ay,Nat.zero_add,ae])
 have hs:Sep h0 h (fU b q::aBlk nb [.int .i64 0,.int .i64 0,.int .i64 0]::R):=hs.swap
 refine (JN hs).mono ?_
 rintro v h' ⟨rfl,rfl⟩
 simp only[az]
 cases q with
 |nil=>
  refine aM rfl ?_
  (refine Sep.aB hs 1 rfl rfl ?_;refine Sep.aB hs 1 rfl rfl ?_;refine Sep.aB hs 1 rfl rfl ?_;(refine Sep.st hs 1 rfl rfl rfl fun h hs=>?_;simp only[sz0,sz1]at hs);(refine Sep.st hs 1 rfl rfl rfl fun h hs=>?_;simp only[sz0,sz1]at hs);(refine Sep.st hs 1 rfl rfl rfl fun h hs=>?_;simp only[sz0,sz1]at hs);refine Sep.aB hs 1 rfl rfl ?_;refine Sep.aB hs 1 rfl rfl ?_;refine Sep.aB hs 1 rfl rfl ?_)
  exact⟨rfl,hs.swap.drop⟩
 |cons x q=>
  obtain⟨s,cells,fr,⟨hp,hr⟩,hs⟩:=gk.1 hs
  have hql:=hr.len
  simp only[List.length_cons]at hql
  refine aA (by simp;omega) ?_
  rw[ae]
  obtain⟨a,ha,hm⟩:=Gm (i:=0) hs 0 1 rfl rfl (by omega) (hr.lo (by omega)) (by omega) (by omega)
  refine hm.mono ?_
  rintro v h' ⟨rfl,rfl⟩
  rw[Nat.add_zero,Nat.mod_eq_of_lt (hr.lo (by omega))]at ha
  simp only[aS,au]
  refine hs.fR 1 rfl (fun _=>rfl) ha hr.first rfl ?_
  refine hs.iu 1 rfl (fun _=>rfl) ha hr.first rfl ?_
  refine hs.iu 1 rfl (fun _=>rfl) ha hr.first rfl ?_
  ((refine Sep.st hs 2 rfl rfl rfl fun h hs=>?_;simp only[sz0,sz1]at hs);(refine Sep.st hs 2 rfl rfl rfl fun h hs=>?_;simp only[sz0,sz1]at hs);(refine Sep.st hs 2 rfl rfl rfl fun h hs=>?_;simp only[sz0,sz1]at hs);refine Sep.aB hs 2 rfl rfl ?_;refine Sep.aB hs 2 rfl rfl ?_;refine Sep.aB hs 2 rfl rfl ?_)
  exact⟨rfl,gk.2 ⟨s,cells,fr,⟨hp,hr⟩,(hs.jN 3 [2,0,1] rfl (by simp)).drop⟩⟩
theorem Yy (hs:Sep h0 h (fU b q::R)):c4E (some ⟨b,0,none⟩) h (fun v h'=>v=b5Q q∧Sep h0 h' (fU b q.tail::R)):=by
 apply e7P
 unfold d7v
 ((refine Sep.new hs fun nb h hs=>?_;try simp only[sz2]at hs);(refine Sep.new hs fun qQ h hs=>?_;try simp only[sz2]at hs);simp only[ay,Nat.zero_add,au,ae])
 have hs:Sep h0 h (fU b q::aBlk qQ [.int .i64 0,.int .i64 0,.int .i64 0]::aBlk nb [.int .i64 0,.int .i64 0,.int .i64 0]::R):=hs.jN 3 [2,0,1] rfl (by simp)
 refine (zV hs).mono ?_
 rintro v h' ⟨rfl,hs⟩
 cases q with
 |nil=>
  simp only[a9C]
  (simp only[cC,bW,cH,av,Bool.not_false,aq,cG,az];(refine Sep.new hs fun c4z h hs=>?_;try simp only[sz2]at hs);(refine Sep.st hs 0 rfl rfl rfl fun h hs=>?_;simp only[sz0,sz1]at hs);(refine Sep.st hs 0 rfl rfl rfl fun h hs=>?_;simp only[sz0,sz1]at hs);(refine Sep.st hs 0 rfl rfl rfl fun h hs=>?_;simp only[sz0,sz1]at hs);refine Sep.aB hs 2 rfl rfl ?_;refine Sep.aB hs 2 rfl rfl ?_;refine Sep.aB hs 2 rfl rfl ?_;(refine Sep.st hs 3 rfl rfl rfl fun h hs=>?_;simp only[sz0,sz1]at hs);(refine Sep.st hs 3 rfl rfl rfl fun h hs=>?_;simp only[sz0,sz1]at hs);(refine Sep.st hs 3 rfl rfl rfl fun h hs=>?_;simp only[sz0,sz1]at hs);refine Sep.aB hs 3 rfl rfl ?_;refine Sep.aB hs 3 rfl rfl ?_;refine Sep.aB hs 3 rfl rfl ?_)
  exact⟨rfl,(hs.drop.jN 3 [1,2,0] rfl (by simp)).drop.drop⟩
 |cons x q=>
  simp only[a9C]
  (simp only[cC,bW,cH,av,Bool.not_true,aj,cG,az];(refine Sep.new hs fun c4z h hs=>?_;try simp only[sz2]at hs);(refine Sep.st hs 0 rfl rfl rfl fun h hs=>?_;simp only[sz0,sz1]at hs);(refine Sep.st hs 0 rfl rfl rfl fun h hs=>?_;simp only[sz0,sz1]at hs);(refine Sep.st hs 0 rfl rfl rfl fun h hs=>?_;simp only[sz0,sz1]at hs);simp only[ay,Nat.zero_add])
  obtain⟨s,cells,fr,⟨hp,hr⟩,hs⟩:=gk.1 hs.swap
  have mF:=hs.bn 1 rfl
  have hql:=hr.len
  simp only[List.length_cons]at hql
  have hlo:=hr.lo (by omega)
  obtain⟨a,ha,hm⟩:=Gm (i:=0) hs 0 1 rfl rfl (by omega) hlo (by omega) (by omega)
  refine jo _ hm ?_
  rw[Nat.add_zero,Nat.mod_eq_of_lt hlo]at ha
  (simp only[aS,au];refine Sep.aB hs 3 rfl rfl ?_;refine Sep.aB hs 3 rfl rfl ?_;refine Sep.aB hs 3 rfl rfl ?_)
  refine hs.vo 1 ⟨0,x.n,x.a⟩ rfl (fun _=>rfl) ha hr.first (by omega) rfl rfl fun h hs=>?_
  simp only[sz0,sz1]at hs
  refine hs.sR 1 ⟨0,0,x.a⟩ rfl (fun _=>rfl) ha (List.getElem?_set_self hlo) (by omega) rfl rfl fun h hs=>?_
  simp only[sz0,sz1,List.set_set]at hs
  refine hs.sR 1 ⟨0,0,0⟩ rfl (fun _=>rfl) ha (List.getElem?_set_self hlo) (by omega) rfl rfl fun h hs=>?_
  simp only[sz0,sz1,List.set_set]at hs
  (refine Sep.aB hs 0 rfl rfl ?_;refine Sep.bu hs 0 rfl rfl ?_)
  refine⟨by omega,?_⟩
  ((refine Sep.st hs 0 rfl rfl rfl fun h hs=>?_;simp only[sz0,sz1]at hs);refine Sep.aB hs 0 rfl rfl ?_;(refine Sep.st hs 0 rfl rfl rfl fun h hs=>?_;simp only[sz0,sz1]at hs);refine Sep.aB hs 2 rfl rfl ?_;refine Sep.aB hs 2 rfl rfl ?_;refine Sep.aB hs 2 rfl rfl ?_;(refine Sep.st hs 4 rfl rfl rfl fun h hs=>?_;simp only[sz0,sz1]at hs);(refine Sep.st hs 4 rfl rfl rfl fun h hs=>?_;simp only[sz0,sz1]at hs);(refine Sep.st hs 4 rfl rfl rfl fun h hs=>?_;simp only[sz0,sz1]at hs);refine Sep.aB hs 4 rfl rfl ?_;refine Sep.aB hs 4 rfl rfl ?_;refine Sep.aB hs 4 rfl rfl ?_)
  have e1:Int.tmod (IntKind.i64.wrap ((fr:Int)+1)) (s.n:Int)=(((fr+1)%cells.length:Nat):Int):=by
   rw[wrap64 _ (by omega),Int.tmod_eq_emod_of_nonneg (by omega),mF,show (fr:Int)+1=((fr+1:Nat):Int) by omega,←Int.natCast_emod]
  have e2:IntKind.i64.wrap (((x::q).length:Int)-1)=(q.length:Int):=by
   rw[List.length_cons,wrap64 _ (by omega)];omega
  rw[e1,e2]at hs
  exact⟨rfl,gk.2 ⟨s,_,_,⟨by rw[List.length_set];exact hp,hr.take ⟨0,0,0⟩⟩,(hs.jN 5 [2,3,4,0,1] rfl (by simp)).drop.drop.drop⟩⟩
theorem a9E (hs:Sep h0 h R):Nzj 4 h (fun v h'=>∃b,v= .pointer (some ⟨b,0,none⟩)∧Sep h0 h' (fU b []::R)):=by
 apply e7N
 unfold d7t
 refine aA (by rfl) ?_
 refine hs.make pH 3 ⟨0,0,0⟩ rfl (by omega) (by omega) (by omega) fun s h hn hs=>?_
 ((refine Sep.new hs fun nb h hs=>?_;try simp only[sz2]at hs))
 exact⟨nb,rfl,gk.2 ⟨s,_,0,⟨by simp,.nil _⟩,hs⟩⟩
end
end Go.Proofs.YtnpinhahjgbigaaGreatDoor
end
section
namespace Go.Proofs.YtnpinhahjgbigaaGreatDoor
open Go Go.Sb
abbrev sW (w:Nat):List Value:=[.int .u64 (w:Int),.int .u64 0]
theorem c5q {a b:Nat}(ha:a<2 ^ 64)(hb:b<2 ^ 64):qt .u64 (a:Int) (b:Int)=((a&&& b:Nat):Int):=by
 have hx:a&&& b<2 ^ 64:=Nat.and_lt_two_pow _ hb
 have h1:(BitVec.ofInt 64 (a:Int)).toNat=a:=by rw[BitVec.ofInt_natCast,BitVec.toNat_ofNat];exact Nat.mod_eq_of_lt ha
 have h2:(BitVec.ofInt 64 (b:Int)).toNat=b:=by rw[BitVec.ofInt_natCast,BitVec.toNat_ofNat];exact Nat.mod_eq_of_lt hb
 show IntKind.u64.wrap ((BitVec.ofInt 64 (a:Int)&&& BitVec.ofInt 64 (b:Int)).toNat:Int)=_
 rw[BitVec.toNat_and,h1,h2,mE _ (by omega)]
theorem d7N {a b:Nat}(ha:a<2 ^ 64)(hb:b<2 ^ 64):ior .u64 (a:Int) (b:Int)=((a|||b:Nat):Int):=by
 have hx:a|||b<2 ^ 64:=Nat.or_lt_two_pow ha hb
 have h1:(BitVec.ofInt 64 (a:Int)).toNat=a:=by rw[BitVec.ofInt_natCast,BitVec.toNat_ofNat];exact Nat.mod_eq_of_lt ha
 have h2:(BitVec.ofInt 64 (b:Int)).toNat=b:=by rw[BitVec.ofInt_natCast,BitVec.toNat_ofNat];exact Nat.mod_eq_of_lt hb
 show IntKind.u64.wrap ((BitVec.ofInt 64 (a:Int)|||BitVec.ofInt 64 (b:Int)).toNat:Int)=_
 rw[BitVec.toNat_or,h1,h2,mE _ (by omega)]
def DP (a b:Nat):Nat:=a&&& (2 ^ 64-1-b)
theorem JO {a b:Nat}:DP a b<2 ^ 64:=by unfold DP;exact Nat.and_lt_two_pow _ (by omega)
theorem a9F {a b:Nat}(ha:a<2 ^ 64)(hb:b<2 ^ 64):Cw .u64 (a:Int) (b:Int)=((DP a b:Nat):Int):=by
 have h1:(BitVec.ofInt 64 (a:Int)).toNat=a:=by rw[BitVec.ofInt_natCast,BitVec.toNat_ofNat];exact Nat.mod_eq_of_lt ha
 have h2:(BitVec.ofInt 64 (b:Int)).toNat=b:=by rw[BitVec.ofInt_natCast,BitVec.toNat_ofNat];exact Nat.mod_eq_of_lt hb
 show IntKind.u64.wrap ((BitVec.ofInt 64 (a:Int)&&& ~~~BitVec.ofInt 64 (b:Int)).toNat:Int)=_
 have:=JO (a:=a) (b:=b)
 rw[BitVec.toNat_and,BitVec.toNat_not,h1,h2,mE _ (by unfold DP at this;omega)]
 rfl
theorem sX {a i:Nat}(hi:i<64)(j:Nat):(DP a (2 ^ i)).testBit j=(a.testBit j&&decide (j≠i)&&decide (j<64)):=by
 unfold DP
 have h2:2 ^ i<2 ^ 64:=Nat.pow_lt_pow_right (by omega) hi
 rw[Nat.testBit_and,show 2 ^ 64-1-2 ^ i=2 ^ 64-(2 ^ i+1) by omega,Nat.testBit_two_pow_sub_succ h2,Nat.testBit_two_pow]
 by_cases h:i=j
 ·subst h;simp
 ·have:¬j=i:=fun e=>h e.symm
  by_cases h64:j<64<;>simp[h,this,h64]
theorem A7 (w k:Nat)(hk:k≤64):tN .u64 (w:Int) (k:Int)=((w / 2 ^ k:Nat):Int):=by
 unfold tN
 rw[Int.toNat_natCast,show IntKind.u64.bits=64 from rfl,Nat.min_eq_left hk,show (2:Int) ^ k=((2 ^ k:Nat):Int) by simp,Int.fdiv_eq_ediv_of_nonneg _ (Int.natCast_nonneg _),Int.natCast_ediv]
theorem Yz {i:Nat}(hi:i<64):a7M .u64 1 (i:Int)=((2 ^ i:Nat):Int):=by
 have h2:2 ^ i<2 ^ 64:=Nat.pow_lt_pow_right (by omega) hi
 unfold a7M
 rw[Int.toNat_natCast,show IntKind.u64.bits=64 from rfl,Nat.min_eq_left (by omega),Int.one_mul,show (2:Int) ^ i=((2 ^ i:Nat):Int) by simp]
 generalize 2 ^ i=q at h2 ⊢
 exact mE _ (by omega)
def nH (x:Nat):Nat:=if x=0 then 0 else x.log2+1
theorem pI {x k:Nat}(h:2 ^ k≤x):nH x=k+nH (x / 2 ^ k):=by
 have hp:0<2 ^ k:=Nat.two_pow_pos k
 have h1:0<x / 2 ^ k:=Nat.div_pos h hp
 unfold nH
 rw[if_neg (by omega),if_neg (by omega),←Nat.add_assoc]
 congr 1
 rw[Nat.log2_eq_iff (by omega)]
 have h2:=Nat.log2_self_le (n:=x / 2 ^ k) (by omega)
 have h3:=Nat.lt_log2_self (n:=x / 2 ^ k)
 generalize (x / 2 ^ k).log2=m at h2 h3
 rw[show k+m+1=m+1+k by omega,show k+m=m+k by omega,Nat.pow_add 2 m,Nat.pow_add 2 (m+1)]
 exact⟨(Nat.le_div_iff_mul_le hp).1 h2,(Nat.div_lt_iff_lt_mul hp).1 h3⟩
section
variable {h0 h:Hp}{R:List As}{b:Nat}{w:Nat}
theorem e8f:(List.range 256).all (fun i=>decide ((ByteArray.mk #[0,1,2,2,3,3,3,3,4,4,4,4,4,4,4,4,5,5,5,5,5,5,5,5,5,5,5,5,5,5,5,5,6,6,6,6,6,6,6,6,6,6,6,6,6,6,6,6,6,6,6,6,6,6,6,6,6,6,6,6,6,6,6,6,7,7,7,7,7,7,7,7,7,7,7,7,7,7,7,7,7,7,7,7,7,7,7,7,7,7,7,7,7,7,7,7,7,7,7,7,7,7,7,7,7,7,7,7,7,7,7,7,7,7,7,7,7,7,7,7,7,7,7,7,7,7,7,7,8,8,8,8,8,8,8,8,8,8,8,8,8,8,8,8,8,8,8,8,8,8,8,8,8,8,8,8,8,8,8,8,8,8,8,8,8,8,8,8,8,8,8,8,8,8,8,8,8,8,8,8,8,8,8,8,8,8,8,8,8,8,8,8,8,8,8,8,8,8,8,8,8,8,8,8,8,8,8,8,8,8,8,8,8,8,8,8,8,8,8,8,8,8,8,8,8,8,8,8,8,8,8,8,8,8,8,8,8,8,8,8,8,8,8,8,8,8,8,8,8,8,8,8,8,8,8,8]:ByteArray)[i]? =some (UInt8.ofNat (nH i))))=true:=by kernel_rfl
theorem DQ {α:Type}{s:ByteArray}{i:Int}{k:Int→M α}{Q:α→Hp→Prop}{b:UInt8}(h1:0≤i)(h2:s[i.toNat]? =some b)(hk:k (b.toNat:Int) h Q):I5 s i k h Q:=⟨b,h1,h2,hk⟩
theorem a9G {x k:Nat}(h:x<2 ^ k):nH x≤k:=by
 unfold nH
 split
 ·omega
 ·rename_i hx
  have:=(Nat.log2_lt hx).2 h
  omega
set_option maxRecDepth 100000 in
theorem a9H {x:Nat}(hx:x<65536)(n:Nat)(hn:n≤48)(h:Hp):Kzo (x:Int) (n:Int) h (fun v h'=>v= .int .i64 ((n+nH x:Nat):Int)∧h'=h):=by
 have tb:∀i,i<256→_:=fun i hi=>of_decide_eq_true (List.all_eq_true.1 e8f i (List.mem_range.2 hi))
 have l8:∀i,i<256→((UInt8.ofNat (nH i)).toNat:Int)=(nH i:Int)∧nH i≤8:=fun i hi=>by
  have:=a9G (x:=i) (k:=8) (by omega)
  refine⟨?_,this⟩
  rw[UInt8.toNat_ofNat']
  omega
 apply e8e
 unfold d7L
 refine jS (fun hc=>?_) (fun hc=>?_)
 ·refine⟨by decide,?_⟩
  have e1:tN .u64 (x:Int) 8=((x / 256:Nat):Int):=A7 x 8 (by omega)
  have hq:x / 256<256:=by omega
  have e2:=pI (x:=x) (k:=8) (by omega)
  rw[show (2:Nat) ^ 8=256 from rfl]at e2
  rw[e1,show IntKind.u8.wrap ((x / 256:Nat):Int)=((x / 256:Nat):Int) by rw[IntKind.wrap_u8];omega]
  refine DQ (b:=UInt8.ofNat (nH (x / 256))) (by omega) ?_ ?_
  ·rw[Int.toNat_natCast]
   exact tb _ hq
  ·obtain⟨e3,e4⟩:=l8 _ hq
   rw[e3,e2]
   rw[wrap64 (nH (x / 256):Int) (by omega),wrap64 ((n:Int)+8) (by omega),wrap64 _ (by omega)]
   refine⟨?_,rfl⟩
   congr 1
   omega
 ·rw[show IntKind.u8.wrap (x:Int)=(x:Int) by rw[IntKind.wrap_u8];omega]
  refine DQ (b:=UInt8.ofNat (nH x)) (by omega) ?_ ?_
  ·rw[Int.toNat_natCast]
   exact tb x (by omega)
  ·obtain⟨e3,e4⟩:=l8 x (by omega)
   rw[e3]
   rw[wrap64 (nH x:Int) (by omega),wrap64 _ (by omega)]
   refine⟨?_,rfl⟩
   congr 1
theorem a9I {x:Nat}(hx:x<2 ^ 64)(h:Hp):c4H (x:Int) h (fun v h'=>v= .int .i64 (nH x:Int)∧h'=h):=by
 apply e8d
 unfold d7K
 have e32:tN .u64 (x:Int) 32=((x / 4294967296:Nat):Int):=A7 x 32 (by omega)
 have e16:∀y:Nat,tN .u64 (y:Int) 16=((y / 65536:Nat):Int):=fun y=>A7 y 16 (by omega)
 have s32:=fun hc=>pI (x:=x) (k:=32) hc
 have s16:=fun (y:Nat) hc=>pI (x:=y) (k:=16) hc
 rw[show (2:Nat) ^ 32=4294967296 from rfl]at s32
 rw[show (2:Nat) ^ 16=65536 from rfl]at s16
 refine jS (fun hc=>?_) (fun hc=>?_)
 ·refine⟨by decide,?_⟩
  rw[e32,s32 (by omega)]
  refine jS (fun hd=>?_) (fun hd=>?_)
  ·refine⟨by decide,?_⟩
   rw[e16,s16 _ (by omega),show IntKind.i64.wrap ((32:Int)+16)=((48:Nat):Int) by decide]
   refine (a9H (by omega) 48 (by omega) h).mono ?_
   rintro v h' ⟨rfl,rfl⟩
   refine⟨?_,rfl⟩
   congr 1
   omega
  ·exact a9H (by omega) 32 (by omega) h
 ·refine jS (fun hd=>?_) (fun hd=>?_)
  ·refine⟨by decide,?_⟩
   rw[e16,s16 _ (by omega),show IntKind.i64.wrap ((0:Int)+16)=((16:Nat):Int) by decide]
   exact a9H (by omega) 16 (by omega) h
  ·refine (a9H (x:=x) (by omega) 0 (by omega) h).mono ?_
   rintro v h' ⟨rfl,rfl⟩
   refine⟨?_,rfl⟩
   congr 1
   omega
theorem YA (h:Hp)(s:Option Addr)(n:Int):a9c s n h (fun v h'=>v= .bool (((!s.isNone)&&(decide (n≥(0:Int))))&&(decide (n≤(64:Int))))∧h'=h):=by
 apply e8b
 unfold d7I
 exact⟨rfl,rfl⟩
theorem YB (hs:Sep h0 h (aBlk b (sW w)::R))(hw:w<2 ^ 64){n:Nat}(hn:n<64):a9b (some ⟨b,0,none⟩) (n:Int) h (fun v h'=>v= .bool (w.testBit n)∧h'=h):=by
 apply e8a
 unfold d7H
 rw[ae]
 refine (YA _ _ _).mono ?_
 rintro v h' ⟨rfl,rfl⟩
 simp only[av]
 rw[decide_eq_true (by omega:(n:Int)≥0),decide_eq_true (by omega:(n:Int)≤64)]
 rw[Int.tdiv_eq_ediv_of_nonneg (by omega),Int.tmod_eq_emod_of_nonneg (by omega),show (n:Int) / 64=0 by omega,show (n:Int)%64=(n:Int) by omega]
 rw[mE (n:Int) (by omega),wrap64 _ (by omega)]
 (simp only[Option.isNone_some,Bool.not_false,Bool.and_true,au,aq,ae])
 refine⟨by decide,?_⟩
 refine kV (by decide) (by decide) ?_
 show ab .u64 ⟨b,0,none⟩ _ _ _
 (refine Sep.aB hs 0 rfl rfl ?_)
 refine⟨by decide,by omega,?_⟩
 rw[ak]
 refine⟨?_,rfl⟩
 rw[A7 w n (by omega),show (1:Int)=((1:Nat):Int) from rfl,c5q (Nat.lt_of_le_of_lt (Nat.div_le_self _ _) hw) (by decide)]
 congr 1
 rw[Nat.and_one_is_mod,←Nat.shiftRight_eq_div_pow]
 rw[Nat.testBit,Nat.one_and_eq_mod_two]
 have:=Nat.mod_two_eq_zero_or_one (w >>> n)
 rcases this with e|e<;>rw[e]<;>rfl
theorem c5r (hs:Sep h0 h (aBlk b (sW w)::R))(hw:w<2 ^ 64){n:Nat}(hn:n<64):Nzn (some ⟨b,0,none⟩) (n:Int) h (fun v h'=>(∃z,v= .bool z)∧Sep h0 h' (aBlk b (sW (w|||2 ^ n))::R)):=by
 apply e7T
 unfold d7C
 rw[ae]
 refine (YA _ _ _).mono ?_
 rintro v h' ⟨rfl,rfl⟩
 simp only[av]
 rw[decide_eq_true (by omega:(n:Int)≥0),decide_eq_true (by omega:(n:Int)≤64),ae]
 refine aA rfl ?_
 rw[ae]
 refine (YB hs hw hn).mono ?_
 rintro v h' ⟨rfl,rfl⟩
 simp only[av]
 rw[ak]
 refine aE (fun hb=>?_) (fun hb=>?_)
 ·refine⟨⟨_,rfl⟩,?_⟩
  have:w|||2 ^ n=w:=by
   refine Nat.eq_of_testBit_eq fun i=>?_
   rw[Nat.testBit_or,Nat.testBit_two_pow]
   by_cases e:n=i
   ·subst e;rw[hb];rfl
   ·simp[e]
  rw[this]
  exact hs
 ·rw[Int.tdiv_eq_ediv_of_nonneg (by omega),Int.tmod_eq_emod_of_nonneg (by omega),show (n:Int) / 64=0 by omega,show (n:Int)%64=(n:Int) by omega]
  rw[mE (n:Int) (by omega),wrap64 _ (by omega)]
  refine⟨by decide,?_⟩
  (simp only[au])
  refine kV (by decide) (by decide) ?_
  refine⟨by decide,by omega,?_⟩
  (refine Sep.aB hs 0 rfl rfl ?_)
  refine kV (by decide) (by decide) ?_
  show an ⟨b,0,none⟩ _ _ _ _
  ((refine Sep.st hs 0 rfl rfl rfl fun h hs=>?_;simp only[sz0,sz1]at hs))
  rw[Yz hn,d7N hw (Nat.pow_lt_pow_right (by omega) hn)]at hs
  exact⟨⟨_,rfl⟩,hs⟩
theorem a9J (hs:Sep h0 h (aBlk b (sW w)::R))(hw:w<2 ^ 64){n:Nat}(hn:n<64)(hb:w.testBit n=true):c4F (some ⟨b,0,none⟩) (n:Int) h (fun v h'=>v= .bool true∧Sep h0 h' (aBlk b (sW (DP w (2 ^ n)))::R)):=by
 apply e7R
 unfold d7A
 rw[ae]
 refine (YB hs hw hn).mono ?_
 rintro v h' ⟨rfl,rfl⟩
 rw[hb]
 simp only[av]
 refine aA rfl ?_
 rw[Int.tdiv_eq_ediv_of_nonneg (by omega),Int.tmod_eq_emod_of_nonneg (by omega),show (n:Int) / 64=0 by omega,show (n:Int)%64=(n:Int) by omega]
 rw[mE (n:Int) (by omega),wrap64 _ (by omega)]
 refine⟨by decide,?_⟩
 (simp only[au])
 refine kV (by decide) (by decide) ?_
 refine⟨by decide,by omega,?_⟩
 (refine Sep.aB hs 0 rfl rfl ?_)
 refine kV (by decide) (by decide) ?_
 show an ⟨b,0,none⟩ _ _ _ _
 ((refine Sep.st hs 0 rfl rfl rfl fun h hs=>?_;simp only[sz0,sz1]at hs))
 rw[Yz hn,a9F hw (Nat.pow_lt_pow_right (by omega) hn)]at hs
 exact⟨rfl,hs⟩
def a9K (w:Nat):Int:=if w=0 then -1 else (w.log2:Int)
theorem c5s (hs:Sep h0 h (aBlk b (sW w)::R))(hw:w<2 ^ 64):c4G (some ⟨b,0,none⟩) h (fun v h'=>v= .int .i64 (a9K w)∧h'=h):=by
 apply e7U
 unfold d7D
 refine aA rfl ?_
 apply Sz2
 unfold Bz2
 refine aM rfl ?_
 (simp only[au])
 refine kV (by decide) (by decide) ?_
 show ab .u64 ⟨b,1,none⟩ _ _ _
 (refine Sep.aB hs 0 rfl rfl ?_)
 refine aA rfl ?_
 rw[show IntKind.i64.wrap ((1:Int)-1)=0 by decide]
 apply Sz2
 unfold Bz2
 refine aM rfl ?_
 (simp only[au])
 refine kV (by decide) (by decide) ?_
 show ab .u64 ⟨b,0,none⟩ _ _ _
 (refine Sep.aB hs 0 rfl rfl ?_)
 unfold a9K
 by_cases hz:w=0
 ·subst hz
  refine aA rfl ?_
  rw[show IntKind.i64.wrap ((0:Int)-1)= -1 by decide]
  apply Sz2
  unfold Bz2
  exact aA rfl ⟨rfl,rfl⟩
 ·refine aM (by simp;omega) ?_
  rw[ae]
  apply e8c
  unfold d7J
  rw[ae]
  refine (a9I hw h).mono ?_
  rintro v h' ⟨rfl,rfl⟩
  simp only[az]
  have hl:nH w=w.log2+1:=by unfold nH;rw[if_neg hz]
  have hle:=(Nat.log2_lt hz).2 hw
  rw[if_neg hz,hl,show IntKind.i64.wrap (IntKind.i64.wrap (IntKind.i64.wrap ((0:Int)*64)+64)-1)=63 by decide,ak]
  simp only[az]
  rw[wrap64 ((64:Int)- _) (by omega),wrap64 _ (by omega)]
  refine⟨?_,rfl⟩
  congr 1
  omega
theorem a9L (hz:w≠0):w.testBit w.log2=true:=by
 have h1:=Nat.log2_self_le hz
 have h2:=Nat.lt_log2_self (n:=w)
 rw[Nat.testBit,Nat.one_and_eq_mod_two,Nat.shiftRight_eq_div_pow]
 generalize w.log2=m at h1 h2
 rw[Nat.pow_succ]at h2
 have hp:0<2 ^ m:=Nat.two_pow_pos m
 have:w / 2 ^ m=1:=by
  have a1:=(Nat.le_div_iff_mul_le hp).2 (show 1*2 ^ m≤w by omega)
  have a2:=(Nat.div_lt_iff_lt_mul hp).2 (show w<2*2 ^ m by omega)
  omega
 rw[this];rfl
theorem a9M {i:Nat}(hi:w.testBit i=true):w≠0∧i≤w.log2:=by
 have hz:w≠0:=by rintro rfl;simp at hi
 refine⟨hz,?_⟩
 rcases Nat.lt_or_ge w.log2 i with hc|hc
 ·have h2:=Nat.lt_log2_self (n:=w)
  have:w<2 ^ i:=Nat.lt_of_lt_of_le h2 (Nat.pow_le_pow_right (by omega) (by omega))
  rw[Nat.testBit_lt_two_pow this]at hi
  cases hi
 ·exact hc
theorem c5t (hs:Sep h0 h R):c4D ⟨none,0,0⟩ h (fun v h'=>∃b,v= .pointer (some ⟨b,0,none⟩)∧Sep h0 h' (aBlk b (sW 0)::R)):=by
 apply e7L
 unfold d7r
 ((refine Sep.new hs fun nb h hs=>?_;try simp only[sz2]at hs);simp only)
 apply e7M
 unfold d7s
 exact aA rfl ⟨_,rfl,hs⟩
end
end Go.Proofs.YtnpinhahjgbigaaGreatDoor
end
section
namespace Go.Proofs.YtnpinhahjgbigaaGreatDoor
open Go Go.Sb
structure PQ where
 pr:Int
 nx:Int
 q:List cA
abbrev kx (x:Int×Int×Nat):List Value:=[.int .i64 x.1,.int .i64 x.2.1,.pointer (some ⟨x.2.2,0,none⟩)]
def fH (x:Int×Int×Nat)(y:PQ):As:=aStar (aPure (x.1=y.pr∧x.2.1=y.nx)) (fU x.2.2 y.q)
structure oH (ys:List PQ) (f:Int→Option Value) (w:Nat):Prop where
 wlt:w<2 ^ 64
 pr:∀(i:Nat) (y:PQ),ys[i]? =some y→0≤y.pr∧y.pr<64∧f y.pr=some (.int .i64 (i:Int))
 gS:∀(i:Nat) (y:PQ),ys[i]? =some y→∀x∈y.q,x.t=(i:Int)
 bit:∀p:Nat,w.testBit p=true↔∃(i:Nat) (y:PQ),ys[i]? =some y∧y.pr=(p:Int)∧y.q≠[]
 yg:ys.length≤64
def cR (b:Nat)(ys:List PQ):As:=aEx fun t:Sl×Nat×(Int→Option Value)×Nat×Nat×Nat=>
 aStar (aPure (oH ys t.2.2.1 t.2.2.2.2.2)) (aStar (aBlk b [.slice t.1.p t.1.n t.1.c,.map (some t.2.1),.pointer (some ⟨t.2.2.2.2.1,0,none⟩)])
 (aStar (aMap t.2.1 .i64 t.2.2.1 t.2.2.2.1) (aStar (aBlk t.2.2.2.2.1 (sW t.2.2.2.2.2)) (aHR kx 3 fH t.1 ys))))
structure YC (ys:List PQ) (i:Nat) (y:PQ):Prop where
 at_:ys[i]? =some y
 ne:y.q≠[]
 top:∀(j:Nat) (z:PQ),ys[j]? =some z→z.q≠[]→z.pr≤y.pr
theorem oH.inj {ys:List PQ}{f:Int→Option Value}{w:Nat}(hr:oH ys f w){i j:Nat}{y z:PQ}(hi:ys[i]? =some y)(hj:ys[j]? =some z)(he:y.pr=z.pr):i=j:=by
 have h1:=(hr.pr i y hi).2.2
 have h2:=(hr.pr j z hj).2.2
 rw[he,h2]at h1
 simp at h1
 omega
theorem oH.put {ys:List PQ}{f:Int→Option Value}{w:Nat}(hr:oH ys f w){i:Nat}{y:PQ}(hi:ys[i]? =some y)(x:cA)(hx:x.t=(i:Int))(nx:Int){p:Nat}(hp:y.pr=(p:Int)):oH (ys.set i ⟨y.pr,nx,y.q++[x]⟩) f (w|||2 ^ p):=by
 have hil:=(List.getElem?_eq_some_iff.1 hi).1
 have T4:=hr.pr i y hi
 have ng:∀(j:Nat) (z:PQ),(ys.set i ⟨y.pr,nx,y.q++[x]⟩)[j]? =some z→(j=i∧z=⟨y.pr,nx,y.q++[x]⟩)∨(j≠i∧ys[j]? =some z):=by
  intro j z hj
  rw[List.getElem?_set]at hj
  split at hj
  ·rename_i e;subst e
   exact .inl ⟨rfl,by simpa using hj.symm⟩
  ·exact .inr ⟨fun e=>by subst e;contradiction,hj⟩
 refine⟨Nat.or_lt_two_pow hr.wlt (Nat.pow_lt_pow_right (by omega) (by omega)),?_,?_,?_,by rw[List.length_set];exact hr.yg⟩
 ·intro j z hj
  rcases ng j z hj with ⟨rfl,rfl⟩|⟨_,hj⟩
  ·exact T4
  ·exact hr.pr j z hj
 ·intro j z hj
  rcases ng j z hj with ⟨rfl,rfl⟩|⟨_,hj⟩
  ·intro x' hx'
   rcases List.mem_append.1 hx' with h|h
   ·exact hr.gS j y hi x' h
   ·rw[List.mem_singleton.1 h];exact hx
  ·exact hr.gS j z hj
 ·intro p'
  rw[Nat.testBit_or,Nat.testBit_two_pow,Bool.or_eq_true,hr.bit]
  constructor
  ·rintro (⟨j,z,hj,e1,e2⟩|h)
   ·by_cases e:j=i
    ·subst e
     rw[hi]at hj;cases hj
     exact⟨j,_,List.getElem?_set_self hil,e1,by simp⟩
    ·exact⟨j,z,by rw[List.getElem?_set_ne (fun h=>e h.symm)];exact hj,e1,e2⟩
   ·have e:p=p':=by simpa using h
    subst e
    exact⟨i,_,List.getElem?_set_self hil,hp,by simp⟩
  ·rintro ⟨j,z,hj,e1,e2⟩
   rcases ng j z hj with ⟨rfl,rfl⟩|⟨_,hj⟩
   ·right
    simp only at e1
    simp;omega
   ·exact .inl ⟨j,z,hj,e1,e2⟩
theorem oH.num {ys:List PQ}{f:Int→Option Value}{w:Nat}(hr:oH ys f w){i:Nat}{y:PQ}(hi:ys[i]? =some y)(nx:Int):oH (ys.set i ⟨y.pr,nx,y.q⟩) f w:=by
 have hil:=(List.getElem?_eq_some_iff.1 hi).1
 have ng:∀(j:Nat) (z:PQ),(ys.set i ⟨y.pr,nx,y.q⟩)[j]? =some z→∃z',ys[j]? =some z'∧z.pr=z'.pr∧z.q=z'.q:=by
  intro j z hj
  rw[List.getElem?_set]at hj
  split at hj
  ·rename_i e;subst e
   cases hj
   exact⟨y,hi,rfl,rfl⟩
  ·exact⟨z,hj,rfl,rfl⟩
 refine⟨hr.wlt,?_,?_,?_,by rw[List.length_set];exact hr.yg⟩
 ·intro j z hj
  obtain⟨z',h1,h2,h3⟩:=ng j z hj
  rw[h2];exact hr.pr j z' h1
 ·intro j z hj
  obtain⟨z',h1,h2,h3⟩:=ng j z hj
  rw[h3];exact hr.gS j z' h1
 ·intro p
  rw[hr.bit]
  constructor
  ·rintro ⟨j,z,hj,e1,e2⟩
   by_cases e:j=i
   ·subst e
    rw[hi]at hj;cases hj
    exact⟨j,_,List.getElem?_set_self hil,e1,e2⟩
   ·exact⟨j,z,by rw[List.getElem?_set_ne (fun h=>e h.symm)];exact hj,e1,e2⟩
  ·rintro ⟨j,z,hj,e1,e2⟩
   obtain⟨z',h1,h2,h3⟩:=ng j z hj
   exact⟨j,z',h1,by rw[←h2];exact e1,by rw[←h3];exact e2⟩
theorem oH.take {ys:List PQ}{f:Int→Option Value}{w:Nat}(hr:oH ys f w){i:Nat}{y:PQ}(hi:ys[i]? =some y){x:cA}{q:List cA}(hq:y.q=x::q){p:Nat}(hp:y.pr=(p:Int)):oH (ys.set i ⟨y.pr,y.nx,q⟩) f (if q.length=0 then DP w (2 ^ p) else w):=by
 have hil:=(List.getElem?_eq_some_iff.1 hi).1
 have T4:=hr.pr i y hi
 have ng:∀(j:Nat) (z:PQ),(ys.set i ⟨y.pr,y.nx,q⟩)[j]? =some z→(j=i∧z=⟨y.pr,y.nx,q⟩)∨(j≠i∧ys[j]? =some z):=by
  intro j z hj
  rw[List.getElem?_set]at hj
  split at hj
  ·rename_i e;subst e
   exact .inl ⟨rfl,by simpa using hj.symm⟩
  ·exact .inr ⟨fun e=>by subst e;contradiction,hj⟩
 refine⟨?_,?_,?_,?_,by rw[List.length_set];exact hr.yg⟩
 ·split
  ·exact JO
  ·exact hr.wlt
 ·intro j z hj
  rcases ng j z hj with ⟨rfl,rfl⟩|⟨_,hj⟩
  ·exact T4
  ·exact hr.pr j z hj
 ·intro j z hj
  rcases ng j z hj with ⟨rfl,rfl⟩|⟨_,hj⟩
  ·intro x' hx'
   exact hr.gS j y hi x' (by rw[hq];exact List.mem_cons_of_mem _ hx')
  ·exact hr.gS j z hj
 ·intro p'
  constructor
  ·intro h
   have h':w.testBit p'=true∧(q.length=0→p'≠p):=by
    split at h
    ·rw[sX (by omega)]at h
     simp only[Bool.and_eq_true,decide_eq_true_eq]at h
     exact⟨h.1.1,fun _=>h.1.2⟩
    ·exact⟨h,fun e=>by contradiction⟩
   obtain⟨j,z,hj,e1,e2⟩:=(hr.bit p').1 h'.1
   by_cases e:j=i
   ·subst e
    rw[hi]at hj;cases hj
    refine⟨j,_,List.getElem?_set_self hil,e1,fun hz=>?_⟩
    simp only at hz
    exact h'.2 (by rw[hz];rfl) (by omega)
   ·exact⟨j,z,by rw[List.getElem?_set_ne (fun h=>e h.symm)];exact hj,e1,e2⟩
  ·rintro ⟨j,z,hj,e1,e2⟩
   rcases ng j z hj with ⟨rfl,rfl⟩|⟨hne,hj⟩
   ·simp only at e1 e2
    rw[if_neg (by intro e;exact e2 (List.length_eq_zero_iff.1 e))]
    exact (hr.bit p').2 ⟨j,y,hi,e1,by rw[hq];simp⟩
   ·have h1:=(hr.bit p').2 ⟨j,z,hj,e1,e2⟩
    have h2:=hr.pr j z hj
    split
    ·rw[sX (by omega),h1]
     have:p'≠p:=fun e=>hne (hr.inj hj hi (by omega))
     simp[this];omega
    ·exact h1
section
variable {h0 h:Hp}{R:List As}{b:Nat}{ys:List PQ}
theorem Gp {x:Int×Int×Nat}{y:PQ}:Sep h0 h (fH x y::R)↔(x.1=y.pr∧x.2.1=y.nx)∧Sep h0 h (fU x.2.2 y.q::R):=by
 unfold fH
 rw[Sep.star,Sep.pure]
theorem ky:Sep h0 h (cR b ys::R)↔∃(s:Sl)(m:Nat)(f:Int→Option Value)(n bb w:Nat),oH ys f w∧Sep h0 h (aBlk b [.slice s.p s.n s.c,.map (some m),.pointer (some ⟨bb,0,none⟩)]::aMap m .i64 f n::aBlk bb (sW w)::aHR kx 3 fH s ys::R):=by
 unfold cR
 rw[Sep.ex]
 constructor
 ·rintro ⟨⟨s,m,f,n,bb,w⟩,hs⟩
  rw[Sep.star,Sep.pure,Sep.star]at hs
  refine⟨s,m,f,n,bb,w,hs.1,?_⟩
  have h1:=(hs.2.swap)
  rw[Sep.star]at h1
  have h2:Sep h0 h (aStar (aBlk bb (sW w)) (aHR kx 3 fH s ys)::aBlk b [.slice s.p s.n s.c,.map (some m),.pointer (some ⟨bb,0,none⟩)]::aMap m .i64 f n::R):=h1.jN 3 [1,2,0] rfl (by simp)
  rw[Sep.star]at h2
  exact h2.jN 4 [2,3,0,1] rfl (by simp)
 ·rintro ⟨s,m,f,n,bb,w,hr,hs⟩
  refine⟨⟨s,m,f,n,bb,w⟩,?_⟩
  rw[Sep.star,Sep.pure,Sep.star]
  refine⟨hr,Sep.swap ?_⟩
  rw[Sep.star]
  have h2:Sep h0 h (aBlk bb (sW w)::aHR kx 3 fH s ys::aBlk b [.slice s.p s.n s.c,.map (some m),.pointer (some ⟨bb,0,none⟩)]::aMap m .i64 f n::R):=hs.jN 4 [2,3,0,1] rfl (by simp)
  rw[←Sep.star]at h2
  exact h2.jN 3 [2,0,1] rfl (by simp)
theorem YD (hs:Sep h0 h (cR b ys::R)){i:Nat}{y:PQ}(hi:ys[i]? =some y):∃(s:Sl) (m:Nat) (f:Int→Option Value) (n bb w rb:Nat) (ss:List (Int×Int×Nat)),oH ys f w∧ss.length=ys.length∧ss[i]? =some (y.pr,y.nx,rb)∧
  Sep h0 h (fU rb y.q::aRow kx 3 s ss::aBlk b [.slice s.p s.n s.c,.map (some m),.pointer (some ⟨bb,0,none⟩)]::aMap m .i64 f n::aBlk bb (sW w)::db ((List.zipWith fH ss ys).eraseIdx i)::R):=by
 obtain⟨hil,hie⟩:=List.getElem?_eq_some_iff.1 hi
 obtain⟨s,m,f,n,bb,w,hr,hs⟩:=ky.1 hs
 have hs:=(hs.jN 4 [3,0,1,2] rfl (by simp):Sep h0 h (aHR kx 3 fH s ys::aBlk b [.slice s.p s.n s.c,.map (some m),.pointer (some ⟨bb,0,none⟩)]::aMap m .i64 f n::aBlk bb (sW w)::R))
 obtain⟨ss,hl,hs⟩:=hs.b5A i hil
 rw[hie]at hs
 obtain⟨⟨e1,e2⟩,hs⟩:=Gp.1 hs
 refine⟨s,m,f,n,bb,w,(ss[i]'(by omega)).2.2,ss,hr,hl,?_,hs.jN 6 [0,1,3,4,5,2] rfl (by simp)⟩
 rw[List.getElem?_eq_getElem (by omega),←e1,←e2]
theorem A8 {s:Sl}{m n bb w rb i:Nat}{f:Int→Option Value}{ss:List (Int×Int×Nat)}{y:PQ}(hl:ss.length=ys.length)(hil:i<ys.length)(hr:oH (ys.set i y) f w)
  (hs:Sep h0 h (fU rb y.q::aRow kx 3 s (ss.set i (y.pr,y.nx,rb))::aBlk b [.slice s.p s.n s.c,.map (some m),.pointer (some ⟨bb,0,none⟩)]::aMap m .i64 f n::aBlk bb (sW w)::db ((List.zipWith fH ss ys).eraseIdx i)::R)):Sep h0 h (cR b (ys.set i y)::R):=by
 refine ky.2 ⟨s,m,f,n,bb,w,hr,?_⟩
 have h1:Sep h0 h (aHR kx 3 fH s (ys.set i y)::aBlk b [.slice s.p s.n s.c,.map (some m),.pointer (some ⟨bb,0,none⟩)]::aMap m .i64 f n::aBlk bb (sW w)::R):=
  Sep.Uw (x:=(y.pr,y.nx,rb)) (ss:=ss) (Gp.2 ⟨⟨rfl,rfl⟩,(hs.jN 6 [0,1,5,2,3,4] rfl (by simp):Sep h0 h (fU rb y.q::aRow kx 3 s (ss.set i (y.pr,y.nx,rb))::db ((List.zipWith fH ss ys).eraseIdx i)::aBlk b [.slice s.p s.n s.c,.map (some m),.pointer (some ⟨bb,0,none⟩)]::aMap m .i64 f n::aBlk bb (sW w)::R))⟩) hl hil
 exact h1.jN 4 [1,2,3,0] rfl (by simp)
theorem QC {s:Sl}{ss:List (Int×Int×Nat)}{j:Nat}{L:List As}(hs:Sep h0 h L)(k:Nat)(hk:L[k]? =some (aRow kx 3 s ss))(hj:j<ss.length):∃a,At s a j 3:=by
 have h1:bd (α:=Unit) s (j:Int) 3 (fun a _ _=>At s a j 3) h (fun _ _=>True):=hs.idx k hk (by omega) (by omega) fun a ha=>by rw[Int.toNat_natCast]at ha;exact ha
 obtain⟨_,_,a,_,ha⟩:=h1
 exact⟨_,ha⟩
theorem YE {s:Sl}{ss:List (Int×Int×Nat)}{L:List As}{X Y:Value}{i:Nat}(hs:Sep h0 h L)(k1 k2:Nat)(hk1:L[k1]? =some (aBlk b [.slice s.p s.n s.c,X,Y]))(hk2:L[k2]? =some (aRow kx 3 s ss))(hi:i<ss.length):
  ∃a,At s a i 3∧Nzy (some ⟨b,0,none⟩) (i:Int) h (fun v h'=>v= .pointer (some a)∧h'=h):=by
 have mF:=hs.bn k2 hk2
 obtain⟨a,ha⟩:=QC hs k2 hk2 hi
 refine⟨a,ha,?_⟩
 apply e7O
 unfold d7u
 rw[ae]
 refine aA (by simp) ?_
 simp only[au]
 refine Sep.bu hs k1 hk1 rfl ?_
 rw[ak]
 refine aA (by simp;omega) ?_
 refine Sep.bu hs k1 hk1 rfl ?_
 refine hs.idx k2 hk2 (by omega) (by omega) fun a' ha'=>?_
 rw[Int.toNat_natCast]at ha'
 obtain⟨p,e1,e2⟩:=ha
 obtain⟨p',e1',e2'⟩:=ha'
 rw[e1]at e1'
 cases e1'
 rw[e2,e2']
 exact⟨rfl,rfl⟩
end
end Go.Proofs.YtnpinhahjgbigaaGreatDoor
end
section
namespace Go.Proofs.YtnpinhahjgbigaaGreatDoor
open Go Go.Sb
section
variable {h0 h:Hp}{R:List As}{b:Nat}{ys:List PQ}{C:bw}{sm sc se st sl:Sl}{ts:List (cx×Sl)}
def c5u (ys:List PQ)(v:Value):Prop:=
 ((∀y∈ys,y.q=[])∧v= .tuple #[gj ⟨0,0,0⟩,.int .i64 0,.bool false])∨
 ∃i y x q,YC ys i y∧y.q=x::q∧x.t=(i:Int)∧v= .tuple #[gj x,.int .i64 y.pr,.bool true]
theorem JP (hs:Sep h0 h (cR b ys::R)):a8Y (some ⟨b,0,none⟩) h (fun v h'=>c5u ys v∧Sep h0 h' (cR b ys::R)):=by
 obtain⟨s,m,f,n,bb,w,hr,hs1⟩:=ky.1 hs
 apply e7K
 unfold d7l
 refine Sep.new hs fun x2 h hs=>?_
 simp only[sz2]at hs
 refine aA rfl ?_
 have hs:=hs.swap
 obtain⟨s,m,f,n,bb,w,hr,hs1⟩:=ky.1 hs
 simp only[au,ay,Nat.zero_add]
 refine Sep.kN hs1 0 rfl rfl ?_
 rw[ae]
 have hb2:Sep h0 h (aBlk bb (sW w)::aBlk b [.slice s.p s.n s.c,.map (some m),.pointer (some ⟨bb,0,none⟩)]::aMap m .i64 f n::aHR kx 3 fH s ys::aBlk x2 [.int .i64 0,.int .i64 0,.int .i64 0]::R):=hs1.jN 3 [2,0,1] rfl (by simp)
 refine (c5s hb2 hr.wlt).mono ?_
 rintro v h' ⟨rfl,rfl⟩
 simp only[az]
 by_cases hz:w=0
 ·subst hz
  refine aM (by rfl) ?_
  have hs:Sep h0 h' (aBlk x2 [.int .i64 0,.int .i64 0,.int .i64 0]::cR b ys::R):=hs.swap
  ((refine Sep.st hs 0 rfl rfl rfl fun h hs=>?_;simp only[sz0,sz1]at hs);(refine Sep.st hs 0 rfl rfl rfl fun h hs=>?_;simp only[sz0,sz1]at hs);(refine Sep.st hs 0 rfl rfl rfl fun h hs=>?_;simp only[sz0,sz1]at hs);refine Sep.aB hs 0 rfl rfl ?_;refine Sep.aB hs 0 rfl rfl ?_;refine Sep.aB hs 0 rfl rfl ?_)
  refine⟨.inl ⟨fun y hy=>?_,rfl⟩,hs.drop⟩
  obtain⟨i,hi⟩:=List.getElem?_of_mem hy
  have h1:=hr.pr i y hi
  by_cases hq:y.q=[]
  ·exact hq
  ·have:=(hr.bit y.pr.toNat).2 ⟨i,y,hi,by omega,hq⟩
   simp at this
 ·have ht:a9K w=(w.log2:Int):=by unfold a9K;rw[if_neg hz]
  rw[ht]
  refine aA (by first|omega|simp|(simp;omega)) ?_
  obtain⟨i,y,hi,hp,hq⟩:=(hr.bit _).1 (a9L hz)
  obtain⟨hil,hie⟩:=List.getElem?_eq_some_iff.1 hi
  have hpi:=hr.pr i y hi
  refine Sep.ldM hs1 0 rfl rfl ?_
  simp only[fS]
  refine Sep.Uq hs1 1 rfl ?_
  rw[←hp,hpi.2.2]
  simp only[Option.getD_some,az]
  obtain⟨s,m,f',n,bb,w',rb,ss,hr',hl,hx,sS⟩:=YD hs hi
  rw[ae]
  obtain⟨a,ha,hm⟩:=YE (i:=i) sS 2 1 rfl rfl (by omega)
  refine hm.mono ?_
  rintro v h' ⟨rfl,rfl⟩
  simp only[aS,au]
  refine sS.K7 1 rfl (fun _=>rfl) ha hx rfl ?_
  rw[ae]
  refine (zV sS).mono ?_
  rintro v h ⟨rfl,sS⟩
  cases hyq:y.q with
  |nil=>exact absurd hyq hq
  |cons x q=>
   simp only[a9C,cC,bW,cG,cH,az,av]
   have e:ys.set i y=ys:=by rw[←hie];exact List.set_getElem_self hil
   have e2:ss.set i (y.pr,y.nx,rb)=ss:=by
    obtain⟨q1,q2⟩:=List.getElem?_eq_some_iff.1 hx
    rw[←q2];exact List.set_getElem_self q1
   have hs3:=A8 (i:=i) (y:=y) (ss:=ss) (rb:=rb) hl hil (by rw[e];exact hr') (by rw[e2];exact sS)
   rw[e]at hs3
   have hs:=hs3.swap
   ((refine Sep.new hs fun nb h hs=>?_;try simp only[sz2]at hs);(refine Sep.st hs 0 rfl rfl rfl fun h hs=>?_;simp only[sz0,sz1]at hs);(refine Sep.st hs 0 rfl rfl rfl fun h hs=>?_;simp only[sz0,sz1]at hs);(refine Sep.st hs 0 rfl rfl rfl fun h hs=>?_;simp only[sz0,sz1]at hs);refine Sep.aB hs 0 rfl rfl ?_;refine Sep.aB hs 0 rfl rfl ?_;refine Sep.aB hs 0 rfl rfl ?_;(refine Sep.st hs 1 rfl rfl rfl fun h hs=>?_;simp only[sz0,sz1]at hs);(refine Sep.st hs 1 rfl rfl rfl fun h hs=>?_;simp only[sz0,sz1]at hs);(refine Sep.st hs 1 rfl rfl rfl fun h hs=>?_;simp only[sz0,sz1]at hs);refine Sep.aB hs 1 rfl rfl ?_;refine Sep.aB hs 1 rfl rfl ?_;refine Sep.aB hs 1 rfl rfl ?_)
   refine⟨.inr ⟨i,y,x,q,⟨hi,hq,fun j z hj hz=>?_⟩,hyq,hr.gS i y hi x (by rw[hyq];simp),rfl⟩,hs.drop.drop⟩
   have h1:=hr.pr j z hj
   have h2:=(a9M ((hr.bit z.pr.toNat).2 ⟨j,z,hj,by omega,hz⟩)).2
   omega
def d7O (ys:List PQ)(v:Value)(zs:List PQ):Prop:=
 ((∀y∈ys,y.q=[])∧v= .tuple #[gj ⟨0,0,0⟩,.bool false]∧zs=ys)∨
 ∃i y x q,YC ys i y∧y.q=x::q∧v= .tuple #[gj x,.bool true]∧zs=ys.set i ⟨y.pr,y.nx,q⟩
theorem Gq (hs:Sep h0 h (cR b ys::R)):c4C (some ⟨b,0,none⟩) h (fun v h'=>∃zs,d7O ys v zs∧Sep h0 h' (cR b zs::R)):=by
 apply e7A
 unfold d6M
 refine Sep.new hs fun x2 h hs=>?_
 simp only[sz2]at hs
 rw[ae]
 refine (JP hs.swap).mono ?_
 rintro v h ⟨hv,hs⟩
 have hs:=hs.swap
 rcases hv with ⟨h1,rfl⟩|⟨i,y,x,q,ht,hyq,K1,rfl⟩
 ·(simp only[ay,Nat.zero_add,au,cC,bW,cH,av,Bool.not_false,aq,az,cG];(refine Sep.new hs fun nb h hs=>?_;try simp only[sz2]at hs);(refine Sep.st hs 0 rfl rfl rfl fun h hs=>?_;simp only[sz0,sz1]at hs);(refine Sep.st hs 0 rfl rfl rfl fun h hs=>?_;simp only[sz0,sz1]at hs);(refine Sep.st hs 0 rfl rfl rfl fun h hs=>?_;simp only[sz0,sz1]at hs);(refine Sep.st hs 1 rfl rfl rfl fun h hs=>?_;simp only[sz0,sz1]at hs);(refine Sep.st hs 1 rfl rfl rfl fun h hs=>?_;simp only[sz0,sz1]at hs);(refine Sep.st hs 1 rfl rfl rfl fun h hs=>?_;simp only[sz0,sz1]at hs);refine Sep.aB hs 1 rfl rfl ?_;refine Sep.aB hs 1 rfl rfl ?_;refine Sep.aB hs 1 rfl rfl ?_)
  exact⟨ys,.inl ⟨h1,rfl,rfl⟩,hs.drop.drop⟩
 ·(simp only[ay,Nat.zero_add,au,cC,bW,cH,av,Bool.not_true,aj,az,cG];(refine Sep.new hs fun nb h hs=>?_;try simp only[sz2]at hs);(refine Sep.st hs 0 rfl rfl rfl fun h hs=>?_;simp only[sz0,sz1]at hs);(refine Sep.st hs 0 rfl rfl rfl fun h hs=>?_;simp only[sz0,sz1]at hs);(refine Sep.st hs 0 rfl rfl rfl fun h hs=>?_;simp only[sz0,sz1]at hs);refine Sep.aB hs 0 rfl rfl ?_;simp only[ay,Nat.zero_add,ae])
  have hs:Sep h0 h (cR b ys::aBlk nb [.int .i64 x.t,.int .i64 x.n,.int .i64 x.a]::aBlk x2 [.int .i64 0,.int .i64 0,.int .i64 0]::R):=hs.jN 3 [2,0,1] rfl (by simp)
  obtain⟨s,m,f,n,bb,w,rb,ss,hr,hl,hx,sS⟩:=YD hs ht.at_
  have hil:=(List.getElem?_eq_some_iff.1 ht.at_).1
  have hpi:=hr.pr i y ht.at_
  rw[K1]
  obtain⟨a,ha,hm⟩:=YE (i:=i) sS 2 1 rfl rfl (by omega)
  refine hm.mono ?_
  rintro v h' ⟨rfl,rfl⟩
  simp only[aS,au]
  refine sS.K7 1 rfl (fun _=>rfl) ha hx rfl ?_
  rw[ae]
  refine (Yy sS).mono ?_
  rintro v h ⟨rfl,sS⟩
  rw[hyq]at sS ⊢
  simp only[b5Q,cC,bW,cG,cH,az,List.tail_cons]at sS ⊢
  refine sS.K7 1 rfl (fun _=>rfl) ha hx rfl ?_
  rw[ae]
  refine (JN sS).mono ?_
  rintro v h' ⟨rfl,rfl⟩
  simp only[az]
  have hp:y.pr=(y.pr.toNat:Int):=by omega
  have hri:=hr.take ht.at_ hyq hp
  have e2:ss.set i (y.pr,y.nx,rb)=ss:=by
   obtain⟨q1,q2⟩:=List.getElem?_eq_some_iff.1 hx
   rw[←q2];exact List.set_getElem_self q1
  refine aE (fun hc=>?_) (fun hc=>?_)
  ·have hc:q.length=0:=by simpa using hc
   rw[if_pos hc]at hri
   refine Sep.kN sS 2 rfl rfl ?_
   rw[ae]
   have hb2:=sS.jN 6 [4,0,1,2,3,5] rfl (by simp)
   rw[hp]
   refine (a9J hb2 hr.wlt (by omega) ((hr.bit _).2 ⟨i,y,ht.at_,hp,ht.ne⟩)).mono ?_
   rintro v h ⟨rfl,hb2⟩
   simp only[av]
   have hs3:=A8 (i:=i) (y:=⟨y.pr,y.nx,q⟩) (ss:=ss) (rb:=rb) hl hil hri (by rw[e2];exact hb2.jN 6 [1,2,3,4,0,5] rfl (by simp))
   have hs:=hs3.jN 3 [1,2,0] rfl (by simp)
   have hs:Sep h0 h (aBlk nb [.int .i64 x.t,.int .i64 x.n,.int .i64 x.a]::aBlk x2 [.int .i64 0,.int .i64 0,.int .i64 0]::cR b (ys.set i ⟨y.pr,y.nx,q⟩)::R):=hs
   (refine Sep.aB hs 0 rfl rfl ?_;refine Sep.aB hs 0 rfl rfl ?_;refine Sep.aB hs 0 rfl rfl ?_;(refine Sep.st hs 1 rfl rfl rfl fun h hs=>?_;simp only[sz0,sz1]at hs);(refine Sep.st hs 1 rfl rfl rfl fun h hs=>?_;simp only[sz0,sz1]at hs);(refine Sep.st hs 1 rfl rfl rfl fun h hs=>?_;simp only[sz0,sz1]at hs);refine Sep.aB hs 1 rfl rfl ?_;refine Sep.aB hs 1 rfl rfl ?_;refine Sep.aB hs 1 rfl rfl ?_)
   exact⟨_,.inr ⟨i,y,x,q,ht,hyq,rfl,rfl⟩,hs.drop.drop⟩
  ·have hc:¬q.length=0:=by simpa using hc
   rw[if_neg hc]at hri
   have hs3:=A8 (i:=i) (y:=⟨y.pr,y.nx,q⟩) (ss:=ss) (rb:=rb) hl hil hri (by rw[e2];exact sS)
   have hs:=hs3.jN 3 [1,2,0] rfl (by simp)
   have hs:Sep h0 h' (aBlk nb [.int .i64 x.t,.int .i64 x.n,.int .i64 x.a]::aBlk x2 [.int .i64 0,.int .i64 0,.int .i64 0]::cR b (ys.set i ⟨y.pr,y.nx,q⟩)::R):=hs
   (refine Sep.aB hs 0 rfl rfl ?_;refine Sep.aB hs 0 rfl rfl ?_;refine Sep.aB hs 0 rfl rfl ?_;(refine Sep.st hs 1 rfl rfl rfl fun h hs=>?_;simp only[sz0,sz1]at hs);(refine Sep.st hs 1 rfl rfl rfl fun h hs=>?_;simp only[sz0,sz1]at hs);(refine Sep.st hs 1 rfl rfl rfl fun h hs=>?_;simp only[sz0,sz1]at hs);refine Sep.aB hs 1 rfl rfl ?_;refine Sep.aB hs 1 rfl rfl ?_;refine Sep.aB hs 1 rfl rfl ?_)
   exact⟨_,.inr ⟨i,y,x,q,ht,hyq,rfl,rfl⟩,hs.drop.drop⟩
def jV (y:PQ)(i:Nat)(t:Int):PQ:=⟨y.pr,IntKind.i64.wrap (y.nx+1),if y.q.length=4 then y.q else y.q++[⟨i,y.nx,t⟩]⟩
theorem YF {i rb bb n m w w' x6 x9:Nat}{s:Sl}{f:Int→Option Value}{ss:List (Int×Int×Nat)}{z:PQ}{j:cA}{a:Addr}{e:Int}(hl:ss.length=ys.length)(hil:i<ys.length)(hx:ss[i]? =some (z.pr,z.nx,rb))(ha:At s a i 3)
  (hw:w<2 ^ 64) (hp:0≤z.pr∧z.pr<64) (he:w'=if e=0 then w|||2 ^ z.pr.toNat else w) (hr:oH (ys.set i z) f w')
  (hs:Sep h0 h (fU rb z.q::aRow kx 3 s ss::aBlk b [.slice s.p s.n s.c,.map (some m),.pointer (some ⟨bb,0,none⟩)]::aMap m .i64 f n::aBlk bb (sW w)::db ((List.zipWith fH ss ys).eraseIdx i)::aBlk x9 [.int .i64 j.t,.int .i64 j.n,.int .i64 j.a]::aBlk x6 [.int .i64 0,.int .i64 0,.int .i64 0]::R)):
  Kzz (some ⟨b,0,none⟩) ⟨x6,0,none⟩ (some a) ⟨x9,0,none⟩ e h (fun v h'=>v= .tuple #[gj j,.int .i64 e]∧Sep h0 h' (cR b (ys.set i z)::R)):=by
 have e2:ss.set i (z.pr,z.nx,rb)=ss:=by
  obtain⟨q1,q2⟩:=List.getElem?_eq_some_iff.1 hx
  rw[←q2];exact List.set_getElem_self q1
 have fin:∀h,Sep h0 h (fU rb z.q::aRow kx 3 s ss::aBlk b [.slice s.p s.n s.c,.map (some m),.pointer (some ⟨bb,0,none⟩)]::aMap m .i64 f n::aBlk bb (sW w')::db ((List.zipWith fH ss ys).eraseIdx i)::aBlk x9 [.int .i64 j.t,.int .i64 j.n,.int .i64 j.a]::aBlk x6 [.int .i64 0,.int .i64 0,.int .i64 0]::R)→Sep h0 h (aBlk x9 [.int .i64 j.t,.int .i64 j.n,.int .i64 j.a]::aBlk x6 [.int .i64 0,.int .i64 0,.int .i64 0]::cR b (ys.set i z)::R):=by
  intro h hs
  have hs3:=A8 (i:=i) (y:=z) (ss:=ss) (rb:=rb) hl hil hr (by rw[e2];exact hs)
  exact hs3.jN 3 [1,2,0] rfl (by simp)
 apply e7G
 unfold d7f
 refine aE (fun hc=>?_) (fun hc=>?_)
 ·have hc:e=0:=by simpa using hc
  rw[if_pos hc]at he
  have hb2:=hs.jN 6 [4,0,1,2,3,5] rfl (by simp)
  have put:∀{Q:Value→Hp→Prop} {K:Value→M Value},(∀v h,(∃z,v= .bool z)→Sep h0 h (aBlk x9 [.int .i64 j.t,.int .i64 j.n,.int .i64 j.a]::aBlk x6 [.int .i64 0,.int .i64 0,.int .i64 0]::cR b (ys.set i z)::R)→K v h Q)→ai (Nzn (some ⟨bb,0,none⟩) z.pr) K h Q:=by
   intro Q K hK
   rw[ae]
   rw[show z.pr=(z.pr.toNat:Int) by omega]
   refine (c5r hb2 hw (by omega)).mono ?_
   rintro v h ⟨hv,hb2⟩
   rw[←he]at hb2
   exact hK v h hv (fin h (hb2.jN 6 [1,2,3,4,0,5] rfl (by simp)))
  simp only[au,ay,Nat.zero_add]
  refine aK ?_ ?_
  ·refine Sep.kN hs 2 rfl rfl ?_
   refine hs.fR 1 rfl (fun _=>rfl) ha hx rfl ?_
   refine put fun v h hv hs=>?_
   obtain⟨_,rfl⟩:=hv
   (simp only[av];refine Sep.aB hs 0 rfl rfl ?_;refine Sep.aB hs 0 rfl rfl ?_;refine Sep.aB hs 0 rfl rfl ?_;(refine Sep.st hs 1 rfl rfl rfl fun h hs=>?_;simp only[sz0,sz1]at hs);(refine Sep.st hs 1 rfl rfl rfl fun h hs=>?_;simp only[sz0,sz1]at hs);(refine Sep.st hs 1 rfl rfl rfl fun h hs=>?_;simp only[sz0,sz1]at hs);refine Sep.aB hs 1 rfl rfl ?_;refine Sep.aB hs 1 rfl rfl ?_;refine Sep.aB hs 1 rfl rfl ?_)
   exact⟨rfl,hs.drop.drop⟩
  ·refine hs.fR 1 rfl (fun _=>rfl) ha hx rfl ?_
   refine Sep.kN hs 2 rfl rfl ?_
   refine put fun v h hv hs=>?_
   obtain⟨_,rfl⟩:=hv
   (simp only[av];refine Sep.aB hs 0 rfl rfl ?_;refine Sep.aB hs 0 rfl rfl ?_;refine Sep.aB hs 0 rfl rfl ?_;(refine Sep.st hs 1 rfl rfl rfl fun h hs=>?_;simp only[sz0,sz1]at hs);(refine Sep.st hs 1 rfl rfl rfl fun h hs=>?_;simp only[sz0,sz1]at hs);(refine Sep.st hs 1 rfl rfl rfl fun h hs=>?_;simp only[sz0,sz1]at hs);refine Sep.aB hs 1 rfl rfl ?_;refine Sep.aB hs 1 rfl rfl ?_;refine Sep.aB hs 1 rfl rfl ?_)
   exact⟨rfl,hs.drop.drop⟩
 ·have hc:¬e=0:=by simpa using hc
  rw[if_neg hc]at he
  have hs:=fin h (by rw[he];exact hs)
  (refine Sep.aB hs 0 rfl rfl ?_;refine Sep.aB hs 0 rfl rfl ?_;refine Sep.aB hs 0 rfl rfl ?_;(refine Sep.st hs 1 rfl rfl rfl fun h hs=>?_;simp only[sz0,sz1]at hs);(refine Sep.st hs 1 rfl rfl rfl fun h hs=>?_;simp only[sz0,sz1]at hs);(refine Sep.st hs 1 rfl rfl rfl fun h hs=>?_;simp only[sz0,sz1]at hs);refine Sep.aB hs 1 rfl rfl ?_;refine Sep.aB hs 1 rfl rfl ?_;refine Sep.aB hs 1 rfl rfl ?_)
  exact⟨rfl,hs.drop.drop⟩
theorem QD (hs:Sep h0 h (cR b ys::R)){i:Nat}{y:PQ}(hi:ys[i]? =some y)(t:Int):XS (some ⟨b,0,none⟩) (i:Int) t h (fun v h'=>v= .tuple #[gj ⟨i,y.nx,t⟩,.int .i64 (if y.q.length=4 then 7 else 0)]∧Sep h0 h' (cR b (ys.set i (jV y i t))::R)):=by
 obtain⟨hil,hie⟩:=List.getElem?_eq_some_iff.1 hi
 apply e7F
 unfold d7e
 refine Sep.new hs fun x6 h hs=>?_
 simp only[sz2]at hs
 rw[ae]
 obtain⟨s,m,f,n,bb,w,rb,ss,hr,hl,hx,hs⟩:=YD hs.swap hi
 have hpi:=hr.pr i y hi
 obtain⟨a,ha,hm⟩:=YE (i:=i) hs 2 1 rfl rfl (by omega)
 refine hm.mono ?_
 rintro v h' ⟨rfl,rfl⟩
 simp only[aS,au,Option.isNone_some,aj]
 refine hs.iu 1 rfl (fun _=>rfl) ha hx rfl ?_
 refine Sep.new hs fun x9 h hs=>?_
 simp only[sz2]at hs
 refine Sep.st hs 0 rfl rfl rfl fun h hs=>?_
 simp only[sz0]at hs
 refine Sep.st hs 0 rfl rfl rfl fun h hs=>?_
 simp only[sz0,sz1]at hs
 refine Sep.st hs 0 rfl rfl rfl fun h hs=>?_
 simp only[sz0,sz1]at hs
 refine hs.iu 2 rfl (fun _=>rfl) ha hx rfl ?_
 refine hs.sR 2 (y.pr,IntKind.i64.wrap (y.nx+1),rb) rfl (fun _=>rfl) ha hx (by omega) rfl rfl fun h hs=>?_
 simp only[sz0,sz1]at hs
 have hx':(ss.set i (y.pr,IntKind.i64.wrap (y.nx+1),rb))[i]? =some (y.pr,IntKind.i64.wrap (y.nx+1),rb):=List.getElem?_set_self (by omega)
 have hl':(ss.set i (y.pr,IntKind.i64.wrap (y.nx+1),rb)).length=ys.length:=by rw[List.length_set];exact hl
 have d7P:(List.zipWith fH (ss.set i (y.pr,IntKind.i64.wrap (y.nx+1),rb)) ys).eraseIdx i=(List.zipWith fH ss ys).eraseIdx i:=by
  refine List.ext_getElem? fun k=>?_
  rw[List.getElem?_eraseIdx,List.getElem?_eraseIdx]
  split
  ·rw[List.getElem?_zipWith,List.getElem?_zipWith,List.getElem?_set_ne (by omega)]
  ·rw[List.getElem?_zipWith,List.getElem?_zipWith,List.getElem?_set_ne (by omega)]
 rw[←d7P]at hs
 generalize ss.set i (y.pr,IntKind.i64.wrap (y.nx+1),rb)=ss' at hs hx' hl' d7P
 have hs:Sep h0 h (fU rb y.q::aRow kx 3 s ss'::aBlk b [.slice s.p s.n s.c,.map (some m),.pointer (some ⟨bb,0,none⟩)]::aMap m .i64 f n::aBlk bb (sW w)::db ((List.zipWith fH ss' ys).eraseIdx i)::aBlk x9 [.int .i64 (i:Int),.int .i64 y.nx,.int .i64 t]::aBlk x6 [.int .i64 0,.int .i64 0,.int .i64 0]::R):=hs.jN 8 [1,2,3,4,5,6,0,7] rfl (by simp)
 have put:ai (Nzz (some ⟨rb,0,none⟩) (i:Int) y.nx t) (fun r41=>aP .i64 r41 fun (A4:Int)=>Kzz (some ⟨b,0,none⟩) ⟨x6,0,none⟩ (some a) ⟨x9,0,none⟩ A4) h (fun v h'=>v= .tuple #[gj ⟨i,y.nx,t⟩,.int .i64 (if y.q.length=4 then 7 else 0)]∧Sep h0 h' (cR b (ys.set i (jV y i t))::R)):=by
  rw[ae]
  refine (a9D hs ⟨i,y.nx,t⟩).mono ?_
  rintro v h ⟨rfl,hs⟩
  simp only[az]
  refine YF (z:=jV y i t) (j:=⟨i,y.nx,t⟩) (w':=if y.q.length=4 then w else w|||2 ^ y.pr.toNat) hl' hil hx' ha hr.wlt ⟨hpi.1,hpi.2.1⟩ ?_ ?_ hs
  ·show (if y.q.length=4 then w else w|||2 ^ y.pr.toNat)=if (if y.q.length=4 then (7:Int) else 0)=0 then w|||2 ^ y.pr.toNat else w
   by_cases e:y.q.length=4
   ·rw[if_pos e,if_pos e,if_neg (by decide)]
   ·rw[if_neg e,if_neg e,if_pos rfl]
  ·unfold jV
   by_cases e:y.q.length=4
   ·rw[if_pos e,if_pos e]
    exact hr.num hi _
   ·rw[if_neg e,if_neg e]
    exact hr.put hi ⟨i,y.nx,t⟩ rfl _ (by omega)
 refine aK ?_ ?_
 ·refine hs.K7 1 rfl (fun _=>rfl) ha hx' rfl ?_
  refine Sep.aB hs 6 rfl rfl ?_
  refine Sep.aB hs 6 rfl rfl ?_
  refine Sep.aB hs 6 rfl rfl ?_
  exact put
 ·refine Sep.aB hs 6 rfl rfl ?_
  refine Sep.aB hs 6 rfl rfl ?_
  refine Sep.aB hs 6 rfl rfl ?_
  refine hs.K7 1 rfl (fun _=>rfl) ha hx' rfl ?_
  exact put
end
end Go.Proofs.YtnpinhahjgbigaaGreatDoor
end
section
namespace Go.Proofs.YtnpinhahjgbigaaGreatDoor
open Go Go.Sb
structure d7Q (C:bw):Prop where
 yg:0<C.tasks.length∧C.tasks.length≤8
 lo:∀(i:Nat) (t:cx),C.tasks[i]? =some t→0≤t.pr∧t.pr<64
 inj:∀(i j:Nat) (t u:cx),C.tasks[i]? =some t→C.tasks[j]? =some u→t.pr=u.pr→i=j
theorem pJ (C:bw):∀(l:List cx) (k:Nat),gy C k l=0→∀(i:Nat) (t:cx),l[i]? =some t→gH C t (C.tasks.take (k+i))=0
 |[],_,_,i,t,hi=>by simp at hi
 |u::l,k,h,i,t,hi=>by
  unfold gy at h
  split at h
  ·rename_i hn
   exact absurd h hn
  ·rename_i hn
   cases i with
   |zero=>
    simp only[List.getElem?_cons_zero,Option.some.injEq]at hi
    subst hi
    simpa using hn
   |succ i=>
    rw[List.getElem?_cons_succ]at hi
    have:=pJ C l (k+1) h i t hi
    rw[show k+(i+1)=k+1+i by omega]
    exact this
theorem sY {C:bw}{t:cx}{a:List cx}(h:gH C t a=0):(0≤t.pr∧t.pr<64)∧∀x∈a,x.pr≠t.pr:=by
 unfold gH at h
 split at h
 ·cases h
 ·rename_i hn
  have hn:fy t=true:=by simpa using hn
  simp only at h
  split at h
  ·rename_i hz;exact absurd h hz
  ·split at h
   ·cases h
   ·split at h
    ·cases h
    ·rename_i ha
     refine⟨?_,fun x hx he=>ha (List.any_eq_true.2 ⟨x,hx,by simpa using he⟩)⟩
     unfold fy gO at hn
     simp at hn
     omega
theorem d7R {C:bw}(h:eE C=0):d7Q C:=by
 unfold eE at h
 split at h
 ·cases h
 ·split at h
  ·cases h
  ·rename_i h2
   split at h
   ·cases h
   ·rename_i h3
    split at h
    ·cases h
    ·have ht:=pJ C C.tasks 0 h
     have hm:C.tasks.length≤8:=by
      unfold kq at h2
      simp at h2
      omega
     have ne:∀(i j:Nat) (t u:cx),C.tasks[i]? =some t→C.tasks[j]? =some u→i<j→t.pr≠u.pr:=by
      intro i j t u hi hj hij
      refine (sY (ht j u hj)).2 t ?_
      refine List.mem_of_getElem? (i:=i) ?_
      rw[List.getElem?_take,if_pos (by omega)]
      exact hi
     refine⟨⟨by omega,hm⟩,fun i t hi=>(sY (ht i t hi)).1,fun i j t u hi hj he=>?_⟩
     rcases Nat.lt_trichotomy i j with hl|hl|hl
     ·exact absurd he (ne i j t u hi hj hl)
     ·exact hl
     ·exact absurd he.symm (ne j i u t hj hi hl)
def q0 (t:cx):PQ:=⟨t.pr,0,[]⟩
section
variable {h0 h:Hp}{R:List As}{b:Nat}{ys:List PQ}{C:bw}{sm sc se st sl:Sl}{ts:List (cx×Sl)}
theorem c5v {rb:Nat}{p:Int}(hs:Sep h0 h (fU rb []::R)):Sep h0 h (fH (p,0,rb) ⟨p,0,[]⟩::R):=Gp.2 ⟨⟨rfl,rfl⟩,hs⟩
set_option maxRecDepth 10000 in
theorem d7S (hc:hU h0 C sm sc se st sl ts)(hk:d7Q C){m bb:Nat}:∀(d k:Nat) (s:Sl) (f:Int→Option Value) (n:Nat) (R:List As) (h:Hp),k+d=ts.length→
  (∀(i:Nat) (t:cx),i<k→C.tasks[i]? =some t→f t.pr=some (.int .i64 (i:Int)))→
  Sep h0 h (aBlk b [.slice s.p s.n s.c,.map (some m),.pointer (some ⟨bb,0,none⟩)]::aMap m .i64 f n::aBlk bb (sW 0)::aHR kx 3 fH s ((C.tasks.take k).map q0)::R)→
  a9d ⟨b,0,none⟩ st (ts.length:Int) (k:Int) h (fun v h'=>v= .tuple #[.pointer (some ⟨b,0,none⟩),.int .i64 0]∧∃R',Sep h0 h' (cR b (C.tasks.map q0)::(R'++R)))
 |0,k,s,f,n,R,h,K2,hf,hs=>by
  have mF:=hc.len.2.2.2.2.2
  apply Szh
  unfold Bzh
  refine aA (by simp;omega) ?_
  rw[List.take_of_length_le (by omega)]at hs
  refine⟨rfl,[],ky.2 ⟨s,m,f,n,bb,0,⟨by decide,?_,?_,?_,by rw[List.length_map];have:=hk.yg;omega⟩,hs⟩⟩
  ·intro i y hi
   rw[List.getElem?_map]at hi
   obtain⟨t,h1,rfl⟩:=Option.map_eq_some_iff.1 hi
   have:=hk.lo i t h1
   have hil:=(List.getElem?_eq_some_iff.1 h1).1
   exact⟨this.1,this.2,hf i t (by omega) h1⟩
  ·intro i y hi x hx
   rw[List.getElem?_map]at hi
   obtain⟨t,h1,rfl⟩:=Option.map_eq_some_iff.1 hi
   simp[q0]at hx
  ·intro p
   rw[Nat.zero_testBit]
   refine⟨fun h=>(by cases h),?_⟩
   rintro ⟨i,y,hi,e1,e2⟩
   rw[List.getElem?_map]at hi
   obtain⟨t,h1,rfl⟩:=Option.map_eq_some_iff.1 hi
   exact absurd rfl e2
 |d+1,k,s,f,n,R,h,K2,hf,hs=>by
  have ih:=d7S hc hk (m:=m) (bb:=bb) d (k+1)
  have mF:=hc.len.2.2.2.2.2
  have eW:k<ts.length:=by omega
  have JL:=hc.at eW
  have hrow:=hc.rows
  apply Szh
  unfold Bzh
  refine aM (by simp;omega) ?_
  have hs:Sep h0 h (aHR kx 3 fH s ((C.tasks.take k).map q0)::aBlk b [.slice s.p s.n s.c,.map (some m),.pointer (some ⟨bb,0,none⟩)]::aMap m .i64 f n::aBlk bb (sW 0)::R):=hs.jN 4 [3,0,1,2] rfl (by simp)
  obtain⟨ss,hl,hs⟩:=mH.1 hs
  have hs:Sep h0 h (aRow kx 3 s ss::aBlk b [.slice s.p s.n s.c,.map (some m),.pointer (some ⟨bb,0,none⟩)]::aMap m .i64 f n::aBlk bb (sW 0)::db (List.zipWith fH ss ((C.tasks.take k).map q0))::R):=hs.jN 5 [0,2,3,4,1] rfl (by simp)
  rw[List.length_map,List.length_take]at hl
  refine hrow.ix hs eW fun a ha=>?_
  generalize hts:ts[k]=tk at ha JL
  (refine Arg.mG ha rfl ?_;refine Arg.aB ha rfl ?_;refine Arg.aB ha rfl ?_;refine Arg.aB ha rfl ?_;refine Arg.aB ha rfl ?_;refine Arg.aB ha rfl ?_;refine Arg.bu ha rfl ?_;(refine Sep.new hs fun nb h hs=>?_;try simp only[sz2]at hs);(refine Sep.st hs 0 rfl rfl rfl fun h hs=>?_;simp only[sz0,sz1]at hs);(refine Sep.st hs 0 rfl rfl rfl fun h hs=>?_;simp only[sz0,sz1]at hs);(refine Sep.st hs 0 rfl rfl rfl fun h hs=>?_;simp only[sz0,sz1]at hs);(refine Sep.st hs 0 rfl rfl rfl fun h hs=>?_;simp only[sz0,sz1]at hs);(refine Sep.st hs 0 rfl rfl rfl fun h hs=>?_;simp only[sz0,sz1]at hs);(refine Sep.st hs 0 rfl rfl rfl fun h hs=>?_;simp only[sz0,sz1]at hs);(refine Sep.st hs 0 rfl rfl rfl fun h hs=>?_;simp only[sz0,sz1]at hs))
  generalize hS:(⟨some ⟨nb,0,none⟩,1,1⟩:Sl)=dummy
  clear hS dummy
  have fin:∀(s':Sl) (rb tV:Nat) (h:Hp),Sep h0 h (aBlk tV [.int .i64 tk.1.pr,.int .i64 0,.pointer (some ⟨rb,0,none⟩)]::fU rb []::aBlk nb [.int .i64 tk.1.pr,.int .i64 tk.1.th,.int .i64 tk.1.pe,.int .i64 tk.1.de,.int .i64 tk.1.fr,.int .i64 tk.1.fl,.slice tk.2.p tk.2.n tk.2.c]::aRow kx 3 s' (ss++[(tk.1.pr,0,rb)])::aBlk b [.slice s'.p s'.n s'.c,.map (some m),.pointer (some ⟨bb,0,none⟩)]::aMap m .i64 f n::aBlk bb (sW 0)::db (List.zipWith fH ss ((C.tasks.take k).map q0))::R)→
    Kz7 ⟨b,0,none⟩ (k:Int) ⟨nb,0,none⟩ st (ts.length:Int) (k:Int) h (fun v h'=>v= .tuple #[.pointer (some ⟨b,0,none⟩),.int .i64 0]∧∃R',Sep h0 h' (cR b (C.tasks.map q0)::(R'++R))):=by
   intro s' rb tV h hs
   apply e7w
   unfold d6L
   simp only[ay,Nat.zero_add]
   refine Sep.ldM hs 4 rfl rfl ?_
   refine Sep.aB hs 2 rfl rfl ?_
   simp only[fS]
   refine Sep.AZ hs 5 rfl fun h hs=>?_
   simp only[sz0,sz1]at hs
   rw[dK _ (by have:=hk.yg;omega)]
   have e:(C.tasks.take (k+1)).map q0=(C.tasks.take k).map q0++[q0 tk.1]:=by
    obtain⟨q1,q2⟩:=List.getElem?_eq_some_iff.1 JL
    rw[←List.take_append_getElem q1,List.map_append,q2];rfl
   have hs1:Sep h0 h (fU rb []::aRow kx 3 s' (ss++[(tk.1.pr,0,rb)])::db (List.zipWith fH ss ((C.tasks.take k).map q0))::_):=hs.jN 8 [1,3,7,4,5,6,0,2] rfl (by simp)
   have sS:=Sep.b5B (by rw[List.length_map,List.length_take];exact hl) (c5v hs1)
   rw[show ((C.tasks.take k).map q0++[⟨tk.1.pr,0,[]⟩])=(C.tasks.take (k+1)).map q0 from e.symm]at sS
   refine (ih s' _ _ (_::_::R) h (by omega) ?_ (sS.jN 4 [1,2,3,0] rfl (by simp))).mono ?_
   ·intro i t hi ht
    show (if t.pr=tk.1.pr then _ else f t.pr)=_
    by_cases he:t.pr=tk.1.pr
    ·rw[if_pos he]
     have:=hk.inj i k t tk.1 ht JL he
     subst this;rfl
    ·rw[if_neg he]
     refine hf i t ?_ ht
     rcases Nat.lt_or_ge i k with hc|hc
     ·exact hc
     ·have:i=k:=by omega
      subst this
      rw[JL]at ht
      cases ht
      exact absurd rfl he
   ·rintro v h ⟨rfl,R',hs⟩
    exact⟨rfl,R'++[_,_],by simpa using hs⟩
  have c5w:=hk.yg
  repeat' (first|with_reducible refine aK ?_ ?_|(first|(((with_reducible refine jT ?_);refine Sep.bu hs 2 rfl rfl ?_))|(((with_reducible refine cW ?_);refine Sep.aB hs 0 rfl rfl ?_))|((simp only[ae]))|(((with_reducible refine Jk ?_);(refine Sep.new hs fun qQ h hs=>?_;try simp only[sz2]at hs)))|(((with_reducible refine jE ?_);(refine Sep.st hs 4 rfl rfl rfl fun h hs=>?_;simp only[sz0,sz1]at hs)))|(((with_reducible refine cW ?_);refine Sep.aB hs 1 rfl rfl ?_))|(((with_reducible refine jT ?_);refine Sep.bu hs 3 rfl rfl ?_))|(((with_reducible refine jT ?_);refine Sep.bu hs 4 rfl rfl ?_)))|(refine (a9E hs).mono ?_;rintro v h ⟨rb,rfl,hs⟩;simp only[aS])|(refine Sep.lE hs 3 0 (tk.1.pr,0,rb) rfl rfl (fun _=>rfl) (by simp[Value.oneCell']) rfl (by omega) (by omega) fun s' h hn hs=>?_;simp only[sz0,sz1]at hs))
  all_goals exact fin _ _ _ _ hs
theorem c5x (hc:hU h0 C sm sc se st sl ts)(hk:eE C=0)(hs:Sep h0 h R):c4B C.sets C.ways C.hit C.bT sm C.groups sc se st sl h (fun v h'=>∃b R',v= .tuple #[.pointer (some ⟨b,0,none⟩),.int .i64 0]∧Sep h0 h' (cR b (C.tasks.map q0)::(R'++R))):=by
 have mF:=hc.len.2.2.2.2
 apply e7v
 unfold d6K
 ((refine Sep.new hs fun nb h hs=>?_;try simp only[sz2]at hs);refine Sep.aB hs 0 rfl rfl ?_;refine Sep.aB hs 0 rfl rfl ?_;refine Sep.aB hs 0 rfl rfl ?_;refine Sep.aB hs 0 rfl rfl ?_;refine Sep.bu hs 0 rfl rfl ?_;refine Sep.aB hs 0 rfl rfl ?_;refine Sep.bu hs 0 rfl rfl ?_;refine Sep.bu hs 0 rfl rfl ?_;refine Sep.bu hs 0 rfl rfl ?_;refine Sep.bu hs 0 rfl rfl ?_;simp only[ay,Nat.zero_add,ae])
 have hs:Sep h0 h (aBlk nb (cP C sm sc se st sl)::R):=hs
 refine (a8S hc hs).mono ?_
 rintro v h ⟨rfl,hs⟩
 rw[hk]
 simp only[az]
 refine aA rfl ?_
 refine Sep.FR hs .i64 fun m h hs=>?_
 rw[ae]
 refine (c5t hs).mono ?_
 rintro v h ⟨bb,rfl,hs⟩
 (simp only[aS];(refine Sep.new hs fun qQ h hs=>?_;try simp only[sz2]at hs);refine Sep.bu hs 3 rfl rfl ?_)
 have hs:=hs.fw kx 3
 have hs:Sep h0 h (aHR kx 3 fH ⟨none,0,0⟩ []::aBlk qQ [.slice none 0 0,.map (some m),.pointer (some ⟨bb,0,none⟩)]::aBlk bb (sW 0)::aMap m .i64 (fun _=>none) 0::aBlk nb (cP C sm sc se st sl)::R):=hs.d3n
 have hs:Sep h0 h (aBlk qQ [.slice none 0 0,.map (some m),.pointer (some ⟨bb,0,none⟩)]::aMap m .i64 (fun _=>none) 0::aBlk bb (sW 0)::aHR kx 3 fH ⟨none,0,0⟩ []::aBlk nb (cP C sm sc se st sl)::R):=hs.jN 5 [1,3,2,0,4] rfl (by simp)
 rw[hc.rows.n]
 refine (d7S hc (d7R hk) ts.length 0 ⟨none,0,0⟩ (fun _=>none) 0 (aBlk nb (cP C sm sc se st sl)::R) h (by omega) (fun i t hi=>absurd hi (by omega)) hs).mono ?_
 rintro v h ⟨rfl,R',hs⟩
 exact⟨_,R'++[_],rfl,by simpa using hs⟩
end
end Go.Proofs.YtnpinhahjgbigaaGreatDoor
end
section
set_option maxRecDepth 100000
namespace Go.Proofs.YtnpinhahjgbigaaGreatDoor
open Go Go.Sb
def jW {α:Type}(a:Addr)(b:Int→Int→Int→Int→Int→M α):M α:=
 ab .i64 a fun (c:Int)=>
 ab .i64 (a.add 1) fun (d:Int)=>
 ab .i64 (a.add 2) fun (e:Int)=>
 ab .i64 (a.add 3) fun (f:Int)=>
 ab .i64 (a.add 4) fun (g:Int)=>
 b c d e f g
def YG {α:Type}(a:Addr)(c d e f g:Int)(b:M α):M α:=
 an a (.int .i64 c) <|
 an (a.add 1) (.int .i64 d) <|
 an (a.add 2) (.int .i64 e) <|
 an (a.add 3) (.int .i64 f) <|
 an (a.add 4) (.int .i64 g) <|
 b
def cf {α:Type}(a:Addr)(b:Int→Int→Int→Int→Int→Int→M α):M α:=
 ab .i64 a fun (c:Int)=>
 ab .i64 (a.add 1) fun (d:Int)=>
 ab .i64 (a.add 2) fun (e:Int)=>
 ab .i64 (a.add 3) fun (f:Int)=>
 ab .i64 (a.add 4) fun (g:Int)=>
 ab .i64 (a.add 5) fun (h:Int)=>
 b c d e f g h
def b5R {α:Type}(i:Value)(a:Int→Int→Int→Int→Int→Int→M α):M α:=
 kg i fun b=>
 bB b fun j c=>
 aP .i64 j fun (p:Int)=>
 bB c fun k d=>
 aP .i64 k fun (q:Int)=>
 bB d fun l e=>
 aP .i64 l fun (r:Int)=>
 bB e fun m f=>
 aP .i64 m fun (s:Int)=>
 bB f fun n g=>
 aP .i64 n fun (t:Int)=>
 bB g fun o h=>
 aP .i64 o fun (u:Int)=>
 fO h <|
 a p q r s t u
def bq {α:Type}(a:Addr)(c d e f g h:Int)(b:M α):M α:=
 an a (.int .i64 c) <|
 an (a.add 1) (.int .i64 d) <|
 an (a.add 2) (.int .i64 e) <|
 an (a.add 3) (.int .i64 f) <|
 an (a.add 4) (.int .i64 g) <|
 an (a.add 5) (.int .i64 h) <|
 b
def c5y (a:Sl):M Value:=Nf Tryz.prog 78 #[.slice a.p a.n a.c]
def a9N (b:Option Addr)(c a d:Int):M Value:=Nf Tryz.prog 294 #[.pointer b,.int .i64 c,.int .i64 a,.int .i64 d]
def YH (a:Option Addr)(b:Int):M Value:=Nf Tryz.prog 231 #[.pointer a,.int .i64 b]
def YI (a:Option Addr)(b:Int):M Value:=Nf Tryz.prog 232 #[.pointer a,.int .i64 b]
def c5z (a:Option Addr):M Value:=Nf Tryz.prog 333 #[.pointer a]
def c5A (a:Int):M Value:=Nf Tryz.prog 77 #[.int .i64 a]
def YJ (d:Option Addr)(e:Int)(a:Nat)(b c:Array Value):M Value:=Nf Tryz.prog 290 #[.pointer d,.int .i64 e,.func (.func a) b c]
def Nzc (b:Option Addr)(d c:Int)(a:Bool):M Value:=Nf Tryz.prog 230 #[.pointer b,.int .i64 d,.int .i64 c,.bool a]
def Nzd (a:Option Addr)(c b:Int):M Value:=Nf Tryz.prog 228 #[.pointer a,.int .i64 c,.int .i64 b]
def Nze (a:Option Addr)(c b:Int):M Value:=Nf Tryz.prog 229 #[.pointer a,.int .i64 c,.int .i64 b]
def c5B (a:Option Addr)(b:Int):M Value:=Nf Tryz.prog 293 #[.pointer a,.int .i64 b]
def c5C (a:Option Addr):M Value:=Nf Tryz.prog 331 #[.pointer a]
def e8g (a:Int):M Value:=Nf Tryz.prog 332 #[.int .u8 a]
def e8h (a:Int)(b:Option Addr):M Value:=Nf Tryz.prog 291 #[.int .u8 a,.pointer b]
def e8i (a:Int)(b:Option Addr):M Value:=Nf Tryz.prog 292 #[.int .u8 a,.pointer b]
def c5D (a:Int):M Value:=Nf Tryz.prog 80 #[.int .i64 a]
def YK (b:Option Addr)(a:Int):M Value:=Nf Tryz.prog 147 #[.pointer b,.int .i64 a]
def YL (b:Option Addr)(a:Int):M Value:=Nf Tryz.prog 150 #[.pointer b,.int .i64 a]
def YM (b:Option Addr)(a:Int):M Value:=Nf Tryz.prog 149 #[.pointer b,.int .i64 a]
def YN (b:Option Addr)(a:Int):M Value:=Nf Tryz.prog 212 #[.pointer b,.int .i64 a]
def c5E (a:Option Addr):M Value:=Nf Tryz.prog 276 #[.pointer a]
def c5F:M Value:=Nf Tryz.prog 81 #[]
def Nzo (b:Option Addr)(a c:Int):M Value:=Nf Tryz.prog 217 #[.pointer b,.int .i64 a,.int .i64 c]
def YO (b:Option Addr)(a:Int):M Value:=Nf Tryz.prog 167 #[.pointer b,.int .i64 a]
def a9O (a:Option Addr):M Value:=Nf Tryz.prog 236 #[.pointer a]
def c5G (a:Option Addr):M Value:=Nf Tryz.prog 282 #[.pointer a]
def Nzp (a b c:Int):M Value:=Nf Tryz.prog 283 #[.agg #[.int .i64 a,.int .i64 b,.int .i64 c]]
def d7T (a:Option Addr):M Value:=Nf Tryz.prog 66 #[.pointer a]
def c5H (a:Option Addr):M Value:=Nf Tryz.prog 95 #[.pointer a]
def YP (a b:Int):M Value:=Nf Tryz.prog 75 #[.int .i64 a,.int .i64 b]
def Nzq (a:Option Addr)(b:Int):M Value:=Nf Tryz.prog 158 #[.pointer a,.int .i64 b]
def Nzr (a:Option Addr):M Value:=Nf Tryz.prog 218 #[.pointer a]
def a9P (a:Option Addr)(b:Int):M Value:=Nf Tryz.prog 284 #[.pointer a,.int .i64 b]
def a9Q (a:Option Addr)(b:Int):M Value:=Nf Tryz.prog 222 #[.pointer a,.int .i64 b]
def c5I (a:Option Addr)(b:Int):M Value:=Nf Tryz.prog 223 #[.pointer a,.int .i64 b]
def Nzs (b d e f g h:Int)(a:Sl):M Value:=Nf Tryz.prog 219 #[.agg #[.int .i64 b,.int .i64 d,.int .i64 e,.int .i64 f,.int .i64 g,.int .i64 h,.slice a.p a.n a.c]]
def YQ (a:Option Addr):M Value:=Nf Tryz.prog 157 #[.pointer a]
def TI (a:Option Addr)(b:Int):M Value:=Nf Tryz.prog 160 #[.pointer a,.int .i64 b]
def c5J (a:Option Addr)(b:Int):M Value:=Nf Tryz.prog 233 #[.pointer a,.int .i64 b]
def a9R (b:Option Addr)(a:Int):M Value:=Nf Tryz.prog 90 #[.pointer b,.int .i64 a]
def c5K (a:Option Addr):M Value:=Nf Tryz.prog 220 #[.pointer a]
def a9S (a:Option Addr):M Value:=Nf Tryz.prog 155 #[.pointer a]
def c5L (a:Option Addr):M Value:=Nf Tryz.prog 164 #[.pointer a]
def a9T (a:Option Addr):M Value:=Nf Tryz.prog 163 #[.pointer a]
def YR (a:Option Addr):M Value:=Nf Tryz.prog 91 #[.pointer a]
def Nzt (a:Option Addr):M Value:=Nf Tryz.prog 165 #[.pointer a]
def c5M (a:Sl):M Value:=Nf Tryz.prog 76 #[.slice a.p a.n a.c]
def Nzf (a:Option Addr)(b c:Int):M Value:=Nf Tryz.prog 226 #[.pointer a,.int .i64 b,.int .i64 c]
def YS (a:Option Addr)(b:Int):M Value:=Nf Tryz.prog 227 #[.pointer a,.int .i64 b]
def a9U (a:Option Addr)(b:Int):M Value:=Nf Tryz.prog 287 #[.pointer a,.int .i64 b]
def c5N (a:Option Addr):M Value:=Nf Tryz.prog 328 #[.pointer a]
def a9V (a:Int):M Value:=Nf Tryz.prog 143 #[.int .i64 a]
def c5O (a:Option Addr):M Value:=Nf Tryz.prog 289 #[.pointer a]
def c5P (a:Option Addr)(b:Int):M Value:=Nf Tryz.prog 288 #[.pointer a,.int .i64 b]
def YT (b:Option Addr)(a:Int):M Value:=Nf Tryz.prog 329 #[.pointer b,.int .i64 a]
def c5Q (a:Option Addr):M Value:=Nf Tryz.prog 330 #[.pointer a]
def c5R (a:Option Addr):M Value:=Nf Tryz.prog 356 #[.pointer a]
def c5S (a:Sl):M Value:=Nf Tryz.prog 79 #[.slice a.p a.n a.c]
def YU (b:Option Addr)(a c:Int):M Value:=Nf Tryz.prog 224 #[.pointer b,.int .i64 a,.int .i64 c]
def Nzu (b:Option Addr)(a c:Int):M Value:=Nf Tryz.prog 225 #[.pointer b,.int .i64 a,.int .i64 c]
def a9W (c:Option Addr)(a b:Int):M Value:=Nf Tryz.prog 221 #[.pointer c,.int .i64 a,.int .i64 b]
def YV (b:Option Addr)(a:Int):M Value:=Nf Tryz.prog 166 #[.pointer b,.int .i64 a]
def Nzk (b:Option Addr)(a:Int):M Value:=Nf Tryz.prog 285 #[.pointer b,.int .i64 a]
def a9X (b:Option Addr)(a:Int):M Value:=Nf Tryz.prog 235 #[.pointer b,.int .i64 a]
def YW (a:Option Addr):M Value:=Nf Tryz.prog 295 #[.pointer a]
def YX (f g h a b c d:Int)(e:Bool):M Value:=Nf Tryz.prog 161 #[.agg #[.int .i64 f,.int .i64 g,.int .i64 h],.agg #[.int .i64 a,.int .i64 b,.int .i64 c,.int .i64 d],.bool e]
def YY (a:Int):M Value:=Nf Tryz.prog 234 #[.int .i64 a]
def c5T (a:Sl):M Value:=Nf Tryz.prog 74 #[.slice a.p a.n a.c]
def Nzh (a:Option Addr)(b c d e f:Int):M Value:=Nf Tryz.prog 84 #[.pointer a,.agg #[.int .i64 b,.int .i64 c,.int .i64 d,.int .i64 e,.int .i64 f]]
def YZ (b:Option Addr)(a:Int):M Value:=Nf Tryz.prog 85 #[.pointer b,.int .i64 a]
def Y0 (a:Option Addr):M Value:=Nf Tryz.prog 83 #[.pointer a]
def c5U (a:Option Addr):M Value:=Nf Tryz.prog 162 #[.pointer a]
def Y1 (a:Sl)(b d:Int):M Value:=Nf Tryz.prog 387 #[.slice a.p a.n a.c,.int .i64 b,.int .i64 d]
def Y2 (a:Sl)(b d:Int):M Value:=Nf Tryz.prog 388 #[.slice a.p a.n a.c,.int .i64 b,.int .i64 d]
def c5V (a:Option Addr):M Value:=Nf Tryz.prog 389 #[.pointer a]
def c5W (a:Option Addr)(b c d e f g:Int):M Value:=Nf Tryz.prog 390 #[.pointer a,.iface 258 (.agg #[.int .i64 b,.int .i64 c,.int .i64 d,.int .i64 e,.int .i64 f,.int .i64 g])]
def c5X (a:Sl):M Value:=Nf Tryz.prog 386 #[.slice a.p a.n a.c]
def Y3 (a:Option Addr)(b c d e f g:Int):M Value:=Nf Tryz.prog 144 #[.iface 256 (.pointer a),.iface 258 (.agg #[.int .i64 b,.int .i64 c,.int .i64 d,.int .i64 e,.int .i64 f,.int .i64 g])]
def c5Y (a:Option Addr):M Value:=Nf Tryz.prog 145 #[.iface 256 (.pointer a)]
def d7U (a:Option Addr)(b:Int):M Value:=Nf Tryz.prog 209 #[.iface 256 (.pointer a),.int .i64 b]
def d7V (a:Option Addr)(b c:Int):M Value:=Nf Tryz.prog 210 #[.iface 256 (.pointer a),.int .i64 b,.int .i64 c]
def d7W (a:Sl):M Value:=Nf Tryz.prog 93 #[.slice a.p a.n a.c]
def d7X (a:Sl):M Value:=Nf Tryz.prog 94 #[.slice a.p a.n a.c]
def d7Y (a:Sl):M Value:=Nf Tryz.prog 124 #[.slice a.p a.n a.c]
def a9Y (b:Addr)(a:Sl)(e d:Int):M Value:=Cut Tryz.prog 78 (aQ Tryz.f78 3) (bf [(3,.pointer (some b)),(8,.slice a.p a.n a.c),(9,.int .i64 e),(10,.int .i64 d)] 33 0)
def c5Z (b:Addr)(d:Int)(a:Sl)(f e:Int):M Value:=Cut Tryz.prog 78 (aQ Tryz.f78 7) (bf [(3,.pointer (some b)),(5,.int .i64 d),(8,.slice a.p a.n a.c),(9,.int .i64 f),(10,.int .i64 e)] 33 0)
def d7Z (a:Sl):M Value:=
 aJ #[.slice none (0) (0)] 244 fun b=>
 a9Y b a (a.n:Int) 0
def Bzi (b:Addr)(d:Sl)(e a:Int):M Value:=
 aI (decide (a<e)) (
 bd d a 1 fun f=>
 ab .i64 f fun c=>
 aI ((decide (c<1))||(decide (c>8))) (
 c5Z b 1 d e a) (
 c5Z b c d e a)) (
 af (.pointer (some b)))
def d8a (a:Addr)(e:Int)(h:Sl)(i g:Int):M Value:=
 aw a fun d=>
 aJ #[.int .i64 0,.int .i64 e] 246 fun f=>
 bU 246 2 16 #[.int .i64 0,.int .i64 0] d ⟨(some f),1,1⟩ fun b=>
 an a (.slice b.p b.n b.c) <|
 a9Y a h i (IntKind.i64.wrap (g+(1:Int)))
theorem e8j (mI){h Q}:d7Z mI h Q→c5y mI h Q:=Nf.bh Tryz.call78 Tryz.func78 rfl mixed (cuts:=[(3,[3,8,9,10]),(7,[3,5,8,9,10])]) (dm:=[]) (by kernel_rfl)
theorem Szi (c3 t8 t9 t10){h Q}:Bzi c3 t8 t9 t10 h Q→a9Y c3 t8 t9 t10 h Q:=Cut.bh Tryz.func78 mixed (cuts:=[(3,[3,8,9,10]),(7,[3,5,8,9,10])]) (dm:=[]) (by kernel_rfl)
theorem e8k (c3 n5 t8 t9 t10){h Q}:d8a c3 n5 t8 t9 t10 h Q→c5Z c3 n5 t8 t9 t10 h Q:=Cut.bh Tryz.func78 mixed (cuts:=[(3,[3,8,9,10]),(7,[3,5,8,9,10])]) (dm:=[]) (by kernel_rfl)
def d8b (d:Option Addr)(c b m:Int):M Value:=
 ai (aI (decide (c<(0:Int))) (af true) (ai (c5z d) fun o=>
 aP .i64 o fun f=>
 af (decide (c≥f)))) fun k=>
 aI k (
 af (.tuple #[.int .i64 0,.int .i64 6])) (
 ax d fun i=>
 aw i fun l=>
 bd l c 2 fun a=>
 ab .i64 a fun e=>
 ai (aI (decide ((IntKind.i64.wrap (e+b))<0)) (af true) (ab .i64 (a.add 1) fun p=>
 af (decide ((IntKind.i64.wrap (e+b))>p)))) fun j=>
 aI j (
 ab .i64 a fun n=>
 af (.tuple #[.int .i64 n,.int .i64 m])) (
 ab .i64 a fun g=>
 an a (.int .i64 (IntKind.i64.wrap (g+b))) <|
 ab .i64 a fun h=>
 af (.tuple #[.int .i64 h,.int .i64 0])))
theorem e8l (c0 i1 by2 lU){h Q}:d8b c0 i1 by2 lU h Q→a9N c0 i1 by2 lU h Q:=Nf.bh Tryz.call294 Tryz.func294 rfl mixed (cuts:=[]) (dm:=[]) (by kernel_rfl)
def d8c (a:Option Addr)(b:Int):M Value:=
 ai (a9N a b 1 7) fun c=>
 ki (aP .i64) (aP .i64) c fun e d=>
 af (.tuple #[.int .i64 e,.int .i64 d])
theorem e8m (c0 i1){h Q}:d8c c0 i1 h Q→YH c0 i1 h Q:=Nf.bh Tryz.call231 Tryz.func231 rfl mixed (cuts:=[]) (dm:=[]) (by kernel_rfl)
def d8d (a:Option Addr)(b:Int):M Value:=
 ai (a9N a b (-1:Int) 8) fun c=>
 ki (aP .i64) (aP .i64) c fun e d=>
 af (.tuple #[.int .i64 e,.int .i64 d])
theorem e8n (c0 i1){h Q}:d8d c0 i1 h Q→YI c0 i1 h Q:=Nf.bh Tryz.call232 Tryz.func232 rfl mixed (cuts:=[]) (dm:=[]) (by kernel_rfl)
def d8e (a:Option Addr):M Value:=
 aI a.isNone (
 af (.int .i64 0)) (
 ax a fun b=>
 aw b fun c=>
 af (.int .i64 (c.n:Int)))
theorem e8o (c0){h Q}:d8e c0 h Q→c5z c0 h Q:=Nf.bh Tryz.call333 Tryz.func333 rfl mixed (cuts:=[]) (dm:=[]) (by kernel_rfl)
def d8f (a:Int):M Value:=
 uK 384 1 #[.int .u8 0] (if (4:Int)<(if (0:Int)>a then 0 else a) then 4 else (if (0:Int)>a then 0 else a)) (if (4:Int)<(if (0:Int)>a then 0 else a) then 4 else (if (0:Int)>a then 0 else a)) fun b=>
 aJ #[.slice b.p b.n b.c] 241 fun d=>
 af (.pointer (some d))
theorem e8p (n0){h Q}:d8f n0 h Q→c5A n0 h Q:=Nf.bh Tryz.call77 Tryz.func77 rfl mixed (cuts:=[]) (dm:=[]) (by kernel_rfl)
def d8g (b:Option Addr)(a:Int)(d:Nat)(e f:Array Value):M Value:=
 ai (aI (decide (a<(0:Int))) (af true) (ai (c5C b) fun m=>
 aP .i64 m fun j=>
 af (decide (a≥j)))) fun i=>
 aI i (
 af (.tuple #[.int .i64 0,.int .i64 6])) (
 ax b fun h=>
 aw h fun p=>
 bd p a 1 fun l=>
 ab .u8 l fun c=>
 ax b fun q=>
 aw q fun n=>
 mQ (Nf Tryz.prog d (e++ #[.int .u8 c]++f)) fun g=>
 aP .u8 g fun k=>
 bd n a 1 fun o=>
 an o (.int .u8 k) <|
 af (.tuple #[.int .i64 (IntKind.i64.wrap c),.int .i64 0]))
theorem e8q (g0 i1 QE QF QG){h Q}:d8g g0 i1 QE QF QG h Q→YJ g0 i1 QE QF QG h Q:=Nf.bh Tryz.call290 Tryz.func290 rfl mixed (cuts:=[]) (dm:=[(4,[0,1,2,3,4,5,6,7,8])]) (by kernel_rfl)
def d8h (e:Option Addr)(f a:Int)(d:Bool):M Value:=
 ai (c5B e f) fun g=>
 ki (aP .i64) (aP .i64) g fun c b=>
 aI (b != 0) (
 af (.tuple #[.bool false,.int .i64 b])) (
 aI d (
 af (.tuple #[.bool ((qt .i64 (qt .i64 c a) 255) == (qt .i64 a 255)),.int .i64 0])) (
 af (.tuple #[.bool ((qt .i64 (qt .i64 c a) 255) != 0),.int .i64 0])))
theorem e8r (g0 i1 gw QH){h Q}:d8h g0 i1 gw QH h Q→Nzc g0 i1 gw QH h Q:=Nf.bh Tryz.call230 Tryz.func230 rfl mixed (cuts:=[]) (dm:=[]) (by kernel_rfl)
def d8i (a:Option Addr)(c b:Int):M Value:=
 aJ #[.int .i64 b] 3 fun g=>
 ai (YJ a c (291) (#[]) (#[.pointer (some g)])) fun d=>
 ki (aP .i64) (aP .i64) d fun e f=>
 af (.tuple #[.int .i64 e,.int .i64 f])
theorem e8s (g0 i1 gw){h Q}:d8i g0 i1 gw h Q→Nzd g0 i1 gw h Q:=Nf.bh Tryz.call228 Tryz.func228 rfl mixed (cuts:=[]) (dm:=[]) (by kernel_rfl)
def d8j (a:Option Addr)(c b:Int):M Value:=
 aJ #[.int .i64 b] 3 fun g=>
 ai (YJ a c (292) (#[]) (#[.pointer (some g)])) fun d=>
 ki (aP .i64) (aP .i64) d fun e f=>
 af (.tuple #[.int .i64 e,.int .i64 f])
theorem e8t (g0 i1 gw){h Q}:d8j g0 i1 gw h Q→Nze g0 i1 gw h Q:=Nf.bh Tryz.call229 Tryz.func229 rfl mixed (cuts:=[]) (dm:=[]) (by kernel_rfl)
def d8k (a:Option Addr)(b:Int):M Value:=
 ai (YJ a b (332) (#[]) (#[])) fun c=>
 ki (aP .i64) (aP .i64) c fun e d=>
 af (.tuple #[.int .i64 e,.int .i64 d])
theorem e8u (g0 i1){h Q}:d8k g0 i1 h Q→c5B g0 i1 h Q:=Nf.bh Tryz.call293 Tryz.func293 rfl mixed (cuts:=[]) (dm:=[]) (by kernel_rfl)
def d8l (a:Option Addr):M Value:=
 aI a.isNone (
 af (.int .i64 0)) (
 ax a fun b=>
 aw b fun c=>
 af (.int .i64 (c.n:Int)))
theorem e8v (g0){h Q}:d8l g0 h Q→c5C g0 h Q:=Nf.bh Tryz.call331 Tryz.func331 rfl mixed (cuts:=[]) (dm:=[]) (by kernel_rfl)
def e8w (a:Int):M Value:=
 af (.int .u8 a)
theorem e8x (lV){h Q}:e8w lV h Q→e8g lV h Q:=Nf.bh Tryz.call332 Tryz.func332 rfl mixed (cuts:=[]) (dm:=[]) (by kernel_rfl)
def d8m (b:Int)(c:Option Addr):M Value:=
 ax c fun a=>
 ab .i64 a fun d=>
 af (.int .u8 (ior .u8 b (IntKind.u8.wrap (qt .i64 d 255))))
theorem e8y (lV oq){h Q}:d8m lV oq h Q→e8h lV oq h Q:=Nf.bh Tryz.call291 Tryz.func291 rfl mixed (cuts:=[]) (dm:=[]) (by kernel_rfl)
def d8n (b:Int)(c:Option Addr):M Value:=
 ax c fun a=>
 ab .i64 a fun d=>
 af (.int .u8 (Cw .u8 b (IntKind.u8.wrap (qt .i64 d 255))))
theorem e8z (lV oq){h Q}:d8n lV oq h Q→e8i lV oq h Q:=Nf.bh Tryz.call292 Tryz.func292 rfl mixed (cuts:=[]) (dm:=[]) (by kernel_rfl)
def d8o (a:Int):M Value:=
 uK 325 2 #[.bool false,.bool false] (if (8:Int)<(if (0:Int)>a then 0 else a) then 8 else (if (0:Int)>a then 0 else a)) (if (8:Int)<(if (0:Int)>a then 0 else a) then 8 else (if (0:Int)>a then 0 else a)) fun b=>
 aJ #[.slice b.p b.n b.c] 254 fun d=>
 af (.pointer (some d))
theorem e8A (n0){h Q}:d8o n0 h Q→c5D n0 h Q:=Nf.bh Tryz.call80 Tryz.func80 rfl mixed (cuts:=[]) (dm:=[]) (by kernel_rfl)
def d8p (g:Option Addr)(e:Int):M Value:=
 ai (YN g e) fun i=>
 gx i fun a=>
 aI a.isNone (
 af (.tuple #[.bool false,.int .i64 6])) (
 ax a fun b=>
 g9 b fun d=>
 ax a fun c=>
 an (c.add 1) (.bool d) <|
 ax a fun f=>
 g9 f fun h=>
 af (.tuple #[.bool (!h),.int .i64 0]))
theorem e8B (l0 i1){h Q}:d8p l0 i1 h Q→YK l0 i1 h Q:=Nf.bh Tryz.call147 Tryz.func147 rfl mixed (cuts:=[]) (dm:=[]) (by kernel_rfl)
def d8q (g:Option Addr)(f:Int):M Value:=
 ai (YN g f) fun c=>
 gx c fun a=>
 aI a.isNone (
 af (.tuple #[.bool false,.int .i64 6])) (
 ax a fun d=>
 g9 (d.add 1) fun e=>
 ax a fun b=>
 an b (.bool false) <|
 an (b.add 1) (.bool false) <|
 af (.tuple #[.bool e,.int .i64 0]))
theorem e8C (l0 i1){h Q}:d8q l0 i1 h Q→YL l0 i1 h Q:=Nf.bh Tryz.call150 Tryz.func150 rfl mixed (cuts:=[]) (dm:=[]) (by kernel_rfl)
def d8r (d:Option Addr)(c:Int):M Value:=
 ai (YN d c) fun e=>
 gx e fun a=>
 aI a.isNone (
 af (.int .i64 6)) (
 ax a fun b=>
 an b (.bool true) <|
 af (.int .i64 0))
theorem e8D (l0 i1){h Q}:d8r l0 i1 h Q→YM l0 i1 h Q:=Nf.bh Tryz.call149 Tryz.func149 rfl mixed (cuts:=[]) (dm:=[]) (by kernel_rfl)
def d8s (b:Option Addr)(a:Int):M Value:=
 ai (aI (decide (a<(0:Int))) (af true) (ai (c5E b) fun c=>
 aP .i64 c fun g=>
 af (decide (a≥g)))) fun e=>
 aI e (
 af (.pointer none)) (
 ax b fun d=>
 aw d fun f=>
 bd f a 2 fun h=>
 af (.pointer (some h)))
theorem e8E (l0 i1){h Q}:d8s l0 i1 h Q→YN l0 i1 h Q:=Nf.bh Tryz.call212 Tryz.func212 rfl mixed (cuts:=[]) (dm:=[]) (by kernel_rfl)
def d8t (a:Option Addr):M Value:=
 aI a.isNone (
 af (.int .i64 0)) (
 ax a fun b=>
 aw b fun c=>
 af (.int .i64 (c.n:Int)))
theorem e8F (l0){h Q}:d8t l0 h Q→c5E l0 h Q:=Nf.bh Tryz.call276 Tryz.func276 rfl mixed (cuts:=[]) (dm:=[]) (by kernel_rfl)
def d8u:M Value:=
 aJ #[.slice none (0) (0),.int .i64 0] 206 fun a=>
 af (.pointer (some a))
theorem e8G {h Q}:d8u h Q→c5F h Q:=Nf.bh Tryz.call81 Tryz.func81 rfl mixed (cuts:=[]) (dm:=[]) (by kernel_rfl)
def Kzp (b:Option Addr)(a:Addr):M Value:=Cut Tryz.prog 217 (aQ Tryz.f217 9) (bf [(0,.pointer b),(8,.pointer (some a))] 53 0)
def d8v (b:Option Addr)(x h:Int):M Value:=
 aI b.isNone (
 af (.tuple #[.int .i64 0,.int .i64 1])) (
 aI ((decide (h<0))||(decide (h>4096))) (
 af (.tuple #[.int .i64 0,.int .i64 5])) (
 ax b fun r=>
 aw r fun y=>
 aI (decide ((y.n:Int)≥256)) (
 af (.tuple #[.int .i64 0,.int .i64 7])) (
 ai (c5G b) fun A=>
 aP .i64 A fun B=>
 aJ #[.int .i64 0,.int .i64 0,.int .i64 0] 204 fun a=>
 an a (.int .i64 x) <|
 an (a.add 1) (.int .i64 B) <|
 an (a.add 2) (.int .i64 h) <|
 ax b fun f=>
 aG (
 aw f fun C=>
 ab .i64 a fun m=>
 ab .i64 (a.add 1) fun o=>
 ab .i64 (a.add 2) fun q=>
 aJ #[.int .i64 m,.int .i64 o,.int .i64 q] 204 fun u=>
 bU 204 3 24 #[.int .i64 0,.int .i64 0,.int .i64 0] C ⟨(some u),1,1⟩ fun d=>
 ax b fun t=>
 an t (.slice d.p d.n d.c) <|
 Kzp b a) (
 ab .i64 a fun i=>
 ab .i64 (a.add 1) fun j=>
 ab .i64 (a.add 2) fun k=>
 aG (
 aw f fun v=>
 aJ #[.int .i64 i,.int .i64 j,.int .i64 k] 204 fun w=>
 bU 204 3 24 #[.int .i64 0,.int .i64 0,.int .i64 0] v ⟨(some w),1,1⟩ fun e=>
 ax b fun s=>
 an s (.slice e.p e.n e.c) <|
 Kzp b a) (
 aJ #[.int .i64 i,.int .i64 j,.int .i64 k] 204 fun D=>
 aw f fun z=>
 bU 204 3 24 #[.int .i64 0,.int .i64 0,.int .i64 0] z ⟨(some D),1,1⟩ fun g=>
 ax b fun l=>
 an l (.slice g.p g.n g.c) <|
 Kzp b a)))))
def d8w (b:Option Addr)(a:Addr):M Value:=
 ax b fun c=>
 aG (
 ab .i64 (c.add 1) fun e=>
 ab .i64 a fun o=>
 ab .i64 (a.add 1) fun p=>
 ab .i64 (a.add 2) fun q=>
 ai (Nzp o p q) fun t=>
 aP .i64 t fun f=>
 ax b fun s=>
 an (s.add 1) (.int .i64 (if f>e then f else e)) <|
 ab .i64 (a.add 1) fun u=>
 af (.tuple #[.int .i64 u,.int .i64 0])) (
 ab .i64 a fun d=>
 ab .i64 (a.add 1) fun i=>
 ab .i64 (a.add 2) fun j=>
 aG (
 ab .i64 (c.add 1) fun g=>
 ai (Nzp d i j) fun v=>
 aP .i64 v fun h=>
 ax b fun r=>
 an (r.add 1) (.int .i64 (if h>g then h else g)) <|
 ab .i64 (a.add 1) fun w=>
 af (.tuple #[.int .i64 w,.int .i64 0])) (
 ai (Nzp d i j) fun x=>
 aP .i64 x fun l=>
 ab .i64 (c.add 1) fun k=>
 ax b fun n=>
 an (n.add 1) (.int .i64 (if l>k then l else k)) <|
 ab .i64 (a.add 1) fun m=>
 af (.tuple #[.int .i64 m,.int .i64 0])))
theorem e8H (s0 cL sZ){h Q}:d8v s0 cL sZ h Q→Nzo s0 cL sZ h Q:=Nf.bh Tryz.call217 Tryz.func217 rfl mixed (cuts:=[(9,[0,8])]) (dm:=[(8,[]),(9,[])]) (by kernel_rfl)
theorem e8I (s0 f8){h Q}:d8w s0 f8 h Q→Kzp s0 f8 h Q:=Cut.bh Tryz.func217 mixed (cuts:=[(9,[0,8])]) (dm:=[(8,[]),(9,[])]) (by kernel_rfl)
def d8x (a:Option Addr)(q:Int):M Value:=
 ai (a9O a) fun s=>
 tM s fun D=>
 bB D fun j k=>
 kg j fun g=>
 bB g fun u v=>
 aP .i64 u fun w=>
 bB v fun x y=>
 aP .i64 x fun z=>
 bB y fun A B=>
 aP .i64 A fun C=>
 fO B <|
 bB k fun l m=>
 da l fun i=>
 fO m <|
 aJ #[.int .i64 0,.int .i64 0,.int .i64 0] 204 fun b=>
 an b (.int .i64 w) <|
 an (b.add 1) (.int .i64 z) <|
 an (b.add 2) (.int .i64 C) <|
 aI (!i) (
 af (.int .i64 8)) (
 ab .i64 b fun f=>
 aI (f != q) (
 af (.int .i64 9)) (
 ax a fun o=>
 aw o fun e=>
 ax a fun r=>
 aw r fun t=>
 mw e 3 0 (IntKind.i64.wrap ((t.n:Int)-1)) (e.c:Int) fun d=>
 ax a fun h=>
 an h (.slice d.p d.n d.c) <|
 af (.int .i64 0)))
theorem e8J (s0 cL){h Q}:d8x s0 cL h Q→YO s0 cL h Q:=Nf.bh Tryz.call167 Tryz.func167 rfl mixed (cuts:=[]) (dm:=[(6,[0,1,2,3,4,5,6,7,8,9,10,11])]) (by kernel_rfl)
def d8y (b:Option Addr):M Value:=
 aJ #[.int .i64 0,.int .i64 0,.int .i64 0] 204 fun a=>
 ai (aI b.isNone (af true) (ax b fun j=>
 aw j fun q=>
 af ((q.n:Int) == 0))) fun k=>
 aI k (
 an a (.int .i64 0) <|
 an (a.add 1) (.int .i64 0) <|
 an (a.add 2) (.int .i64 0) <|
 ab .i64 a fun g=>
 ab .i64 (a.add 1) fun h=>
 ab .i64 (a.add 2) fun l=>
 af (.tuple #[.agg #[.int .i64 g,.int .i64 h,.int .i64 l],.bool false])) (
 ax b fun t=>
 aw t fun r=>
 ax b fun i=>
 aw i fun s=>
 bd r (IntKind.i64.wrap ((s.n:Int)-1)) 3 fun c=>
 ab .i64 c fun d=>
 ab .i64 (c.add 1) fun e=>
 ab .i64 (c.add 2) fun f=>
 an a (.int .i64 d) <|
 an (a.add 1) (.int .i64 e) <|
 an (a.add 2) (.int .i64 f) <|
 ab .i64 a fun p=>
 ab .i64 (a.add 1) fun m=>
 ab .i64 (a.add 2) fun o=>
 af (.tuple #[.agg #[.int .i64 p,.int .i64 m,.int .i64 o],.bool true]))
theorem e8K (s0){h Q}:d8y s0 h Q→a9O s0 h Q:=Nf.bh Tryz.call236 Tryz.func236 rfl mixed (cuts:=[]) (dm:=[(3,[0,1,2,3,4,5,6,7,8,9,10,11])]) (by kernel_rfl)
def d8C (t:Option Addr):M Value:=
 ai (a9O t) fun s=>
 tM s fun u=>
 bB u fun m n=>
 kg m fun l=>
 bB l fun c d=>
 aP .i64 c fun e=>
 bB d fun f g=>
 aP .i64 f fun h=>
 bB g fun i j=>
 aP .i64 i fun k=>
 fO j <|
 bB n fun o p=>
 da o fun x=>
 fO p <|
 aJ #[.int .i64 0,.int .i64 0,.int .i64 0] 204 fun a=>
 an a (.int .i64 e) <|
 an (a.add 1) (.int .i64 h) <|
 an (a.add 2) (.int .i64 k) <|
 ab .i64 a fun b=>
 ab .i64 (a.add 1) fun v=>
 ab .i64 (a.add 2) fun w=>
 ai (Nzp b v w) fun r=>
 aP .i64 r fun q=>
 af (.int .i64 q)
theorem e8P (s0){h Q}:d8C s0 h Q→c5G s0 h Q:=Nf.bh Tryz.call282 Tryz.func282 rfl mixed (cuts:=[]) (dm:=[]) (by kernel_rfl)
def d8E (b c d:Int):M Value:=
 aJ #[.int .i64 b,.int .i64 c,.int .i64 d] 204 fun a=>
 ab .i64 (a.add 1) fun e=>
 ab .i64 (a.add 2) fun f=>
 af (.int .i64 (IntKind.i64.wrap (e+f)))
theorem e8Q (DF DG DH){h Q}:d8E DF DG DH h Q→Nzp DF DG DH h Q:=Nf.bh Tryz.call283 Tryz.func283 rfl mixed (cuts:=[]) (dm:=[]) (by kernel_rfl)
def d8F (b:Option Addr):M Value:=
 aI b.isNone (
 af (.slice none (0) (0))) (
 ax b fun d=>
 aw d fun f=>
 ai (d7Y f) fun e=>
 sI e fun a=>
 af (.slice a.p a.n a.c))
theorem e8R (s0){h Q}:d8F s0 h Q→d7T s0 h Q:=Nf.bh Tryz.call66 Tryz.func66 rfl mixed (cuts:=[]) (dm:=[]) (by kernel_rfl)
def d8G (a:Option Addr):M Value:=
 aI a.isNone (
 af (.int .i64 0)) (
 ax a fun b=>
 ab .i64 (b.add 1) fun c=>
 af (.int .i64 c))
theorem e8S (s0){h Q}:d8G s0 h Q→c5H s0 h Q:=Nf.bh Tryz.call95 Tryz.func95 rfl mixed (cuts:=[]) (dm:=[]) (by kernel_rfl)
def d8H (a d:Int):M Value:=
 aI ((((decide (a<1))||(decide (a>16)))||(decide (d<(1:Int))))||(decide (d>(4:Int)))) (
 af (.pointer none)) (
 uK 24 24 #[.slice none (0) (0)] a a fun b=>
 aJ #[.int .i64 d,.slice b.p b.n b.c] 233 fun e=>
 af (.pointer (some e)))
theorem e8T (qV s7){h Q}:d8H qV s7 h Q→YP qV s7 h Q:=Nf.bh Tryz.call75 Tryz.func75 rfl mixed (cuts:=[]) (dm:=[]) (by kernel_rfl)
def Ze (f:Option Addr)(g b e:Int)(a:Sl)(d:Bool):M Value:=Cut Tryz.prog 158 (aQ Tryz.f158 13) (bf [(0,.pointer f),(1,.int .i64 g),(6,.int .i64 b),(7,.int .i64 e),(8,.slice a.p a.n a.c),(9,.bool d)] 64 0)
def d8I (a:Option Addr)(b:Int):M Value:=
 aI a.isNone (
 af (.tuple #[.bool false,.int .i64 1])) (
 ai (a9Q a b) fun l=>
 aP .i64 l fun d=>
 aI (d == (-1:Int)) (
 af (.tuple #[.bool false,.int .i64 5])) (
 ai (c5I a b) fun m=>
 aP .i64 m fun c=>
 ax a fun h=>
 aw (h.add 1) fun i=>
 bd i d 1 fun j=>
 aw j fun e=>
 aI (!(c != (-1:Int))) (
 ax a fun o=>
 ab .i64 o fun k=>
 aI (decide ((e.n:Int)<k)) (
 aJ #[.int .i64 b] 3 fun g=>
 bU 3 1 8 #[.int .i64 0] e ⟨(some g),1,1⟩ fun f=>
 Ze a b d (IntKind.i64.wrap ((f.n:Int)-1)) f (c != (-1:Int))) (
 Ze a b d (IntKind.i64.wrap ((e.n:Int)-1)) e (c != (-1:Int)))) (
 Ze a b d c e (c != (-1:Int)))))
def d8J (g:Option Addr)(h d b:Int)(a:Sl)(e:Bool):M Value:=
 mw a 1 1 (IntKind.i64.wrap (b+(1:Int))) (a.c:Int) fun l=>
 mw a 1 0 b (a.c:Int) fun k=>
 TS 1 l k fun o=>
 bd a 0 1 fun j=>
 an j (.int .i64 h) <|
 ax g fun f=>
 aw (f.add 1) fun m=>
 bd m d 1 fun i=>
 an i (.slice a.p a.n a.c) <|
 af (.tuple #[.bool e,.int .i64 0])
theorem e8U (c0 cm){h Q}:d8I c0 cm h Q→Nzq c0 cm h Q:=Nf.bh Tryz.call158 Tryz.func158 rfl mixed (cuts:=[(13,[0,1,6,7,8,9])]) (dm:=[(13,[])]) (by kernel_rfl)
theorem e8V (c0 cm QT at7 pK QU){h Q}:d8J c0 cm QT at7 pK QU h Q→Ze c0 cm QT at7 pK QU h Q:=Cut.bh Tryz.func158 mixed (cuts:=[(13,[0,1,6,7,8,9])]) (dm:=[(13,[])]) (by kernel_rfl)
def Kzf (a b:Option Addr)(c d:Int):M Value:=Cut Tryz.prog 218 (aQ Tryz.f218 5) (bf [(0,.pointer a),(3,.pointer b),(21,.int .i64 c),(22,.int .i64 d)] 36 0)
def d8K (a:Option Addr):M Value:=
 aI a.isNone (
 af (.pointer none)) (
 ax a fun b=>
 ax a fun c=>
 aG (
 aw (b.add 1) fun e=>
 ab .i64 c fun m=>
 ai (YP (e.n:Int) m) fun f=>
 gx f fun o=>
 ax a fun d=>
 aw (d.add 1) fun g=>
 Kzf a o (g.n:Int) 0) (
 ab .i64 c fun h=>
 aw (b.add 1) fun j=>
 ai (YP (j.n:Int) h) fun l=>
 gx l fun i=>
 ax a fun k=>
 aw (k.add 1) fun p=>
 Kzf a i (p.n:Int) 0))
def Bzj (b d:Option Addr)(g a:Int):M Value:=
 aI (decide (a<g)) (
 ax d fun h=>
 aG (
 aw (h.add 1) fun i=>
 ai (a9P b a) fun j=>
 sI j fun e=>
 bd i a 1 fun k=>
 an k (.slice e.p e.n e.c) <|
 Kzf b d g (IntKind.i64.wrap (a+(1:Int)))) (
 ai (a9P b a) fun l=>
 sI l fun f=>
 aw (h.add 1) fun o=>
 bd o a 1 fun m=>
 an m (.slice f.p f.n f.c) <|
 Kzf b d g (IntKind.i64.wrap (a+(1:Int))))) (
 af (.pointer d))
theorem e8W (c0){h Q}:d8K c0 h Q→Nzr c0 h Q:=Nf.bh Tryz.call218 Tryz.func218 rfl mixed (cuts:=[(5,[0,3,21,22])]) (dm:=[(3,[]),(7,[])]) (by kernel_rfl)
theorem Szj (c0 mK t21 t22){h Q}:Bzj c0 mK t21 t22 h Q→Kzf c0 mK t21 t22 h Q:=Cut.bh Tryz.func218 mixed (cuts:=[(5,[0,3,21,22])]) (dm:=[(3,[]),(7,[])]) (by kernel_rfl)
def d8L (a:Option Addr)(b:Int):M Value:=
 ai (aI (a.isNone||(decide (b<(0:Int)))) (af true) (ax a fun g=>
 aw (g.add 1) fun f=>
 af (decide (b≥(f.n:Int))))) fun i=>
 aI i (
 af (.slice none (0) (0))) (
 ax a fun h=>
 aw (h.add 1) fun j=>
 bd j b 1 fun k=>
 aw k fun e=>
 mw e 1 0 0 0 fun l=>
 bU 3 1 8 #[.int .i64 0] l e fun d=>
 af (.slice d.p d.n d.c))
theorem e8X (c0 i1){h Q}:d8L c0 i1 h Q→a9P c0 i1 h Q:=Nf.bh Tryz.call284 Tryz.func284 rfl mixed (cuts:=[]) (dm:=[]) (by kernel_rfl)
def d8M (b:Option Addr)(a:Int):M Value:=
 aI ((b.isNone||(decide (a<0)))||(decide (a>255))) (
 af (.int .i64 (-1:Int))) (
 ax b fun d=>
 aw (d.add 1) fun c=>
 cD ((c.n:Int)≠0) <|
 af (.int .i64 (Int.tmod a (c.n:Int))))
theorem e8Y (c0 cm){h Q}:d8M c0 cm h Q→a9Q c0 cm h Q:=Nf.bh Tryz.call222 Tryz.func222 rfl mixed (cuts:=[]) (dm:=[]) (by kernel_rfl)
def d8N (a:Option Addr)(b:Int):M Value:=
 ai (a9Q a b) fun j=>
 aP .i64 j fun c=>
 aI (c == (-1:Int)) (
 af (.int .i64 (-1:Int))) (
 ax a fun e=>
 aw (e.add 1) fun h=>
 bd h c 1 fun f=>
 aw f fun d=>
 ai (a7X d b) fun i=>
 aP .i64 i fun g=>
 af (.int .i64 g))
theorem e8Z (c0 cm){h Q}:d8N c0 cm h Q→c5I c0 cm h Q:=Nf.bh Tryz.call223 Tryz.func223 rfl mixed (cuts:=[]) (dm:=[]) (by kernel_rfl)
def d8O (f g h i j k:Int)(d:Sl):M Value:=
 aJ #[.int .i64 f,.int .i64 g,.int .i64 h,.int .i64 i,.int .i64 j,.int .i64 k,.slice d.p d.n d.c] 59 fun a=>
 ab .i64 a fun m=>
 ab .i64 (a.add 1) fun l=>
 ab .i64 (a.add 2) fun o=>
 ab .i64 (a.add 3) fun q=>
 ab .i64 (a.add 4) fun r=>
 ab .i64 (a.add 5) fun s=>
 aw (a.add 6) fun b=>
 ab .i64 (a.add 5) fun e=>
 aw (a.add 6) fun u=>
 aJ #[.int .i64 m,.int .i64 l,.int .i64 o,.int .i64 q,.int .i64 r,.int .i64 s,.slice b.p b.n b.c,.int .i64 0,.int .i64 0,.int .i64 0,.int .i64 0,.int .i64 (if (0:Int)>e then 0 else e),.bool false,.bool false,.bool ((u.n:Int) == 0)] 275 fun t=>
 af (.pointer (some t))
theorem e9f (QI QJ QK QL QM QN yh){h Q}:d8O QI QJ QK QL QM QN yh h Q→Nzs QI QJ QK QL QM QN yh h Q:=Nf.bh Tryz.call219 Tryz.func219 rfl mixed (cuts:=[]) (dm:=[]) (by kernel_rfl)
def d8P (b:Option Addr):M Value:=
 aJ #[.int .i64 0,.int .i64 0,.int .i64 0] 90 fun a=>
 ai (YR b) fun s=>
 da s fun u=>
 ai (aI u (af true) (ax b fun g=>
 ab .i64 (g.add 8) fun m=>
 af (decide (m>0)))) fun h=>
 aI h (
 an a (.int .i64 0) <|
 an (a.add 1) (.int .i64 0) <|
 an (a.add 2) (.int .i64 0) <|
 ab .i64 a fun j=>
 ab .i64 (a.add 1) fun k=>
 ab .i64 (a.add 2) fun l=>
 af (.tuple #[.agg #[.int .i64 j,.int .i64 k,.int .i64 l],.bool false])) (
 ax b fun o=>
 aw (o.add 6) fun n=>
 ax b fun d=>
 ab .i64 (d.add 7) fun p=>
 bd n p 3 fun c=>
 ab .i64 c fun q=>
 ab .i64 (c.add 1) fun r=>
 ab .i64 (c.add 2) fun t=>
 an a (.int .i64 q) <|
 an (a.add 1) (.int .i64 r) <|
 an (a.add 2) (.int .i64 t) <|
 ab .i64 a fun e=>
 ab .i64 (a.add 1) fun f=>
 ab .i64 (a.add 2) fun i=>
 af (.tuple #[.agg #[.int .i64 e,.int .i64 f,.int .i64 i],.bool true]))
theorem e9j (j0){h Q}:d8P j0 h Q→YQ j0 h Q:=Nf.bh Tryz.call157 Tryz.func157 rfl mixed (cuts:=[]) (dm:=[(3,[0,1,2,3,4,5,6,7,8,9,10])]) (by kernel_rfl)
def d8R (a:Option Addr)(g:Int):M Value:=
 ai (YQ a) fun y=>
 tM y fun I=>
 bB I fun n o=>
 kg n fun i=>
 bB i fun z A=>
 aP .i64 z fun B=>
 bB A fun C D=>
 aP .i64 C fun E=>
 bB D fun F G=>
 aP .i64 F fun H=>
 fO G <|
 bB o fun p q=>
 da p fun k=>
 fO q <|
 aJ #[.int .i64 0,.int .i64 0,.int .i64 0] 90 fun b=>
 an b (.int .i64 B) <|
 an (b.add 1) (.int .i64 E) <|
 an (b.add 2) (.int .i64 H) <|
 aI (!k) (
 af (.int .i64 1)) (
 ax a fun u=>
 an (u.add 8) (.int .i64 (if (1:Int)>g then 1 else g)) <|
 ab .i64 b fun c=>
 aI (c == 3) (
 ax a fun v=>
 ab .i64 (v.add 9) fun w=>
 ax a fun h=>
 an (h.add 9) (.int .i64 (IntKind.i64.wrap (w+1))) <|
 af (.int .i64 0)) (
 aI (c == 4) (
 ax a fun m=>
 ab .i64 (m.add 9) fun e=>
 ax a fun r=>
 an (r.add 9) (.int .i64 (if (0:Int)>(IntKind.i64.wrap (e-1)) then 0 else (IntKind.i64.wrap (e-1)))) <|
 af (.int .i64 0)) (
 aI (c == 7) (
 ab .i64 (b.add 1) fun x=>
 ai (c5J a x) fun l=>
 aP .i64 l fun j=>
 af (.int .i64 j)) (
 aI (c == 8) (
 ax a fun s=>
 ab .i64 (s.add 10) fun d=>
 ab .i64 (b.add 1) fun f=>
 ax a fun t=>
 an (t.add 10) (.int .i64 (if (0:Int)>(IntKind.i64.wrap (d-f)) then 0 else (IntKind.i64.wrap (d-f)))) <|
 af (.int .i64 0)) (
 af (.int .i64 0))))))
theorem e9k (j0 vP){h Q}:d8R j0 vP h Q→TI j0 vP h Q:=Nf.bh Tryz.call160 Tryz.func160 rfl mixed (cuts:=[]) (dm:=[(13,[0,1,2,3,4,5,6,7,8])]) (by kernel_rfl)
def d8S (a:Option Addr)(b:Int):M Value:=
 ax a fun e=>
 ab .i64 (e.add 10) fun k=>
 ax a fun g=>
 ab .i64 (g.add 4) fun h=>
 aI (decide ((IntKind.i64.wrap (k+b))>h)) (
 ax a fun i=>
 an (i.add 13) (.bool true) <|
 ax a fun c=>
 an (c.add 8) (.int .i64 1) <|
 af (.int .i64 11)) (
 ax a fun d=>
 ab .i64 (d.add 10) fun j=>
 ax a fun f=>
 an (f.add 10) (.int .i64 (IntKind.i64.wrap (j+b))) <|
 af (.int .i64 0))
theorem e9l (j0 n1){h Q}:d8S j0 n1 h Q→c5J j0 n1 h Q:=Nf.bh Tryz.call233 Tryz.func233 rfl mixed (cuts:=[]) (dm:=[]) (by kernel_rfl)
def a9Z (a:Option Addr)(b:Int):M Value:=Cut Tryz.prog 90 (aQ Tryz.f90 7) (bf [(0,.pointer a),(5,.int .i64 b)] 68 0)
def d8T (c:Option Addr)(a:Int):M Value:=
 ai (a9T c) fun l=>
 aP .i64 l fun b=>
 aI ((if b<(if (0:Int)>a then 0 else a) then b else (if (0:Int)>a then 0 else a)) == 0) (
 af (.int .i64 0)) (
 ax c fun g=>
 ab .i64 (g.add 8) fun i=>
 ax c fun h=>
 an (h.add 8) (.int .i64 (IntKind.i64.wrap (i-(if b<(if (0:Int)>a then 0 else a) then b else (if (0:Int)>a then 0 else a))))) <|
 ax c fun j=>
 g9 (j.add 12) fun k=>
 aI k (
 ax c fun e=>
 ab .i64 (e.add 11) fun d=>
 ax c fun f=>
 an (f.add 11) (.int .i64 (if (0:Int)>(IntKind.i64.wrap (d-(if b<(if (0:Int)>a then 0 else a) then b else (if (0:Int)>a then 0 else a)))) then 0 else (IntKind.i64.wrap (d-(if b<(if (0:Int)>a then 0 else a) then b else (if (0:Int)>a then 0 else a)))))) <|
 a9Z c (if b<(if (0:Int)>a then 0 else a) then b else (if (0:Int)>a then 0 else a))) (
 a9Z c (if b<(if (0:Int)>a then 0 else a) then b else (if (0:Int)>a then 0 else a))))
def d8U (a:Option Addr)(b:Int):M Value:=
 ax a fun e=>
 ab .i64 (e.add 8) fun l=>
 aI (l == 0) (
 ax a fun d=>
 ab .i64 (d.add 7) fun p=>
 ax a fun f=>
 an (f.add 7) (.int .i64 (IntKind.i64.wrap (p+1))) <|
 ax a fun g=>
 g9 (g.add 13) fun m=>
 ai (aI m (af true) (ax a fun h=>
 ab .i64 (h.add 7) fun c=>
 ax a fun i=>
 aw (i.add 6) fun o=>
 af (c == (o.n:Int)))) fun k=>
 ax a fun j=>
 an (j.add 14) (.bool k) <|
 af (.int .i64 b)) (
 af (.int .i64 b))
theorem e9m (j0 cj){h Q}:d8T j0 cj h Q→a9R j0 cj h Q:=Nf.bh Tryz.call90 Tryz.func90 rfl mixed (cuts:=[(7,[0,5])]) (dm:=[(9,[0,1,2,3,4,5,6,7,8,9,10,11,12,13,14,15,16,17])]) (by kernel_rfl)
theorem e9n (j0 n5){h Q}:d8U j0 n5 h Q→a9Z j0 n5 h Q:=Cut.bh Tryz.func90 mixed (cuts:=[(7,[0,5])]) (dm:=[(9,[0,1,2,3,4,5,6,7,8,9,10,11,12,13,14,15,16,17])]) (by kernel_rfl)
def d8V (a:Option Addr):M Value:=
 ai (aI (!a.isNone) (ax a fun b=>
 ab .i64 (b.add 9) fun d=>
 af (decide (d>(0:Int)))) (af false)) fun c=>
 af (.bool c)
theorem e9o (j0){h Q}:d8V j0 h Q→c5K j0 h Q:=Nf.bh Tryz.call220 Tryz.func220 rfl mixed (cuts:=[]) (dm:=[]) (by kernel_rfl)
def d8W (a:Option Addr):M Value:=
 ai (YR a) fun e=>
 da e fun f=>
 ai (aI f (af true) (ax a fun b=>
 ab .i64 (b.add 11) fun g=>
 af (g == 0))) fun d=>
 aI d (
 af (.bool false)) (
 ax a fun c=>
 an (c.add 12) (.bool true) <|
 af (.bool true))
theorem e9p (j0){h Q}:d8W j0 h Q→a9S j0 h Q:=Nf.bh Tryz.call155 Tryz.func155 rfl mixed (cuts:=[]) (dm:=[]) (by kernel_rfl)
def d8X (a:Option Addr):M Value:=
 aI a.isNone (
 af (.tuple #[.int .i64 0,.bool false])) (
 ax a fun b=>
 ab .i64 (b.add 11) fun e=>
 ax a fun c=>
 g9 (c.add 12) fun d=>
 af (.tuple #[.int .i64 e,.bool d]))
theorem e9q (j0){h Q}:d8X j0 h Q→c5L j0 h Q:=Nf.bh Tryz.call164 Tryz.func164 rfl mixed (cuts:=[]) (dm:=[]) (by kernel_rfl)
def d8Y (a:Option Addr):M Value:=
 aI a.isNone (
 af (.int .i64 0)) (
 ax a fun b=>
 ab .i64 (b.add 8) fun c=>
 af (.int .i64 c))
theorem e9r (j0){h Q}:d8Y j0 h Q→a9T j0 h Q:=Nf.bh Tryz.call163 Tryz.func163 rfl mixed (cuts:=[]) (dm:=[]) (by kernel_rfl)
def d8Z (a:Option Addr):M Value:=
 ai (aI a.isNone (af true) (ax a fun b=>
 g9 (b.add 14) fun d=>
 af d)) fun c=>
 af (.bool c)
theorem e9s (j0){h Q}:d8Z j0 h Q→YR j0 h Q:=Nf.bh Tryz.call91 Tryz.func91 rfl mixed (cuts:=[]) (dm:=[]) (by kernel_rfl)
def d9a (a:Option Addr):M Value:=
 ai (aI (!a.isNone) (ax a fun b=>
 g9 (b.add 13) fun d=>
 af d) (af false)) fun c=>
 af (.bool c)
theorem e9t (j0){h Q}:d9a j0 h Q→Nzt j0 h Q:=Nf.bh Tryz.call165 Tryz.func165 rfl mixed (cuts:=[]) (dm:=[]) (by kernel_rfl)
def Kzk (b:Addr)(a:Sl)(e d:Int):M Value:=Cut Tryz.prog 76 (aQ Tryz.f76 3) (bf [(3,.pointer (some b)),(8,.slice a.p a.n a.c),(9,.int .i64 e),(10,.int .i64 d)] 33 0)
def b0a (b:Addr)(d:Int)(a:Sl)(f e:Int):M Value:=Cut Tryz.prog 76 (aQ Tryz.f76 7) (bf [(3,.pointer (some b)),(5,.int .i64 d),(8,.slice a.p a.n a.c),(9,.int .i64 f),(10,.int .i64 e)] 33 0)
def d9b (a:Sl):M Value:=
 aJ #[.slice none (0) (0)] 236 fun b=>
 Kzk b a (a.n:Int) 0
def Bzk (b:Addr)(d:Sl)(e a:Int):M Value:=
 aI (decide (a<e)) (
 bd d a 1 fun f=>
 ab .i64 f fun c=>
 aI ((decide (c<1))||(decide (c>8))) (
 b0a b 1 d e a) (
 b0a b c d e a)) (
 af (.pointer (some b)))
def d9c (a:Addr)(i:Int)(f:Sl)(g e:Int):M Value:=
 aG (
 aw a fun o=>
 ai (a9V i) fun q=>
 gx q fun r=>
 aJ #[.pointer r] 237 fun k=>
 bU 237 1 8 #[.pointer none] o ⟨(some k),1,1⟩ fun b=>
 an a (.slice b.p b.n b.c) <|
 Kzk a f g (IntKind.i64.wrap (e+(1:Int)))) (
 ai (a9V i) fun t=>
 gx t fun j=>
 aG (
 aw a fun l=>
 aJ #[.pointer j] 237 fun m=>
 bU 237 1 8 #[.pointer none] l ⟨(some m),1,1⟩ fun d=>
 an a (.slice d.p d.n d.c) <|
 Kzk a f g (IntKind.i64.wrap (e+(1:Int)))) (
 aJ #[.pointer j] 237 fun u=>
 aw a fun s=>
 bU 237 1 8 #[.pointer none] s ⟨(some u),1,1⟩ fun h=>
 an a (.slice h.p h.n h.c) <|
 Kzk a f g (IntKind.i64.wrap (e+(1:Int)))))
theorem e9u (mJ){h Q}:d9b mJ h Q→c5M mJ h Q:=Nf.bh Tryz.call76 Tryz.func76 rfl mixed (cuts:=[(3,[3,8,9,10]),(7,[3,5,8,9,10])]) (dm:=[(7,[])]) (by kernel_rfl)
theorem Szk (b3 t8 t9 t10){h Q}:Bzk b3 t8 t9 t10 h Q→Kzk b3 t8 t9 t10 h Q:=Cut.bh Tryz.func76 mixed (cuts:=[(3,[3,8,9,10]),(7,[3,5,8,9,10])]) (dm:=[(7,[])]) (by kernel_rfl)
theorem e9v (b3 n5 t8 t9 t10){h Q}:d9c b3 n5 t8 t9 t10 h Q→b0a b3 n5 t8 t9 t10 h Q:=Cut.bh Tryz.func76 mixed (cuts:=[(3,[3,8,9,10]),(7,[3,5,8,9,10])]) (dm:=[(7,[])]) (by kernel_rfl)
def d9d (d:Option Addr)(f g:Int):M Value:=
 ai (a9U d f) fun b=>
 gx b fun a=>
 aI (!a.isNone) (
 ai (c5P a g) fun c=>
 aP .i64 c fun e=>
 af (.int .i64 e)) (
 af (.int .i64 6))
theorem e9w (b0 i1 v2){h Q}:d9d b0 i1 v2 h Q→Nzf b0 i1 v2 h Q:=Nf.bh Tryz.call226 Tryz.func226 rfl mixed (cuts:=[]) (dm:=[]) (by kernel_rfl)
def d9e (c:Option Addr)(d:Int):M Value:=
 ai (a9U c d) fun f=>
 gx f fun a=>
 aI (!a.isNone) (
 ai (c5O a) fun b=>
 ki (aP .i64) (aP .i64) b fun g e=>
 af (.tuple #[.int .i64 g,.int .i64 e])) (
 af (.tuple #[.int .i64 0,.int .i64 6]))
theorem e9x (b0 i1){h Q}:d9e b0 i1 h Q→YS b0 i1 h Q:=Nf.bh Tryz.call227 Tryz.func227 rfl mixed (cuts:=[]) (dm:=[]) (by kernel_rfl)
def d9f (b:Option Addr)(a:Int):M Value:=
 ai (aI (decide (a<(0:Int))) (af true) (ai (c5N b) fun c=>
 aP .i64 c fun h=>
 af (decide (a≥h)))) fun e=>
 aI e (
 af (.pointer none)) (
 ax b fun d=>
 aw d fun f=>
 bd f a 1 fun i=>
 bz i fun g=>
 af (.pointer g))
theorem e9y (b0 i1){h Q}:d9f b0 i1 h Q→a9U b0 i1 h Q:=Nf.bh Tryz.call287 Tryz.func287 rfl mixed (cuts:=[]) (dm:=[]) (by kernel_rfl)
def d9g (a:Option Addr):M Value:=
 aI a.isNone (
 af (.int .i64 0)) (
 ax a fun b=>
 aw b fun c=>
 af (.int .i64 (c.n:Int)))
theorem e9z (b0){h Q}:d9g b0 h Q→c5N b0 h Q:=Nf.bh Tryz.call328 Tryz.func328 rfl mixed (cuts:=[]) (dm:=[]) (by kernel_rfl)
def d9h (a:Int):M Value:=
 aI ((decide (a<0))||(decide (a>4096))) (
 af (.pointer none)) (
 uK 3 8 #[.int .i64 0] a a fun b=>
 aJ #[.slice b.p b.n b.c,.int .i64 0,.int .i64 0] 312 fun d=>
 af (.pointer (some d)))
theorem e9A (iz){h Q}:d9h iz h Q→a9V iz h Q:=Nf.bh Tryz.call143 Tryz.func143 rfl mixed (cuts:=[]) (dm:=[]) (by kernel_rfl)
def d9i (a:Option Addr):M Value:=
 ai (c5Q a) fun p=>
 ki (aP .i64) da p fun j d=>
 aI (!d) (
 af (.tuple #[.int .i64 0,.int .i64 8])) (
 ai (YT a 0) fun o=>
 gx o fun i=>
 ax i fun g=>
 an g (.int .i64 0) <|
 ax a fun h=>
 ab .i64 (h.add 1) fun k=>
 ax a fun l=>
 aw l fun b=>
 cD ((b.n:Int)≠0) <|
 ax a fun c=>
 an (c.add 1) (.int .i64 (Int.tmod (IntKind.i64.wrap (k+1)) (b.n:Int))) <|
 ax a fun f=>
 ab .i64 (f.add 2) fun m=>
 ax a fun e=>
 an (e.add 2) (.int .i64 (IntKind.i64.wrap (m-1))) <|
 af (.tuple #[.int .i64 j,.int .i64 0]))
theorem e9C (r0){h Q}:d9i r0 h Q→c5O r0 h Q:=Nf.bh Tryz.call289 Tryz.func289 rfl mixed (cuts:=[]) (dm:=[(6,[0,1,2,3,4,5,6,7,8,9,10,11])]) (by kernel_rfl)
def d9j (a:Option Addr)(m:Int):M Value:=
 aI a.isNone (
 af (.int .i64 1)) (
 ax a fun d=>
 ab .i64 (d.add 2) fun i=>
 ax a fun f=>
 aw f fun g=>
 aI (i == (g.n:Int)) (
 af (.int .i64 7)) (
 ax a fun o=>
 ab .i64 (o.add 2) fun h=>
 ai (YT a h) fun l=>
 gx l fun j=>
 ax j fun b=>
 an b (.int .i64 m) <|
 ax a fun c=>
 ab .i64 (c.add 2) fun k=>
 ax a fun e=>
 an (e.add 2) (.int .i64 (IntKind.i64.wrap (k+1))) <|
 af (.int .i64 0)))
theorem e9D (r0 x1){h Q}:d9j r0 x1 h Q→c5P r0 x1 h Q:=Nf.bh Tryz.call288 Tryz.func288 rfl mixed (cuts:=[]) (dm:=[]) (by kernel_rfl)
def d9k (a:Option Addr)(e:Int):M Value:=
 ax a fun c=>
 aw c fun h=>
 ax a fun d=>
 ab .i64 (d.add 1) fun f=>
 ax a fun i=>
 aw i fun b=>
 cD ((b.n:Int)≠0) <|
 bd h (Int.tmod (IntKind.i64.wrap (f+e)) (b.n:Int)) 1 fun g=>
 af (.pointer (some g))
theorem e9E (r0 i1){h Q}:d9k r0 i1 h Q→YT r0 i1 h Q:=Nf.bh Tryz.call329 Tryz.func329 rfl mixed (cuts:=[]) (dm:=[]) (by kernel_rfl)
def d9l (a:Option Addr):M Value:=
 ai (c5R a) fun d=>
 aP .i64 d fun f=>
 aI (f == 0) (
 af (.tuple #[.int .i64 0,.bool false])) (
 ai (YT a 0) fun e=>
 gx e fun g=>
 ax g fun b=>
 ab .i64 b fun c=>
 af (.tuple #[.int .i64 c,.bool true]))
theorem e9F (r0){h Q}:d9l r0 h Q→c5Q r0 h Q:=Nf.bh Tryz.call330 Tryz.func330 rfl mixed (cuts:=[]) (dm:=[]) (by kernel_rfl)
def d9m (a:Option Addr):M Value:=
 aI a.isNone (
 af (.int .i64 0)) (
 ax a fun b=>
 ab .i64 (b.add 2) fun c=>
 af (.int .i64 c))
theorem e9G (r0){h Q}:d9m r0 h Q→c5R r0 h Q:=Nf.bh Tryz.call356 Tryz.func356 rfl mixed (cuts:=[]) (dm:=[]) (by kernel_rfl)
def b0b (b:Addr)(a:Sl)(e d:Int):M Value:=Cut Tryz.prog 79 (aQ Tryz.f79 3) (bf [(3,.pointer (some b)),(8,.slice a.p a.n a.c),(9,.int .i64 e),(10,.int .i64 d)] 27 0)
def d9n (a:Sl):M Value:=
 aJ #[.slice none (0) (0)] 249 fun b=>
 b0b b a (a.n:Int) 0
def Bzl (a:Addr)(e:Sl)(f d:Int):M Value:=
 aI (decide (d<f)) (
 bd e d 1 fun i=>
 ab .i64 i fun g=>
 aw a fun h=>
 aJ #[.int .i64 g,.int .i64 0,.bool false] 251 fun j=>
 bU 251 3 24 #[.int .i64 0,.int .i64 0,.bool false] h ⟨(some j),1,1⟩ fun b=>
 an a (.slice b.p b.n b.c) <|
 b0b a e f (IntKind.i64.wrap (d+(1:Int)))) (
 af (.pointer (some a)))
theorem e9H (gm){h Q}:d9n gm h Q→c5S gm h Q:=Nf.bh Tryz.call79 Tryz.func79 rfl mixed (cuts:=[(3,[3,8,9,10])]) (dm:=[]) (by kernel_rfl)
theorem Szl (mK t8 t9 t10){h Q}:Bzl mK t8 t9 t10 h Q→b0b mK t8 t9 t10 h Q:=Cut.bh Tryz.func79 mixed (cuts:=[(3,[3,8,9,10])]) (dm:=[]) (by kernel_rfl)
def d9o (h:Option Addr)(e i:Int):M Value:=
 ai (Nzk h e) fun b=>
 gx b fun a=>
 aI a.isNone (
 af (.int .i64 6)) (
 ax a fun c=>
 g9 (c.add 2) fun f=>
 aI f (
 af (.int .i64 10)) (
 ax a fun d=>
 an (d.add 1) (.int .i64 i) <|
 ax a fun g=>
 an (g.add 2) (.bool true) <|
 af (.int .i64 0)))
theorem e9I (l0 i1 rZ){h Q}:d9o l0 i1 rZ h Q→YU l0 i1 rZ h Q:=Nf.bh Tryz.call224 Tryz.func224 rfl mixed (cuts:=[]) (dm:=[]) (by kernel_rfl)
def d9p (j:Option Addr)(h l:Int):M Value:=
 ai (Nzk j h) fun b=>
 gx b fun a=>
 aI a.isNone (
 af (.int .i64 6)) (
 ax a fun e=>
 g9 (e.add 2) fun i=>
 ai (aI (!i) (af true) (ax a fun f=>
 ab .i64 (f.add 1) fun k=>
 af (k != l))) fun g=>
 aI g (
 af (.int .i64 8)) (
 ax a fun c=>
 an (c.add 1) (.int .i64 0) <|
 ax a fun d=>
 an (d.add 2) (.bool false) <|
 af (.int .i64 0)))
theorem e9J (l0 i1 rZ){h Q}:d9p l0 i1 rZ h Q→Nzu l0 i1 rZ h Q:=Nf.bh Tryz.call225 Tryz.func225 rfl mixed (cuts:=[]) (dm:=[]) (by kernel_rfl)
def b0c (d:Option Addr)(b:Int)(a:Sl)(e f:Int):M Value:=Cut Tryz.prog 221 (aQ Tryz.f221 2) (bf [(0,.pointer d),(2,.int .i64 b),(11,.slice a.p a.n a.c),(12,.int .i64 e),(13,.int .i64 f)] 27 0)
def d9q (b:Option Addr)(c e:Int):M Value:=
 ai (a9X b c) fun d=>
 sI d fun a=>
 b0c b e a (a.n:Int) 0
def Bzm (d:Option Addr)(a:Int)(e:Sl)(f b:Int):M Value:=
 aI (decide (b<f)) (
 bd e b 1 fun h=>
 ab .i64 h fun i=>
 ai (Nzk d i) fun j=>
 gx j fun k=>
 ax k fun g=>
 ab .i64 g fun c=>
 b0c d (if c>a then c else a) e f (IntKind.i64.wrap (b+(1:Int)))) (
 af (.int .i64 a))
theorem e9K (l0 cL kz){h Q}:d9q l0 cL kz h Q→a9W l0 cL kz h Q:=Nf.bh Tryz.call221 Tryz.func221 rfl mixed (cuts:=[(2,[0,2,11,12,13])]) (dm:=[]) (by kernel_rfl)
theorem Szm (l0 kz t11 t12 t13){h Q}:Bzm l0 kz t11 t12 t13 h Q→b0c l0 kz t11 t12 t13 h Q:=Cut.bh Tryz.func221 mixed (cuts:=[(2,[0,2,11,12,13])]) (dm:=[]) (by kernel_rfl)
def b0d (e:Option Addr)(d:Int)(a b:Sl)(f g:Int):M Value:=Cut Tryz.prog 166 (aQ Tryz.f166 3) (bf [(0,.pointer e),(1,.int .i64 d),(5,.slice a.p a.n a.c),(11,.slice b.p b.n b.c),(12,.int .i64 f),(13,.int .i64 g)] 24 0)
def d9r (c:Option Addr)(b:Int):M Value:=
 ai (a9X c b) fun d=>
 sI d fun a=>
 b0d c b a a (a.n:Int) 0
def Bzn (d:Option Addr)(c:Int)(b e:Sl)(f a:Int):M Value:=
 aI (decide (a<f)) (
 bd e a 1 fun g=>
 ab .i64 g fun h=>
 ai (Nzu d h c) fun i=>
 aP .i64 i fun j=>
 b0d d c b e f (IntKind.i64.wrap (a+(1:Int)))) (
 af (.int .i64 (b.n:Int)))
theorem e9L (l0 cL){h Q}:d9r l0 cL h Q→YV l0 cL h Q:=Nf.bh Tryz.call166 Tryz.func166 rfl mixed (cuts:=[(3,[0,1,5,11,12,13])]) (dm:=[]) (by kernel_rfl)
theorem Szn (l0 cL A9 t11 t12 t13){h Q}:Bzn l0 cL A9 t11 t12 t13 h Q→b0d l0 cL A9 t11 t12 t13 h Q:=Cut.bh Tryz.func166 mixed (cuts:=[(3,[0,1,5,11,12,13])]) (dm:=[]) (by kernel_rfl)
def Bzo (b:Option Addr)(a:Int):M Value:=
 ai (aI (decide (a<(0:Int))) (af true) (ai (YW b) fun c=>
 aP .i64 c fun g=>
 af (decide (a≥g)))) fun e=>
 aI e (
 af (.pointer none)) (
 ax b fun d=>
 aw d fun f=>
 bd f a 3 fun h=>
 af (.pointer (some h)))
theorem Szo (l0 i1){h Q}:Bzo l0 i1 h Q→Nzk l0 i1 h Q:=Nf.bh Tryz.call285 Tryz.func285 rfl mixed (cuts:=[]) (dm:=[]) (by kernel_rfl)
def Kz8 (d:Option Addr)(b:Int)(a:Sl)(f e:Int):M Value:=Cut Tryz.prog 235 (aQ Tryz.f235 3) (bf [(0,.pointer d),(1,.int .i64 b),(5,.slice a.p a.n a.c),(9,.int .i64 f),(10,.int .i64 e)] 34 0)
def Bzp (a:Option Addr)(b:Int):M Value:=
 ai (YW a) fun c=>
 aP .i64 c fun d=>
 Kz8 a b (Sl.mk none 0 0) d 0
def Bz1 (e:Option Addr)(d:Int)(a:Sl)(f b:Int):M Value:=
 aI (decide (b<f)) (
 ai (Nzk e b) fun h=>
 gx h fun g=>
 ax g fun i=>
 g9 (i.add 2) fun l=>
 ai (aI l (ax g fun j=>
 ab .i64 (j.add 1) fun m=>
 af (m == d)) (af false)) fun k=>
 aI k (
 aJ #[.int .i64 b] 3 fun q=>
 bU 3 1 8 #[.int .i64 0] a ⟨(some q),1,1⟩ fun o=>
 Kz8 e d o f (IntKind.i64.wrap (b+(1:Int)))) (
 Kz8 e d a f (IntKind.i64.wrap (b+(1:Int))))) (
 af (.slice a.p a.n a.c))
theorem Szp (l0 cL){h Q}:Bzp l0 cL h Q→a9X l0 cL h Q:=Nf.bh Tryz.call235 Tryz.func235 rfl mixed (cuts:=[(3,[0,1,5,9,10])]) (dm:=[]) (by kernel_rfl)
theorem Sz1 (l0 cL eX t9 t10){h Q}:Bz1 l0 cL eX t9 t10 h Q→Kz8 l0 cL eX t9 t10 h Q:=Cut.bh Tryz.func235 mixed (cuts:=[(3,[0,1,5,9,10])]) (dm:=[]) (by kernel_rfl)
def Bzq (a:Option Addr):M Value:=
 aI a.isNone (
 af (.int .i64 0)) (
 ax a fun b=>
 aw b fun c=>
 af (.int .i64 (c.n:Int)))
theorem Szq (l0){h Q}:Bzq l0 h Q→YW l0 h Q:=Nf.bh Tryz.call295 Tryz.func295 rfl mixed (cuts:=[]) (dm:=[]) (by kernel_rfl)
def d9s (l m n c d e f:Int)(g:Bool):M Value:=
 aJ #[.int .i64 l,.int .i64 m,.int .i64 n] 90 fun a=>
 aJ #[.int .i64 c,.int .i64 d,.int .i64 e,.int .i64 f] 23 fun b=>
 ab .i64 a fun u=>
 aI (u == 1) (
 ab .i64 (a.add 1) fun o=>
 ai (YY o) fun h=>
 aP .i64 h fun k=>
 af (.int .i64 k)) (
 ab .i64 a fun j=>
 aI (j != 2) (
 af (.int .i64 1)) (
 aI g (
 ab .i64 (b.add 2) fun p=>
 ai (YY p) fun t=>
 aP .i64 t fun r=>
 af (.int .i64 r)) (
 ab .i64 (b.add 3) fun q=>
 ai (YY q) fun i=>
 aP .i64 i fun s=>
 af (.int .i64 s))))
theorem e9M (iX iY iZ QO QP QQ QR QS){h Q}:d9s iX iY iZ QO QP QQ QR QS h Q→YX iX iY iZ QO QP QQ QR QS h Q:=Nf.bh Tryz.call161 Tryz.func161 rfl mixed (cuts:=[]) (dm:=[]) (by kernel_rfl)
def d9t (a:Int):M Value:=
 af (.int .i64 (if (1073741824:Int)<(if (0:Int)>a then 0 else a) then 1073741824 else (if (0:Int)>a then 0 else a)))
theorem e9N (n0){h Q}:d9t n0 h Q→YY n0 h Q:=Nf.bh Tryz.call234 Tryz.func234 rfl mixed (cuts:=[]) (dm:=[]) (by kernel_rfl)
def c6C (b:Addr)(a:Sl)(e d:Int):M Value:=Cut Tryz.prog 74 (aQ Tryz.f74 3) (bf [(3,.pointer (some b)),(8,.slice a.p a.n a.c),(9,.int .i64 e),(10,.int .i64 d)] 19 0)
def d9u (a:Sl):M Value:=
 aJ #[.slice none (0) (0),.int .i64 0] 231 fun b=>
 c6C b a (a.n:Int) 0
def d9v (a:Addr)(c:Sl)(d b:Int):M Value:=
 aI (decide (b<d)) (
 bd c b 5 fun h=>
 jW h fun l i n o p=>
 aJ #[.int .i64 0,.int .i64 0,.int .i64 0,.int .i64 0,.int .i64 0] 47 fun e=>
 YG e l i n o p <|
 jW e fun j k m f g=>
 ai (Nzh (some a) j k m f g) fun q=>
 c6C a c d (IntKind.i64.wrap (b+(1:Int)))) (
 af (.pointer (some a)))
theorem e9P (l0){h Q}:d9u l0 h Q→c5T l0 h Q:=Nf.bh Tryz.call74 Tryz.func74 rfl mixed (cuts:=[(3,[3,8,9,10])]) (dm:=[]) (by kernel_rfl)
theorem e9Q (a3 t8 t9 t10){h Q}:d9v a3 t8 t9 t10 h Q→c6C a3 t8 t9 t10 h Q:=Cut.bh Tryz.func74 mixed (cuts:=[(3,[3,8,9,10])]) (dm:=[]) (by kernel_rfl)
def Kz9 (a:Option Addr):M Value:=Cut Tryz.prog 84 (aQ Tryz.f84 3) (bf [(0,.pointer a)] 25 0)
def d9w (a:Option Addr)(I J K L N:Int):M Value:=
 aJ #[.int .i64 I,.int .i64 J,.int .i64 K,.int .i64 L,.int .i64 N] 47 fun d=>
 aI (!a.isNone) (
 ax a fun b=>
 ax a fun c=>
 aG (
 aG (
 jW d fun q r s t u=>
 ab .i64 (c.add 1) fun F=>
 ai (Y3 (some b) q r s t u F) fun O=>
 Kz9 a) (
 ab .i64 (c.add 1) fun G=>
 jW d fun v w x y z=>
 ai (Y3 (some b) v w x y z G) fun P=>
 Kz9 a)) (
 aG (
 jW d fun f g h i j=>
 aG (
 ab .i64 (c.add 1) fun H=>
 ai (Y3 (some b) f g h i j H) fun Q=>
 Kz9 a) (
 ab .i64 (c.add 1) fun k=>
 aG (
 ai (Y3 (some b) f g h i j k) fun R=>
 Kz9 a) (
 ai (Y3 (some b) f g h i j k) fun S=>
 Kz9 a))) (
 ab .i64 (c.add 1) fun e=>
 aG (
 jW d fun A B C D E=>
 ai (Y3 (some b) A B C D E e) fun T=>
 Kz9 a) (
 jW d fun l o p m n=>
 aG (
 ai (Y3 (some b) l o p m n e) fun U=>
 Kz9 a) (
 ai (Y3 (some b) l o p m n e) fun V=>
 Kz9 a))))) (
 af (.tuple #[]))
def d9x (a:Option Addr):M Value:=
 ax a fun b=>
 ab .i64 (b.add 1) fun d=>
 ax a fun c=>
 an (c.add 1) (.int .i64 (IntKind.i64.wrap (d+1))) <|
 af (.tuple #[])
theorem e9R (a0 jc jd je jf jg){h Q}:d9w a0 jc jd je jf jg h Q→Nzh a0 jc jd je jf jg h Q:=Nf.bh Tryz.call84 Tryz.func84 rfl mixed (cuts:=[(3,[0])]) (dm:=[(2,[])]) (by kernel_rfl)
theorem e9S (a0){h Q}:d9x a0 h Q→Kz9 a0 h Q:=Cut.bh Tryz.func84 mixed (cuts:=[(3,[0])]) (dm:=[(2,[])]) (by kernel_rfl)
def b0e (d:Option Addr)(b:Int)(a:Sl):M Value:=Cut Tryz.prog 85 (aQ Tryz.f85 2) (bf [(0,.pointer d),(1,.int .i64 b),(5,.slice a.p a.n a.c)] 39 0)
def d9y (b:Option Addr)(a:Int):M Value:=
 b0e b a (Sl.mk none 0 0)
def Bzr (a:Option Addr)(d:Int)(b:Sl):M Value:=
 ai (Y0 a) fun B=>
 aP .i64 B fun C=>
 ai (aI (decide (C>(0:Int))) (ax a fun l=>
 aw l fun v=>
 bd v 0 6 fun w=>
 ab .i64 w fun y=>
 af (decide (y≤d))) (af false)) fun m=>
 aI m (
 ax a fun f=>
 ai (c5Y (some f)) fun A=>
 a7L 258 A fun x=>
 b5R x fun u o q r s t=>
 aJ #[.int .i64 0,.int .i64 0,.int .i64 0,.int .i64 0,.int .i64 0,.int .i64 0] 258 fun e=>
 bq e u o q r s t <|
 jW e fun g h i j k=>
 aJ #[.int .i64 g,.int .i64 h,.int .i64 i,.int .i64 j,.int .i64 k] 47 fun z=>
 bU 47 5 40 #[.int .i64 0,.int .i64 0,.int .i64 0,.int .i64 0,.int .i64 0] b ⟨(some z),1,1⟩ fun D=>
 b0e a d D) (
 af (.slice b.p b.n b.c))
theorem e9U (a0 JQ){h Q}:d9y a0 JQ h Q→YZ a0 JQ h Q:=Nf.bh Tryz.call85 Tryz.func85 rfl mixed (cuts:=[(2,[0,1,5])]) (dm:=[]) (by kernel_rfl)
theorem Szr (a0 JQ eX){h Q}:Bzr a0 JQ eX h Q→b0e a0 JQ eX h Q:=Cut.bh Tryz.func85 mixed (cuts:=[(2,[0,1,5])]) (dm:=[]) (by kernel_rfl)
def d9F (a:Option Addr):M Value:=
 aI a.isNone (
 af (.int .i64 0)) (
 ax a fun b=>
 aw b fun c=>
 af (.int .i64 (c.n:Int)))
theorem e9V (a0){h Q}:d9F a0 h Q→Y0 a0 h Q:=Nf.bh Tryz.call83 Tryz.func83 rfl mixed (cuts:=[]) (dm:=[]) (by kernel_rfl)
def d9G (a:Option Addr):M Value:=
 ai (Y0 a) fun f=>
 aP .i64 f fun g=>
 aI (g == 0) (
 af (.tuple #[.int .i64 0,.bool false])) (
 ax a fun b=>
 aw b fun d=>
 bd d 0 6 fun c=>
 ab .i64 c fun e=>
 af (.tuple #[.int .i64 e,.bool true]))
theorem e9W (a0){h Q}:d9G a0 h Q→c5U a0 h Q:=Nf.bh Tryz.call162 Tryz.func162 rfl mixed (cuts:=[]) (dm:=[]) (by kernel_rfl)
def oX (a b:Addr):M Value:=Cut Tryz.prog 387 (aQ Tryz.f387 2) (bf [(7,.pointer (some a)),(8,.pointer (some b))] 36 0)
def d9H (bo:Sl)(ik il:Int):M Value:=
 bd bo ik 6 fun b=>
 bd bo il 6 fun a=>
 aG (
 cf b fun e f g h i j=>
 aG (
 cf a fun bp br bs bt bu bv=>
 aG (
 aJ #[.int .i64 0,.int .i64 0,.int .i64 0,.int .i64 0,.int .i64 0,.int .i64 0] 258 fun ar=>
 aJ #[.int .i64 0,.int .i64 0,.int .i64 0,.int .i64 0,.int .i64 0,.int .i64 0] 258 fun au=>
 bq ar e f g h i j <|
 bq au bp br bs bt bu bv <|
 oX ar au) (
 aJ #[.int .i64 0,.int .i64 0,.int .i64 0,.int .i64 0,.int .i64 0,.int .i64 0] 258 fun av=>
 aJ #[.int .i64 0,.int .i64 0,.int .i64 0,.int .i64 0,.int .i64 0,.int .i64 0] 258 fun aw=>
 bq aw e f g h i j <|
 bq av bp br bs bt bu bv <|
 oX aw av)) (
 aG (
 aJ #[.int .i64 0,.int .i64 0,.int .i64 0,.int .i64 0,.int .i64 0,.int .i64 0] 258 fun q=>
 aG (
 cf a fun ci cj ck cl cm bw=>
 aJ #[.int .i64 0,.int .i64 0,.int .i64 0,.int .i64 0,.int .i64 0,.int .i64 0] 258 fun ax=>
 bq q e f g h i j <|
 bq ax ci cj ck cl cm bw <|
 oX q ax) (
 aJ #[.int .i64 0,.int .i64 0,.int .i64 0,.int .i64 0,.int .i64 0,.int .i64 0] 258 fun u=>
 aG (
 cf a fun bx bz ca cb cc cd=>
 bq q e f g h i j <|
 bq u bx bz ca cb cc cd <|
 oX q u) (
 bq q e f g h i j <|
 cf a fun ce cg ch cn co cp=>
 bq u ce cg ch cn co cp <|
 oX q u))) (
 aJ #[.int .i64 0,.int .i64 0,.int .i64 0,.int .i64 0,.int .i64 0,.int .i64 0] 258 fun r=>
 aG (
 cf a fun cq cr cs ct cu cv=>
 aJ #[.int .i64 0,.int .i64 0,.int .i64 0,.int .i64 0,.int .i64 0,.int .i64 0] 258 fun ay=>
 bq ay e f g h i j <|
 bq r cq cr cs ct cu cv <|
 oX ay r) (
 aJ #[.int .i64 0,.int .i64 0,.int .i64 0,.int .i64 0,.int .i64 0,.int .i64 0] 258 fun v=>
 aG (
 cf a fun cw cx cy cz da db=>
 bq v e f g h i j <|
 bq r cw cx cy cz da db <|
 oX v r) (
 bq v e f g h i j <|
 cf a fun dc dd de df dg dh=>
 bq r dc dd de df dg dh <|
 oX v r))))) (
 aG (
 cf a fun m n o p k l=>
 aG (
 cf b fun X Y Z aa ab ac=>
 aG (
 aJ #[.int .i64 0,.int .i64 0,.int .i64 0,.int .i64 0,.int .i64 0,.int .i64 0] 258 fun az=>
 aJ #[.int .i64 0,.int .i64 0,.int .i64 0,.int .i64 0,.int .i64 0,.int .i64 0] 258 fun ba=>
 bq az X Y Z aa ab ac <|
 bq ba m n o p k l <|
 oX az ba) (
 aJ #[.int .i64 0,.int .i64 0,.int .i64 0,.int .i64 0,.int .i64 0,.int .i64 0] 258 fun bb=>
 aJ #[.int .i64 0,.int .i64 0,.int .i64 0,.int .i64 0,.int .i64 0,.int .i64 0] 258 fun bc=>
 bq bc X Y Z aa ab ac <|
 bq bb m n o p k l <|
 oX bc bb)) (
 aG (
 aJ #[.int .i64 0,.int .i64 0,.int .i64 0,.int .i64 0,.int .i64 0,.int .i64 0] 258 fun y=>
 aG (
 cf b fun dx dy dz ea eb ec=>
 aJ #[.int .i64 0,.int .i64 0,.int .i64 0,.int .i64 0,.int .i64 0,.int .i64 0] 258 fun be=>
 bq y dx dy dz ea eb ec <|
 bq be m n o p k l <|
 oX y be) (
 aJ #[.int .i64 0,.int .i64 0,.int .i64 0,.int .i64 0,.int .i64 0,.int .i64 0] 258 fun bf=>
 cf b fun ed ee ef eg eh ei=>
 bq y ed ee ef eg eh ei <|
 bq bf m n o p k l <|
 oX y bf)) (
 aJ #[.int .i64 0,.int .i64 0,.int .i64 0,.int .i64 0,.int .i64 0,.int .i64 0] 258 fun z=>
 aG (
 cf b fun ej ek el em en eo=>
 aJ #[.int .i64 0,.int .i64 0,.int .i64 0,.int .i64 0,.int .i64 0,.int .i64 0] 258 fun bg=>
 bq bg ej ek el em en eo <|
 bq z m n o p k l <|
 oX bg z) (
 aJ #[.int .i64 0,.int .i64 0,.int .i64 0,.int .i64 0,.int .i64 0,.int .i64 0] 258 fun bh=>
 cf b fun ep eq er es et eu=>
 bq bh ep eq er es et eu <|
 bq z m n o p k l <|
 oX bh z)))) (
 aG (
 aJ #[.int .i64 0,.int .i64 0,.int .i64 0,.int .i64 0,.int .i64 0,.int .i64 0] 258 fun c=>
 aG (
 cf b fun B C D A E F=>
 aG (
 cf a fun ev ew dm dn dp dq=>
 aJ #[.int .i64 0,.int .i64 0,.int .i64 0,.int .i64 0,.int .i64 0,.int .i64 0] 258 fun bi=>
 bq c B C D A E F <|
 bq bi ev ew dm dn dp dq <|
 oX c bi) (
 aJ #[.int .i64 0,.int .i64 0,.int .i64 0,.int .i64 0,.int .i64 0,.int .i64 0] 258 fun w=>
 aG (
 cf a fun dr ds dt du dv dw=>
 bq c B C D A E F <|
 bq w dr ds dt du dv dw <|
 oX c w) (
 bq c B C D A E F <|
 cf a fun fx fy fz ga gb gc=>
 bq w fx fy fz ga gb gc <|
 oX c w))) (
 aG (
 cf a fun ad ae af N O P=>
 aG (
 cf b fun gd ge gf gg gh gi=>
 aJ #[.int .i64 0,.int .i64 0,.int .i64 0,.int .i64 0,.int .i64 0,.int .i64 0] 258 fun bj=>
 bq c gd ge gf gg gh gi <|
 bq bj ad ae af N O P <|
 oX c bj) (
 aJ #[.int .i64 0,.int .i64 0,.int .i64 0,.int .i64 0,.int .i64 0,.int .i64 0] 258 fun bk=>
 cf b fun gj gk gl gm gn go=>
 bq c gj gk gl gm gn go <|
 bq bk ad ae af N O P <|
 oX c bk)) (
 aJ #[.int .i64 0,.int .i64 0,.int .i64 0,.int .i64 0,.int .i64 0,.int .i64 0] 258 fun t=>
 aG (
 cf b fun Q R S T U V=>
 aG (
 cf a fun gp gq gr gs gt gu=>
 bq c Q R S T U V <|
 bq t gp gq gr gs gt gu <|
 oX c t) (
 bq c Q R S T U V <|
 cf a fun gv gw ex ey ez fa=>
 bq t gv gw ex ey ez fa <|
 oX c t)) (
 cf a fun fb fc fd fe ff fg=>
 cf b fun fh fi fj fk fl fm=>
 bq c fh fi fj fk fl fm <|
 bq t fb fc fd fe ff fg <|
 oX c t)))) (
 aJ #[.int .i64 0,.int .i64 0,.int .i64 0,.int .i64 0,.int .i64 0,.int .i64 0] 258 fun d=>
 aG (
 cf b fun G H I J K L=>
 aG (
 cf a fun fn fo fp fq fr fs=>
 aJ #[.int .i64 0,.int .i64 0,.int .i64 0,.int .i64 0,.int .i64 0,.int .i64 0] 258 fun bl=>
 bq bl G H I J K L <|
 bq d fn fo fp fq fr fs <|
 oX bl d) (
 aJ #[.int .i64 0,.int .i64 0,.int .i64 0,.int .i64 0,.int .i64 0,.int .i64 0] 258 fun x=>
 aG (
 cf a fun ft fu fv fw hh hi=>
 bq x G H I J K L <|
 bq d ft fu fv fw hh hi <|
 oX x d) (
 bq x G H I J K L <|
 cf a fun hj hk hl hm hn ho=>
 bq d hj hk hl hm hn ho <|
 oX x d))) (
 aG (
 cf a fun W ag ah ai aj ak=>
 aG (
 cf b fun hp hq hr hs ht hu=>
 aJ #[.int .i64 0,.int .i64 0,.int .i64 0,.int .i64 0,.int .i64 0,.int .i64 0] 258 fun bm=>
 bq bm hp hq hr hs ht hu <|
 bq d W ag ah ai aj ak <|
 oX bm d) (
 aJ #[.int .i64 0,.int .i64 0,.int .i64 0,.int .i64 0,.int .i64 0,.int .i64 0] 258 fun bn=>
 cf b fun hv hw hx hy hz ia=>
 bq bn hv hw hx hy hz ia <|
 bq d W ag ah ai aj ak <|
 oX bn d)) (
 aJ #[.int .i64 0,.int .i64 0,.int .i64 0,.int .i64 0,.int .i64 0,.int .i64 0] 258 fun s=>
 aG (
 cf b fun al am an ao ap aq=>
 aG (
 cf a fun ib ic id ie ig ih=>
 bq s al am an ao ap aq <|
 bq d ib ic id ie ig ih <|
 oX s d) (
 bq s al am an ao ap aq <|
 cf a fun gx gy gz ha hb hc=>
 bq d gx gy gz ha hb hc <|
 oX s d)) (
 cf a fun io im hd he hf hg=>
 cf b fun di dj dk dl ii ij=>
 bq s di dj dk dl ii ij <|
 bq d io im hd he hf hg <|
 oX s d))))))
def d9K (a b:Addr):M Value:=
 ab .i64 a fun c=>
 ab .i64 b fun d=>
 aI (c != d) (
 ab .i64 a fun e=>
 ab .i64 b fun f=>
 af (.bool (decide (e<f)))) (
 ab .i64 (a.add 5) fun g=>
 ab .i64 (b.add 5) fun h=>
 af (.bool (decide (g<h))))
theorem e9X (l0 i1 k2){h Q}:d9H l0 i1 k2 h Q→Y1 l0 i1 k2 h Q:=Nf.bh Tryz.call387 Tryz.func387 rfl mixed (cuts:=[(2,[7,8])]) (dm:=[(1,[])]) (by kernel_rfl)
theorem e9Y (a7 b8){h Q}:d9K a7 b8 h Q→oX a7 b8 h Q:=Cut.bh Tryz.func387 mixed (cuts:=[(2,[7,8])]) (dm:=[(1,[])]) (by kernel_rfl)
def d9L (a:Sl)(b c:Int):M Value:=
 bd a c 6 fun e=>
 bd a b 6 fun d=>
 aG (
 cf e fun p q r s t u=>
 cf d fun j k l m n o=>
 bd a b 6 fun v=>
 bq v p q r s t u <|
 bd a c 6 fun w=>
 bq w j k l m n o <|
 af (.tuple #[])) (
 cf d fun A z C f g h=>
 cf e fun D B E F G i=>
 bd a b 6 fun y=>
 bq y D B E F G i <|
 bd a c 6 fun x=>
 bq x A z C f g h <|
 af (.tuple #[]))
theorem e9Z (l0 i1 k2){h Q}:d9L l0 i1 k2 h Q→Y2 l0 i1 k2 h Q:=Nf.bh Tryz.call388 Tryz.func388 rfl mixed (cuts:=[]) (dm:=[(0,[])]) (by kernel_rfl)
def d9M (a:Option Addr):M Value:=
 ax a fun l=>
 aw l fun f=>
 ax a fun m=>
 aw m fun w=>
 bd w (IntKind.i64.wrap ((f.n:Int)-1)) 6 fun v=>
 cf v fun x y z g h k=>
 aJ #[.int .i64 0,.int .i64 0,.int .i64 0,.int .i64 0,.int .i64 0,.int .i64 0] 258 fun d=>
 bq d x y z g h k <|
 ax a fun i=>
 aw i fun e=>
 mw e 6 0 (IntKind.i64.wrap ((f.n:Int)-1)) (e.c:Int) fun b=>
 ax a fun j=>
 an j (.slice b.p b.n b.c) <|
 cf d fun o q r s t u=>
 af (.iface 258 (.agg #[.int .i64 o,.int .i64 q,.int .i64 r,.int .i64 s,.int .i64 t,.int .i64 u]))
theorem f0a (l0){h Q}:d9M l0 h Q→c5V l0 h Q:=Nf.bh Tryz.call389 Tryz.func389 rfl mixed (cuts:=[]) (dm:=[]) (by kernel_rfl)
def d9U (a:Option Addr)(E F G H I J:Int):M Value:=
 aJ #[.int .i64 0,.int .i64 0,.int .i64 0,.int .i64 0,.int .i64 0,.int .i64 0] 258 fun g=>
 bq g E F G H I J <|
 ax a fun d=>
 aG (
 aw d fun y=>
 cf g fun s t u v w x=>
 aJ #[.int .i64 s,.int .i64 t,.int .i64 u,.int .i64 v,.int .i64 w,.int .i64 x] 258 fun o=>
 bU 258 6 48 #[.int .i64 0,.int .i64 0,.int .i64 0,.int .i64 0,.int .i64 0,.int .i64 0] y ⟨(some o),1,1⟩ fun b=>
 ax a fun q=>
 an q (.slice b.p b.n b.c) <|
 af (.tuple #[])) (
 cf g fun j i k l m h=>
 aG (
 aw d fun z=>
 aJ #[.int .i64 j,.int .i64 i,.int .i64 k,.int .i64 l,.int .i64 m,.int .i64 h] 258 fun A=>
 bU 258 6 48 #[.int .i64 0,.int .i64 0,.int .i64 0,.int .i64 0,.int .i64 0,.int .i64 0] z ⟨(some A),1,1⟩ fun f=>
 ax a fun r=>
 an r (.slice f.p f.n f.c) <|
 af (.tuple #[])) (
 aJ #[.int .i64 j,.int .i64 i,.int .i64 k,.int .i64 l,.int .i64 m,.int .i64 h] 258 fun B=>
 aw d fun C=>
 bU 258 6 48 #[.int .i64 0,.int .i64 0,.int .i64 0,.int .i64 0,.int .i64 0,.int .i64 0] C ⟨(some B),1,1⟩ fun e=>
 ax a fun D=>
 an D (.slice e.p e.n e.c) <|
 af (.tuple #[])))
theorem f0b (l0 lR lS lT sa sb sg){h Q}:d9U l0 lR lS lT sa sb sg h Q→c5W l0 lR lS lT sa sb sg h Q:=Nf.bh Tryz.call390 Tryz.func390 rfl mixed (cuts:=[]) (dm:=[(3,[])]) (by kernel_rfl)
def Bzs (a:Sl):M Value:=
 af (.int .i64 (a.n:Int))
theorem Szs (l0){h Q}:Bzs l0 h Q→c5X l0 h Q:=Nf.bh Tryz.call386 Tryz.func386 rfl mixed (cuts:=[]) (dm:=[]) (by kernel_rfl)
def d9V (a:Option Addr)(c d e g h i:Int):M Value:=
 ai (c5W a c d e g h i) fun l=>
 ax a fun b=>
 aw b fun k=>
 ai (c5X k) fun f=>
 aP .i64 f fun j=>
 ai (d7U a (IntKind.i64.wrap (j-(1:Int)))) fun m=>
 af (.tuple #[])
theorem f0c (h0 lR lS lT sa sb sg){h Q}:d9V h0 lR lS lT sa sb sg h Q→Y3 h0 lR lS lT sa sb sg h Q:=Nf.bh Tryz.call144 Tryz.func144 rfl mixed (cuts:=[]) (dm:=[]) (by kernel_rfl)
def d9W (a:Option Addr):M Value:=
 ax a fun c=>
 aw c fun h=>
 ai (c5X h) fun g=>
 aP .i64 g fun b=>
 ax a fun d=>
 aw d fun i=>
 ai (Y2 i 0 (IntKind.i64.wrap (b-(1:Int)))) fun j=>
 ai (d7V a 0 (IntKind.i64.wrap (b-(1:Int)))) fun e=>
 da e fun k=>
 ai (c5V a) fun f=>
 af (f)
theorem f0d (h0){h Q}:d9W h0 h Q→c5Y h0 h Q:=Nf.bh Tryz.call145 Tryz.func145 rfl mixed (cuts:=[]) (dm:=[]) (by kernel_rfl)
def b0l (a:Option Addr)(b:Int):M Value:=Cut Tryz.prog 209 (aQ Tryz.f209 0) (bf [(0,.iface 256 (.pointer a)),(1,.int .i64 b)] 23 0)
def d9X (a:Option Addr)(b:Int):M Value:=
 b0l a b
def d9Y (b:Option Addr)(a:Int):M Value:=
 cD ((2:Int)≠0) <|
 ai (aI ((IntKind.i64.wrap (Int.tdiv (IntKind.i64.wrap (a-(1:Int))) 2)) == a) (af true) (ax b fun d=>
 aw d fun h=>
 ai (Y1 h a (IntKind.i64.wrap (Int.tdiv (IntKind.i64.wrap (a-(1:Int))) 2))) fun c=>
 da c fun g=>
 af (!g))) fun f=>
 aI f (
 af (.tuple #[])) (
 ax b fun e=>
 aw e fun i=>
 ai (Y2 i (IntKind.i64.wrap (Int.tdiv (IntKind.i64.wrap (a-(1:Int))) 2)) a) fun j=>
 b0l b (IntKind.i64.wrap (Int.tdiv (IntKind.i64.wrap (a-(1:Int))) 2)))
theorem f0g (h0 j1){h Q}:d9X h0 j1 h Q→d7U h0 j1 h Q:=Nf.bh Tryz.call209 Tryz.func209 rfl mixed (cuts:=[(0,[0,1])]) (dm:=[]) (by kernel_rfl)
theorem f0h (h0 j1){h Q}:d9Y h0 j1 h Q→b0l h0 j1 h Q:=Cut.bh Tryz.func209 mixed (cuts:=[(0,[0,1])]) (dm:=[]) (by kernel_rfl)
def b0m (a:Option Addr)(b d c:Int):M Value:=Cut Tryz.prog 210 (aQ Tryz.f210 2) (bf [(0,.iface 256 (.pointer a)),(1,.int .i64 b),(2,.int .i64 d),(7,.int .i64 c)] 48 0)
def b0n (a:Option Addr)(b e c d:Int):M Value:=Cut Tryz.prog 210 (aQ Tryz.f210 8) (bf [(0,.iface 256 (.pointer a)),(1,.int .i64 b),(2,.int .i64 e),(7,.int .i64 c),(9,.int .i64 d)] 48 0)
def d9Z (b:Option Addr)(a c:Int):M Value:=
 b0m b a c a
def Bzt (c:Option Addr)(d b a:Int):M Value:=
 aI ((decide ((IntKind.i64.wrap ((IntKind.i64.wrap ((2:Int)*a))+1))≥b))||(decide ((IntKind.i64.wrap ((IntKind.i64.wrap ((2:Int)*a))+1))<0))) (
 af (.bool (decide (a>d)))) (
 ai (aI (decide ((IntKind.i64.wrap ((IntKind.i64.wrap ((IntKind.i64.wrap ((2:Int)*a))+1))+1))<b)) (ax c fun e=>
 aw e fun g=>
 ai (Y1 g (IntKind.i64.wrap ((IntKind.i64.wrap ((IntKind.i64.wrap ((2:Int)*a))+1))+1)) (IntKind.i64.wrap ((IntKind.i64.wrap ((2:Int)*a))+1))) fun h=>
 da h fun i=>
 af i) (af false)) fun f=>
 aI f (
 b0n c d b a (IntKind.i64.wrap ((IntKind.i64.wrap ((IntKind.i64.wrap ((2:Int)*a))+1))+1))) (
 b0n c d b a (IntKind.i64.wrap ((IntKind.i64.wrap ((2:Int)*a))+1))))
def e0a (a:Option Addr)(d i b c:Int):M Value:=
 ax a fun e=>
 aw e fun g=>
 ai (Y1 g c b) fun k=>
 da k fun j=>
 aI (!j) (
 af (.bool (decide (b>d)))) (
 ax a fun f=>
 aw f fun h=>
 ai (Y2 h b c) fun l=>
 b0m a d i c)
theorem f0l (h0 i1 n2){h Q}:d9Z h0 i1 n2 h Q→d7V h0 i1 n2 h Q:=Nf.bh Tryz.call210 Tryz.func210 rfl mixed (cuts:=[(2,[0,1,2,7]),(8,[0,1,2,7,9])]) (dm:=[]) (by kernel_rfl)
theorem Szt (h0 i1 n2 i7){h Q}:Bzt h0 i1 n2 i7 h Q→b0m h0 i1 n2 i7 h Q:=Cut.bh Tryz.func210 mixed (cuts:=[(2,[0,1,2,7]),(8,[0,1,2,7,9])]) (dm:=[]) (by kernel_rfl)
theorem f0m (h0 i1 n2 i7 j9){h Q}:e0a h0 i1 n2 i7 j9 h Q→b0n h0 i1 n2 i7 j9 h Q:=Cut.bh Tryz.func210 mixed (cuts:=[(2,[0,1,2,7]),(8,[0,1,2,7,9])]) (dm:=[]) (by kernel_rfl)
def e0b (b:Sl):M Value:=
 aI b.p.isNone (
 af (.slice none (0) (0))) (
 aJ #[] 64 fun d=>
 bU 64 7 56 #[.int .i64 0,.int .i64 0,.int .i64 0,.int .i64 0,.int .i64 0,.int .i64 0,.int .i64 0] ⟨(some d),0,0⟩ b fun a=>
 af (.slice a.p a.n a.c))
theorem f0n (s0){h Q}:e0b s0 h Q→d7W s0 h Q:=Nf.bh Tryz.call93 Tryz.func93 rfl mixed (cuts:=[]) (dm:=[]) (by kernel_rfl)
def e0c (b:Sl):M Value:=
 aI b.p.isNone (
 af (.slice none (0) (0))) (
 aJ #[] 66 fun d=>
 bU 66 11 88 #[.int .i64 0,.int .i64 0,.int .i64 0,.int .i64 0,.int .i64 0,.bool false,.int .i64 0,.int .i64 0,.int .i64 0,.int .i64 0,.int .i64 0] ⟨(some d),0,0⟩ b fun a=>
 af (.slice a.p a.n a.c))
theorem f0o (s0){h Q}:e0c s0 h Q→d7X s0 h Q:=Nf.bh Tryz.call94 Tryz.func94 rfl mixed (cuts:=[]) (dm:=[]) (by kernel_rfl)
def e0d (b:Sl):M Value:=
 aI b.p.isNone (
 af (.slice none (0) (0))) (
 aJ #[] 204 fun d=>
 bU 204 3 24 #[.int .i64 0,.int .i64 0,.int .i64 0] ⟨(some d),0,0⟩ b fun a=>
 af (.slice a.p a.n a.c))
theorem f0p (s0){h Q}:e0d s0 h Q→d7Y s0 h Q:=Nf.bh Tryz.call124 Tryz.func124 rfl mixed (cuts:=[]) (dm:=[]) (by kernel_rfl)
end Go.Proofs.YtnpinhahjgbigaaGreatDoor
end
section
namespace Go.Proofs.YtnpinhahjgbigaaGreatDoor.LLin
open Go Go.Sb
def b0o (x:Bool×Bool):List Value:=[.bool x.1,.bool x.2]
def aL (b:Nat)(l:List (Bool×Bool)):As:=aEx fun s:Sl=>aStar (aBlk b [.slice s.p s.n s.c]) (aRow b0o 2 s l)
variable {h0 h:Hp}{R:List As}{b:Nat}{l:List (Bool×Bool)}
theorem jG:Sep h0 h (aL b l::R)↔∃s:Sl,Sep h0 h (aBlk b [.slice s.p s.n s.c]::aRow b0o 2 s l::R):=by
 unfold aL;rw[Sep.ex];simp only[Sep.star]
def Bd {X:Type}(l:List X)(i:Int):Bool:=decide (i≥0)&&decide (i<l.length)
theorem ou {X:Type}{l:List X}{i:Int}:Bd l i=true↔0≤i∧i<l.length:=by unfold Bd;simp
theorem b0p {X:Type}{l:List X}{i:Int}:Bd l i=false↔i<0∨i≥l.length:=by
 rw[←Bool.not_eq_true,ou];omega
def gK (l:List (Bool×Bool))(i:Int):Bool×Bool:=l.getD i.toNat (false,false)
theorem Be {i:Int}(hi:Bd l i=true):l[i.toNat]? =some (gK l i):=by
 have:=ou.1 hi
 unfold gK;simp[show i.toNat<l.length by omega]
theorem c6L (hs:Sep h0 h (aL b l::R)):c5E (some ⟨b,0,none⟩) h (fun v h'=>v= .int .i64 l.length∧h'=h):=by
 obtain⟨s,hs⟩:=jG.1 hs
 have hl:=hs.bn 1 rfl
 apply e8F
 unfold d8t
 simp only[Option.isNone_some,aj,au]
 refine Sep.bu hs 0 rfl rfl ?_
 simp[hl]
theorem Rw {s:Sl}(hs:Sep h0 h (aBlk b [.slice s.p s.n s.c]::aRow b0o 2 s l::R))(i:Int):YN (some ⟨b,0,none⟩) i h (fun v h'=>h'=h∧if Bd l i then ∃a,v= .pointer (some a)∧At s a i.toNat 2 else v= .pointer none):=by
 apply e8E
 unfold d8s
 rw[ae]
 have key:∀c:Bool,c= !(Bd l i)→(aI c (af (Value.pointer none)) (ax (some ⟨b,0,none⟩) fun (a4:Addr)=>aw a4 fun (dJ:Sl)=>bd dJ i 2 fun (iv:Addr)=>af (Value.pointer (some iv)))) h (fun v h'=>h'=h∧if Bd l i then ∃a,v=Value.pointer (some a)∧At s a i.toNat 2 else v=Value.pointer none):=by
  intro c hc
  cases hi:Bd l i
  ·rw[hi]at hc;rw[hc];exact⟨rfl,rfl⟩
  ·rw[hi]at hc;rw[hc]
   have:=ou.1 hi
   simp only[Bool.not_true,aj,au]
   refine Sep.bu hs 0 rfl rfl ?_;(refine Sep.idx hs 1 rfl (by first|omega|(simp only[List.length_set,List.length_map,List.length_replicate,List.length_append,List.length_cons,List.length_nil,List.length_reverse,List.length_range];omega)|(simp;omega)) (by first|omega|(simp only[List.length_set,List.length_map,List.length_replicate,List.length_append,List.length_cons,List.length_nil,List.length_reverse,List.length_range];omega)|(simp;omega)) fun aa sV=>?_;try simp only[Int.toNat_natCast]at sV)
   exact⟨rfl,aa,rfl,sV⟩
 by_cases h0':i<0
 ·rw[decide_eq_true h0']
  rw[aq,ak]
  exact key true (by rw[b0p.2 (.inl h0')];rfl)
 ·rw[decide_eq_false h0']
  simp only[aj,ae]
  refine (c6L (jG.2 ⟨s,hs⟩)).mono ?_
  rintro v h' ⟨rfl,rfl⟩
  simp only[az,ak]
  refine key _ ?_
  unfold Bd
  rw[decide_eq_true (by omega:i≥0),Bool.true_and]
  by_cases h1:i<l.length
  ·rw[decide_eq_true h1,decide_eq_false (by omega)];rfl
  ·rw[decide_eq_false h1,decide_eq_true (by omega)];rfl
def kP (l:List (Bool×Bool))(i:Int)(x:Bool×Bool):List (Bool×Bool):=if Bd l i then l.set i.toNat x else l
def Bf (l:List (Bool×Bool))(i:Int):Int:=if Bd l i then 0 else 6
theorem a1W (hs:Sep h0 h (aL b l::R))(i:Int):YK (some ⟨b,0,none⟩) i h (fun v h'=>v= .tuple #[.bool (Bd l i&& !(gK l i).1),.int .i64 (Bf l i)]∧Sep h0 h' (aL b (kP l i ((gK l i).1,(gK l i).1))::R)):=by
 obtain⟨s,hs⟩:=jG.1 hs
 apply e8B
 unfold d8p
 rw[ae]
 refine (Rw hs i).mono ?_
 rintro v h' ⟨rfl,hv⟩
 unfold Bf kP
 cases hi:Bd l i<;>rw[hi]at hv
 ·simp only[Bool.false_eq_true,if_false]at hv ⊢
  subst hv
  exact⟨rfl,jG.2 ⟨s,hs⟩⟩
 ·simp only[if_true]at hv ⊢
  obtain⟨a,rfl,fG⟩:=hv
  simp only[aS,Option.isNone_some,aj,au]
  have hx:=Be hi
  refine hs.b5x 1 rfl (fun _=>rfl) fG hx rfl ?_
  refine hs.sR 1 ((gK l i).1,(gK l i).1) rfl (fun _=>rfl) fG hx (by omega) rfl rfl fun h hs=>?_
  simp only[sz0,sz1]at hs
  have hi':=ou.1 hi
  refine hs.b5x 1 rfl (fun _=>rfl) fG (x:=((gK l i).1,(gK l i).1)) (List.getElem?_set_self (by omega)) rfl ?_
  exact⟨by simp,jG.2 ⟨s,hs⟩⟩
theorem b0q (hs:Sep h0 h (aL b l::R))(i:Int):YM (some ⟨b,0,none⟩) i h (fun v h'=>v= .int .i64 (Bf l i)∧Sep h0 h' (aL b (kP l i (true,(gK l i).2))::R)):=by
 obtain⟨s,hs⟩:=jG.1 hs
 apply e8D
 unfold d8r
 rw[ae]
 refine (Rw hs i).mono ?_
 rintro v h' ⟨rfl,hv⟩
 unfold Bf kP
 cases hi:Bd l i<;>rw[hi]at hv
 ·simp only[Bool.false_eq_true,if_false]at hv ⊢
  subst hv
  exact⟨rfl,jG.2 ⟨s,hs⟩⟩
 ·simp only[if_true]at hv ⊢
  obtain⟨a,rfl,fG⟩:=hv
  simp only[aS,Option.isNone_some,aj,au]
  have hx:=Be hi
  refine hs.vo 1 (true,(gK l i).2) rfl (fun _=>rfl) fG hx (by omega) rfl rfl fun h hs=>?_
  simp only[sz0,sz1]at hs
  exact⟨rfl,jG.2 ⟨s,hs⟩⟩
theorem Rx (hs:Sep h0 h (aL b l::R))(i:Int):YL (some ⟨b,0,none⟩) i h (fun v h'=>v= .tuple #[.bool (Bd l i&&(gK l i).2),.int .i64 (Bf l i)]∧Sep h0 h' (aL b (kP l i (false,false))::R)):=by
 obtain⟨s,hs⟩:=jG.1 hs
 apply e8C
 unfold d8q
 rw[ae]
 refine (Rw hs i).mono ?_
 rintro v h' ⟨rfl,hv⟩
 unfold Bf kP
 cases hi:Bd l i<;>rw[hi]at hv
 ·simp only[Bool.false_eq_true,if_false]at hv ⊢
  subst hv
  exact⟨rfl,jG.2 ⟨s,hs⟩⟩
 ·simp only[if_true]at hv ⊢
  obtain⟨a,rfl,fG⟩:=hv
  simp only[aS,Option.isNone_some,aj,au]
  have hx:=Be hi
  have hi':=ou.1 hi
  refine hs.AW 1 rfl (fun _=>rfl) fG hx rfl ?_
  refine hs.vo 1 (false,(gK l i).2) rfl (fun _=>rfl) fG hx (by omega) rfl rfl fun h hs=>?_
  simp only[sz0,sz1]at hs
  refine hs.sR 1 (x:=(false,(gK l i).2)) (false,false) rfl (fun _=>rfl) fG (List.getElem?_set_self (by omega)) (by omega) rfl rfl fun h hs=>?_
  simp only[sz0,sz1,List.set_set]at hs
  exact⟨by simp,jG.2 ⟨s,hs⟩⟩
def Bg (n:Int):Nat:=(min (max n 0) 8).toNat
theorem b0r (n:Int):(if (8:Int)<(if (0:Int)>n then (0:Int) else n) then (8:Int) else (if (0:Int)>n then (0:Int) else n))=(Bg n:Int):=by
 unfold Bg;omega
theorem c6M (hs:Sep h0 h R)(n:Int):c5D n h (fun v h'=>∃b,v= .pointer (some ⟨b,0,none⟩)∧Sep h0 h' (aL b (List.replicate (Bg n) (false,false))::R)):=by
 apply e8A
 unfold d8o
 rw[b0r]
 have hc:Bg n≤8:=by unfold Bg;omega
 refine hs.make b0o 2 (false,false) rfl (by omega) (by omega) (by omega) fun s h hn hs=>?_
 rw[Int.toNat_natCast]at hs
 (refine Sep.new hs fun nb h hs=>?_;try simp only[sz2]at hs)
 exact⟨nb,rfl,jG.2 ⟨s,hs⟩⟩
end Go.Proofs.YtnpinhahjgbigaaGreatDoor.LLin
end
section
namespace Go.Proofs.YtnpinhahjgbigaaGreatDoor.LFrame
open Go Go.Sb
structure Fr where
 who:Int
 base:Int
 size:Int
def Fr.enc (x:Fr):List Value:=[.int .i64 x.who,.int .i64 x.base,.int .i64 x.size]
def du (l:List (Int×Int)):Int:=(l.map (·.2)).sum
def um:Int→List (Int×Int)→List Fr
 |_,[]=>[]
 |d,(w,z)::l=>⟨w,d,z⟩::um (d+z) l
theorem iA:∀(d:Int) (l:List (Int×Int)),(um d l).length=l.length
 |_,[]=>rfl
 |d,(w,z)::l=>by simp[um,iA]
theorem Bh:∀(d:Int) (l m:List (Int×Int)),um d (l++m)=um d l++um (d+du l) m
 |d,[],m=>by simp[um,du]
 |d,(w,z)::l,m=>by
  simp only[List.cons_append,um,Bh (d+z) l m,du,List.map_cons,List.sum_cons]
  rw[Int.add_assoc]
theorem Ei (l m:List (Int×Int)):du (l++m)=du l+du m:=by simp[du]
structure Fu (l:List (Int×Int)):Prop where
 n:l.length≤256
 z:∀x∈l,0≤x.2∧x.2≤4096
theorem Gy:∀(l:List (Int×Int)),(∀x∈l,0≤x.2∧x.2≤4096)→0≤du l∧du l≤4096*l.length
 |[],_=>by simp[du]
 |(w,z)::l,h=>by
  have:=Gy l fun x hx=>h x (by simp[hx])
  have h1:=h (w,z) (by simp)
  simp only[du,List.map_cons,List.sum_cons,List.length_cons]at*
  omega
theorem J9 {X:Type}(l:List X)(h:l≠[]):∃m x,l=m++[x]:=⟨l.dropLast,l.getLast h,(List.dropLast_concat_getLast h).symm⟩
def qW (l:List (Int×Int)):Fr:=match l.getLast? with
 |some x=>⟨x.1,du l-x.2,x.2⟩
 |none=>⟨0,0,0⟩
theorem z9 (m:List (Int×Int))(x:Int×Int):qW (m++[x])=⟨x.1,du m,x.2⟩:=by
 unfold qW
 simp[du]
theorem Gz (l:List (Int×Int)):(qW l).base+(qW l).size=du l:=by
 unfold qW
 cases h:l.getLast? with
 |none=>rw[List.getLast?_eq_none_iff]at h;subst h;simp[du]
 |some x=>simp only;omega
def c6N (l:List (Int×Int)):Bool:= !l.isEmpty
theorem Ka (m:List (Int×Int))(x:Int×Int):um 0 (m++[x])=um 0 m++[qW (m++[x])]:=by
 rw[Bh,z9];simp[um]
def jH (b:Nat)(l:List (Int×Int))(pk:Int):As:=aEx fun s:Sl=>aStar (aBlk b [.slice s.p s.n s.c,.int .i64 pk]) (aRow Fr.enc 3 s (um 0 l))
section
variable {h0 h:Hp}{R:List As}{b:Nat}{l:List (Int×Int)}{pk:Int}
theorem eY:Sep h0 h (jH b l pk::R)↔∃s:Sl,Sep h0 h (aBlk b [.slice s.p s.n s.c,.int .i64 pk]::aRow Fr.enc 3 s (um 0 l)::R):=by
 unfold jH;rw[Sep.ex];simp only[Sep.star]
theorem c6O (hs:Sep h0 h R):c5F h (fun v h'=>∃b,v= .pointer (some ⟨b,0,none⟩)∧Sep h0 h' (jH b [] 0::R)):=by
 apply e8G
 unfold d8u
 have hs:=hs.fw Fr.enc 3
 (refine Sep.new hs fun nb h hs=>?_;try simp only[sz2]at hs)
 exact⟨nb,rfl,eY.2 ⟨⟨none,0,0⟩,hs⟩⟩
theorem Aa (hs:Sep h0 h R)(a c d:Int):Nzp a c d h (fun v h'=>v= .int .i64 (IntKind.i64.wrap (c+d))∧Sep h0 h' R):=by
 apply e8Q
 unfold d8E
 (refine Sep.new hs fun nb h hs=>?_;try simp only[sz2]at hs)
 simp only[ay,Nat.zero_add]
 refine Sep.aB hs 0 rfl rfl ?_;refine Sep.aB hs 0 rfl rfl ?_
 exact⟨rfl,hs.drop⟩
theorem b6o (hs:Sep h0 h (jH b l pk::R))(hl:Fu l):a9O (some ⟨b,0,none⟩) h (fun v h'=>v= .tuple #[.agg #[.int .i64 (qW l).who,.int .i64 (qW l).base,.int .i64 (qW l).size],.bool (c6N l)]∧Sep h0 h' (jH b l pk::R)):=by
 obtain⟨s,hs⟩:=eY.1 hs
 have hn:=hs.bn 1 rfl
 rw[iA]at hn
 have c6P:=hl.n
 apply e8K
 unfold d8y
 (refine Sep.new hs fun nb h hs=>?_;try simp only[sz2]at hs)
 simp only[Option.isNone_some,aj,au,ae]
 refine Sep.bu hs 1 rfl rfl ?_
 simp only[ak,ay,Nat.zero_add]
 refine aE (fun hc=>?_) (fun hc=>?_)
 ·have hc:s.n=0:=by simpa using hc
  have hl0:l=[]:=List.length_eq_zero_iff.1 (by omega)
  subst hl0
  (refine Sep.st hs 0 rfl rfl rfl fun h hs=>?_;simp only[sz0,sz1]at hs);(refine Sep.st hs 0 rfl rfl rfl fun h hs=>?_;simp only[sz0,sz1]at hs);(refine Sep.st hs 0 rfl rfl rfl fun h hs=>?_;simp only[sz0,sz1]at hs);refine Sep.aB hs 0 rfl rfl ?_;refine Sep.aB hs 0 rfl rfl ?_;refine Sep.aB hs 0 rfl rfl ?_
  exact⟨rfl,eY.2 ⟨s,hs.drop⟩⟩
 ·have hc:¬s.n=0:=by simpa using hc
  obtain⟨m,x,rfl⟩:=J9 l (by rintro rfl;simp at hn;omega)
  refine Sep.bu hs 1 rfl rfl ?_;refine Sep.bu hs 1 rfl rfl ?_
  simp only[List.length_append,List.length_cons,List.length_nil]at hn
  rw[wrap64 _ (by simp only[List.length_append,List.length_cons,List.length_nil]at c6P;omega)]
  refine hs.idx 2 rfl (by omega) (by rw[iA];simp;omega) fun a ha=>?_
  have ng:(um 0 (m++[x]))[((s.n:Int)-1).toNat]? =some (qW (m++[x])):=by
   rw[Ka,show ((s.n:Int)-1).toNat=(um 0 m).length by rw[iA];omega];simp
  refine hs.fR 2 rfl (fun _=>rfl) ha ng rfl ?_
  refine hs.iu 2 rfl (fun _=>rfl) ha ng rfl ?_
  refine hs.iu 2 rfl (fun _=>rfl) ha ng rfl ?_
  (refine Sep.st hs 0 rfl rfl rfl fun h hs=>?_;simp only[sz0,sz1]at hs);(refine Sep.st hs 0 rfl rfl rfl fun h hs=>?_;simp only[sz0,sz1]at hs);(refine Sep.st hs 0 rfl rfl rfl fun h hs=>?_;simp only[sz0,sz1]at hs);refine Sep.aB hs 0 rfl rfl ?_;refine Sep.aB hs 0 rfl rfl ?_;refine Sep.aB hs 0 rfl rfl ?_
  exact⟨by simp[c6N],eY.2 ⟨s,hs.drop⟩⟩
theorem b0s (hs:Sep h0 h (jH b l pk::R))(hl:Fu l):c5G (some ⟨b,0,none⟩) h (fun v h'=>v= .int .i64 (du l)∧Sep h0 h' (jH b l pk::R)):=by
 apply e8P
 unfold d8C
 rw[ae]
 refine (b6o hs hl).mono ?_
 rintro v h ⟨rfl,hs⟩
 simp only[cC,bW,cG,az,av,cH]
 (refine Sep.new hs fun nb h hs=>?_;try simp only[sz2]at hs)
 simp only[ay,Nat.zero_add]
 (refine Sep.st hs 0 rfl rfl rfl fun h hs=>?_;simp only[sz0,sz1]at hs);(refine Sep.st hs 0 rfl rfl rfl fun h hs=>?_;simp only[sz0,sz1]at hs);(refine Sep.st hs 0 rfl rfl rfl fun h hs=>?_;simp only[sz0,sz1]at hs);refine Sep.aB hs 0 rfl rfl ?_;refine Sep.aB hs 0 rfl rfl ?_;refine Sep.aB hs 0 rfl rfl ?_
 rw[ae]
 refine (Aa hs.drop _ _ _).mono ?_
 rintro v h ⟨rfl,hs⟩
 have hb:=Gy l hl.z
 have:=hl.n
 simp only[az,ak]
 rw[Gz,wrap64 _ (by omega)]
 exact⟨rfl,hs⟩
theorem c6Q (hs:Sep h0 h (jH b l pk::R)):c5H (some ⟨b,0,none⟩) h (fun v h'=>v= .int .i64 pk∧h'=h):=by
 obtain⟨s,hs⟩:=eY.1 hs
 apply e8S
 unfold d8G
 simp only[Option.isNone_some,aj,au,ay,Nat.zero_add]
 refine Sep.aB hs 0 rfl rfl ?_
 exact⟨rfl,rfl⟩
def e0e (l:List (Int×Int))(who:Int):Int:=if l=[] then 8 else if (qW l).who=who then 0 else 9
def b0t (l:List (Int×Int))(who:Int):List (Int×Int):=if l=[] then l else if (qW l).who=who then l.dropLast else l
theorem e0f (hs:Sep h0 h (jH b l pk::R))(hl:Fu l)(who:Int):YO (some ⟨b,0,none⟩) who h (fun v h'=>v= .int .i64 (e0e l who)∧Sep h0 h' (jH b (b0t l who) pk::R)):=by
 have c6P:=hl.n
 apply e8J
 unfold d8x
 rw[ae]
 refine (b6o hs hl).mono ?_
 rintro v h ⟨rfl,hs⟩
 simp only[cC,bW,cG,az,av,cH]
 (refine Sep.new hs fun nb h hs=>?_;try simp only[sz2]at hs)
 simp only[ay,Nat.zero_add,au]
 (refine Sep.st hs 0 rfl rfl rfl fun h hs=>?_;simp only[sz0,sz1]at hs);(refine Sep.st hs 0 rfl rfl rfl fun h hs=>?_;simp only[sz0,sz1]at hs);(refine Sep.st hs 0 rfl rfl rfl fun h hs=>?_;simp only[sz0,sz1]at hs)
 unfold e0e b0t
 by_cases hl0:l=[]
 ·rw[if_pos hl0,if_pos hl0]
  subst hl0
  exact⟨rfl,hs.drop⟩
 ·rw[if_neg hl0,if_neg hl0]
  refine aA (by unfold c6N;cases l<;>simp_all) ?_
  refine Sep.aB hs 0 rfl rfl ?_
  refine aE (fun hc=>?_) (fun hc=>?_)
  ·have hc:¬(qW l).who=who:=by simpa using hc
   rw[if_neg hc,if_neg hc]
   exact⟨rfl,hs.drop⟩
  ·have hc:(qW l).who=who:=by simpa using hc
   rw[if_pos hc,if_pos hc]
   obtain⟨s,hs⟩:=eY.1 hs.drop
   have hn:=hs.bn 1 rfl
   rw[iA]at hn
   obtain⟨m,x,rfl⟩:=J9 l hl0
   simp only[List.length_append,List.length_cons,List.length_nil]at hn c6P
   refine Sep.bu hs 0 rfl rfl ?_;refine Sep.bu hs 0 rfl rfl ?_
   rw[wrap64 _ (by omega)]
   refine hs.slc 1 rfl (fun _=>rfl) (by omega) (by omega) (by rw[iA];simp;omega) rfl fun s' hn' hs=>?_
   simp only[sz0,sz1]at hs
   (refine Sep.st hs 0 rfl rfl rfl fun h hs=>?_;simp only[sz0,sz1]at hs)
   have e:List.drop (Int.toNat 0) (List.take ((s.n:Int)-1).toNat (um 0 (m++[x])))=um 0 m:=by
    rw[Ka,show ((s.n:Int)-1).toNat=(um 0 m).length by rw[iA];omega];simp
   rw[e]at hs
   rw[List.dropLast_concat]
   exact⟨rfl,eY.2 ⟨s',hs⟩⟩
def uo (z:Int):Bool:=(decide (z<(0:Int)))||(decide (z>(4096:Int)))
theorem c6R (hs:Sep h0 h (jH b l pk::R))(hl:Fu l)(who z:Int)(hz:uo z=false)(hlt:l.length<256)(hpk:du l≤pk):
  Nzo (some ⟨b,0,none⟩) who z h (fun v h'=>v= .tuple #[.int .i64 (du l),.int .i64 0]∧Sep h0 h' (jH b (l++[(who,z)]) (max pk (du l+z))::R)):=by
 have hz':0≤z∧z≤4096:=by unfold uo at hz;simp at hz;omega
 have hb:=Gy l hl.z
 obtain⟨s,hs⟩:=eY.1 hs
 have hn:=hs.bn 1 rfl
 rw[iA]at hn
 apply e8H
 unfold d8v
 simp only[Option.isNone_some,aj,au]
 refine aA hz ?_
 refine Sep.bu hs 0 rfl rfl ?_
 rw[decide_eq_false (by omega),aj,ae]
 refine (b0s (eY.2 ⟨s,hs⟩) hl).mono ?_
 rintro v h ⟨rfl,hs⟩
 obtain⟨s,hs⟩:=eY.1 hs
 simp only[az]
 refine hs.new fun f h hs=>?_
 simp only[ay,Nat.zero_add]
 (refine Sep.st hs 0 rfl rfl rfl fun h hs=>?_;simp only[sz0,sz1]at hs);(refine Sep.st hs 0 rfl rfl rfl fun h hs=>?_;simp only[sz0,sz1]at hs);(refine Sep.st hs 0 rfl rfl rfl fun h hs=>?_;simp only[sz0,sz1]at hs)
 have hf:um 0 l++[(⟨who,du l,z⟩:Fr)]=um 0 (l++[(who,z)]):=by rw[Bh];simp[um]
 have k9:∀(h:Hp) (s':Sl),Sep h0 h (aBlk f (⟨who,du l,z⟩:Fr).enc::aBlk b [.slice s'.p s'.n s'.c,.int .i64 pk]::aRow Fr.enc 3 s' (um 0 l++[(⟨who,du l,z⟩:Fr)])::R)→
   Kzp (some ⟨b,0,none⟩) ⟨f,0,none⟩ h (fun v h'=>v= .tuple #[.int .i64 (du l),.int .i64 0]∧Sep h0 h' (jH b (l++[(who,z)]) (max pk (du l+z))::R)):=by
  intro h s' hs
  have hm:(if IntKind.i64.wrap (du l+z)>pk then IntKind.i64.wrap (du l+z) else pk)=max pk (du l+z):=by
   rw[wrap64 _ (by omega)];omega
  have fin:∀h,Sep h0 h (aBlk f (⟨who,du l,z⟩:Fr).enc::aBlk b [.slice s'.p s'.n s'.c,.int .i64 pk]::aRow Fr.enc 3 s' (um 0 l++[(⟨who,du l,z⟩:Fr)])::R)→(an ⟨b,1,none⟩ (.int .i64 (if IntKind.i64.wrap (du l+z)>pk then IntKind.i64.wrap (du l+z) else pk)) <|
    ab .i64 ⟨f,1,none⟩ fun (FV:Int)=>af (Value.tuple #[.int .i64 FV,.int .i64 (0:Int)])) h (fun v h'=>v= .tuple #[.int .i64 (du l),.int .i64 0]∧Sep h0 h' (jH b (l++[(who,z)]) (max pk (du l+z))::R)):=by
   intro h hs
   (refine Sep.st hs 1 rfl rfl rfl fun h hs=>?_;simp only[sz0,sz1]at hs);refine Sep.aB hs 0 rfl rfl ?_
   rw[hm]at hs
   rw[hf]at hs
   exact⟨rfl,eY.2 ⟨s',hs.drop⟩⟩
  apply e8I
  unfold d8w
  simp only[au,ay,Nat.zero_add]
  refine⟨?_,?_⟩
  ·refine Sep.aB hs 1 rfl rfl ?_;refine Sep.aB hs 0 rfl rfl ?_;refine Sep.aB hs 0 rfl rfl ?_;refine Sep.aB hs 0 rfl rfl ?_
   rw[ae]
   refine (Aa hs _ _ _).mono ?_
   rintro v h ⟨rfl,hs⟩
   simp only[az]
   exact fin h hs
  ·refine Sep.aB hs 0 rfl rfl ?_;refine Sep.aB hs 0 rfl rfl ?_;refine Sep.aB hs 0 rfl rfl ?_
   refine⟨?_,?_⟩
   ·refine Sep.aB hs 1 rfl rfl ?_
    rw[ae]
    refine (Aa hs _ _ _).mono ?_
    rintro v h ⟨rfl,hs⟩
    simp only[az]
    exact fin h hs
   ·rw[ae]
    refine (Aa hs _ _ _).mono ?_
    rintro v h ⟨rfl,hs⟩
    simp only[az]
    refine Sep.aB hs 1 rfl rfl ?_
    exact fin h hs
 have app:∀(h:Hp) (nb:Nat),Sep h0 h (aBlk nb (⟨who,du l,z⟩:Fr).enc::aBlk f (⟨who,du l,z⟩:Fr).enc::aBlk b [.slice s.p s.n s.c,.int .i64 pk]::aRow Fr.enc 3 s (um 0 l)::R)→
   (bU 204 3 24 #[.int .i64 (0:Int),.int .i64 (0:Int),.int .i64 (0:Int)] s ⟨(some ⟨nb,0,none⟩),1,1⟩ fun (nq:Sl)=>an ⟨b,0,none⟩ (.slice nq.p nq.n nq.c) <| Kzp (some ⟨b,0,none⟩) ⟨f,0,none⟩) h (fun v h'=>v= .tuple #[.int .i64 (du l),.int .i64 0]∧Sep h0 h' (jH b (l++[(who,z)]) (max pk (du l+z))::R)):=by
  intro h nb hs
  refine hs.lE 3 0 ⟨who,du l,z⟩ rfl rfl (fun _=>rfl) (by simp[Fr.enc,Value.oneCell']) rfl (by omega) (by rw[iA];omega) fun s' h hn hs=>?_
  simp only[sz0,sz1]at hs
  (refine Sep.st hs 2 rfl rfl rfl fun h hs=>?_;simp only[sz0,sz1]at hs)
  exact k9 h s' hs.drop
 refine⟨?_,?_⟩
 ·refine Sep.bu hs 1 rfl rfl ?_;refine Sep.aB hs 0 rfl rfl ?_;refine Sep.aB hs 0 rfl rfl ?_;refine Sep.aB hs 0 rfl rfl ?_;(refine Sep.new hs fun nb h hs=>?_;try simp only[sz2]at hs)
  exact app h nb hs
 ·refine Sep.aB hs 0 rfl rfl ?_;refine Sep.aB hs 0 rfl rfl ?_;refine Sep.aB hs 0 rfl rfl ?_
  refine⟨?_,?_⟩
  ·refine Sep.bu hs 1 rfl rfl ?_;(refine Sep.new hs fun nb h hs=>?_;try simp only[sz2]at hs)
   exact app h nb hs
  ·(refine Sep.new hs fun nb h hs=>?_;try simp only[sz2]at hs);refine Sep.bu hs 2 rfl rfl ?_
   exact app h nb hs
end
end Go.Proofs.YtnpinhahjgbigaaGreatDoor.LFrame
end
section
namespace Go.Proofs.YtnpinhahjgbigaaGreatDoor.LCache
open Go Go.Sb
abbrev dv:Int→List Value:=fun z=>[.int .i64 z]
def cq (b w:Nat)(rows:List (List Int)):As:=aEx fun s:Sl=>aStar (aBlk b [.int .i64 w,.slice s.p s.n s.c]) (aGrid dv 1 s rows)
def acc (w:Nat)(row:List Int)(x:Int):List Int:=if x∈row then x::row.erase x else if row.length<w then x::row else x::row.dropLast
structure ROk (w:Nat) (row:List Int):Prop where
 n:row.length≤w
 nd:row.Nodup
theorem c6S {w:Nat}{row:List Int}(h:ROk w row)(hw:1≤w)(x:Int):ROk w (acc w row x):=by
 unfold acc
 have hn:=h.n
 by_cases hx:x∈row
 ·rw[if_pos hx]
  refine⟨?_,?_⟩
  ·have:=List.length_pos_of_mem hx
   rw[List.length_cons,List.length_erase_of_mem hx];omega
  ·refine List.nodup_cons.2 ⟨fun hm=>?_,h.nd.erase x⟩
   exact (h.nd.mem_erase_iff.1 hm).1 rfl
 ·rw[if_neg hx]
  by_cases hl:row.length<w
  ·rw[if_pos hl]
   exact⟨by rw[List.length_cons];omega,List.nodup_cons.2 ⟨hx,h.nd⟩⟩
  ·rw[if_neg hl]
   refine⟨by simp;omega,List.nodup_cons.2 ⟨fun hm=>hx (List.dropLast_subset _ hm),h.nd.sublist (List.dropLast_sublist _)⟩⟩
def idx (x:Int)(row:List Int):Int:=if x∈row then (row.idxOf x:Int) else -1
section
variable {h0 h:Hp}{R L:List As}{b w:Nat}{rows:List (List Int)}
theorem cu:Sep h0 h (cq b w rows::R)↔∃s:Sl,Sep h0 h (aBlk b [.int .i64 w,.slice s.p s.n s.c]::aGrid dv 1 s rows::R):=by
 unfold cq;rw[Sep.ex];simp only[Sep.star]
theorem qX (hs:Sep h0 h R){n w:Nat}(hn:1≤n∧n≤16)(hw:1≤w∧w≤4):YP (n:Int) (w:Int) h (fun v h'=>∃b,v= .pointer (some ⟨b,0,none⟩)∧Sep h0 h' (cq b w (List.replicate n [])::R)):=by
 apply e8T
 unfold d8H
 refine aA (by simp;omega) ?_
 refine hs.make tT 1 ⟨none,0,0⟩ rfl (by omega) (by omega) (by omega) fun s h hsn hs=>?_
 ((refine Sep.new hs fun nb h hs=>?_;try simp only[sz2]at hs))
 exact⟨nb,rfl,cu.2 ⟨s,(hs.swap.e6g dv 1).swap⟩⟩
theorem e0g (hs:Sep h0 h (cq b w rows::R))(hr:1≤rows.length){x:Int}(hx:0≤x∧x≤255):a9Q (some ⟨b,0,none⟩) x h (fun v h'=>v= .int .i64 (x%rows.length)∧h'=h):=by
 obtain⟨s,hs⟩:=cu.1 hs
 have hn:=hs.swap.Uv
 apply e8Y
 unfold d8M
 refine aA (by simp;omega) ?_
 (simp only[au,ay,Nat.zero_add];refine Sep.bu hs 0 rfl rfl ?_)
 refine⟨by omega,?_⟩
 exact⟨by rw[Int.tmod_eq_emod_of_nonneg hx.1,hn],rfl⟩
theorem b0u (hs:Sep h0 h L)(k:Nat){s:Sl}{row:List Int}(hk:L[k]? =some (aRow dv 1 s row))(hrow:row.length≤4)(x:Int):a7X s x h (fun v h'=>v= .int .i64 (idx x row)∧h'=h):=by
 have hn:=hs.bn k hk
 apply Szf
 unfold Bzf
 have loop:∀(d i:Nat),i+d=row.length→x∉row.take i→Kzy s x (s.n:Int) (i:Int) h (fun v h'=>v= .int .i64 (idx x row)∧h'=h):=by
  intro d
  induction d with
  |zero=>
   intro i hi hx
   apply Sz0
   unfold Bz0
   (rw[decide_eq_false (by omega),aj])
   rw[List.take_of_length_le (by omega)]at hx
   exact⟨by unfold idx;rw[if_neg hx],rfl⟩
  |succ d ih=>
   intro i hi hx
   apply Sz0
   unfold Bz0
   rw[decide_eq_true (by omega),aq]
   refine hs.idx k hk (by omega) (by omega) fun a ha=>?_
   refine hs.ild k hk ha (by omega) ?_
   simp only[Int.toNat_natCast]
   have hsp:row=row.take i++(row[i]::row.drop (i+1)):=by rw[←List.drop_eq_getElem_cons (by omega),List.take_append_drop]
   refine aE (fun hc=>?_) (fun hc=>?_)
   ·have hc:x=row[i]:=by simpa using hc
    refine⟨?_,rfl⟩
    unfold idx
    have hm:x∈row:=by rw[hc];exact List.getElem_mem _
    rw[if_pos hm]
    have:row.idxOf x=i:=by
     rw[hsp,List.idxOf_append,if_neg hx,←hc,List.idxOf_cons_self,List.length_take]
     omega
    rw[this]
   ·have hc:¬x=row[i]:=by simpa using hc
    rw[wrap64 _ (by omega),show (i:Int)+1=((i+1:Nat):Int) by omega]
    refine ih (i+1) (by omega) ?_
    intro hm
    rw[List.take_succ_eq_append_getElem (by omega),List.mem_append]at hm
    rcases hm with hm|hm
    ·exact hx hm
    ·exact hc (List.mem_singleton.1 hm)
 exact loop row.length 0 (by omega) (by simp)
structure Cs (w:Nat) (rows:List (List Int)):Prop where
 n:1≤rows.length∧rows.length≤16
 ways:1≤w∧w≤4
 ok:∀row∈rows,ROk w row
theorem e0h (hs:Sep h0 h (cq b w rows::R))(hc:Cs w rows){x:Int}(hx:0≤x∧x≤255){i:Nat}(hi:i<rows.length)(Jh:x%rows.length=i):c5I (some ⟨b,0,none⟩) x h (fun v h'=>v= .int .i64 (idx x rows[i])∧Sep h0 h' (cq b w rows::R)):=by
 apply e8Z
 unfold d8N
 rw[ae]
 refine (e0g hs hc.n.1 hx).mono ?_
 rintro v h' ⟨rfl,rfl⟩
 rw[Jh,az]
 refine aA (by simp) ?_
 obtain⟨s,hs⟩:=cu.1 hs
 (simp only[au,ay,Nat.zero_add];refine Sep.bu hs 0 rfl rfl ?_)
 obtain⟨ss,hl,hs⟩:=hs.swap.Ji i hi
 (refine Sep.idx hs 1 rfl (by first|omega|(simp only[List.length_set,List.length_map,List.length_replicate,List.length_append,List.length_cons,List.length_nil,List.length_reverse,List.length_range];omega)|(simp;omega)) (by first|omega|(simp only[List.length_set,List.length_map,List.length_replicate,List.length_append,List.length_cons,List.length_nil,List.length_reverse,List.length_range];omega)|(simp;omega)) fun aa sV=>?_;try simp only[Int.toNat_natCast]at sV)
 refine hs.Un 1 rfl (fun _=>rfl) sV (List.getElem?_eq_getElem (by omega)) rfl ?_
 rw[ae]
 refine (b0u hs 0 rfl (Nat.le_trans (hc.ok _ (List.getElem_mem _)).n hc.ways.2) x).mono ?_
 rintro v h' ⟨rfl,rfl⟩
 rw[az]
 have hs:=Sep.b5z hl hi hs
 rw[List.set_getElem_self]at hs
 exact⟨rfl,cu.2 ⟨s,hs.swap⟩⟩
theorem a1X (hs:Sep h0 h (cq b w rows::R))(hc:Cs w rows){x:Int}(hx:0≤x∧x≤255){i:Nat}(hi:i<rows.length)(Jh:x%rows.length=i):
  Nzq (some ⟨b,0,none⟩) x h (fun v h'=>v= .tuple #[.bool (decide (x∈rows[i])),.int .i64 0]∧Sep h0 h' (cq b w (rows.set i (acc w rows[i] x))::R)):=by
 apply e8U
 unfold d8I
 (simp only[Option.isNone_some,au,ay,Nat.zero_add,aj,ae])
 refine (e0g hs hc.n.1 hx).mono ?_
 rintro v h' ⟨rfl,rfl⟩
 rw[Jh,az]
 refine aA (by simp) ?_
 rw[ae]
 refine (e0h hs hc hx hi Jh).mono ?_
 rintro v h' ⟨rfl,hs⟩
 rw[az]
 obtain⟨s,hs⟩:=cu.1 hs
 have hr:=hc.ok _ (List.getElem_mem hi)
 have hw:=hc.ways
 have hrn:=hr.n
 (refine Sep.bu hs 0 rfl rfl ?_)
 obtain⟨ss,hl,hs⟩:=hs.swap.Ji i hi
 have hsn:=hs.bn 1 rfl
 have TA:=hs.bn 0 rfl
 (refine Sep.idx hs 1 rfl (by first|omega|(simp only[List.length_set,List.length_map,List.length_replicate,List.length_append,List.length_cons,List.length_nil,List.length_reverse,List.length_range];omega)|(simp;omega)) (by first|omega|(simp only[List.length_set,List.length_map,List.length_replicate,List.length_append,List.length_cons,List.length_nil,List.length_reverse,List.length_range];omega)|(simp;omega)) fun aa sV=>?_;try simp only[Int.toNat_natCast]at sV)
 refine hs.Un 1 rfl (fun _=>rfl) sV (List.getElem?_eq_getElem (by omega)) rfl ?_
 generalize hxs:rows[i]=xs at*
 have k13:∀(h:Hp) (row:Sl) (ys:List Int) (at_:Nat) (hit:Bool),at_<ys.length→ys.length≤4→acc w xs x=x::(ys.take at_++ys.drop (at_+1))→
   Sep h0 h (aRow dv 1 row ys::aRow tT 1 s ss::db ((List.zipWith (aRow dv 1) ss rows).eraseIdx i)::aBlk b [.int .i64 w,.slice s.p s.n s.c]::R)→
   Ze (some ⟨b,0,none⟩) x (i:Int) (at_:Int) row hit h (fun v h'=>v= .tuple #[.bool hit,.int .i64 0]∧Sep h0 h' (cq b w (rows.set i (acc w xs x))::R)):=by
  intro h row ys at_ hit fG hy4 f0q hs
  have hrow:=hs.bn 0 rfl
  have hcap:=hs.Um 0 rfl
  apply e8V
  unfold d8J
  rw[wrap64 _ (by omega)]
  refine b7w (by omega) (by omega) (by omega) (by omega) fun d hv1 hn1 _=>?_
  refine b7w (by omega) (by omega) (by omega) (by omega) fun e hv2 hn2 _=>?_
  have f0r:min e.n d.n=at_:=by omega
  have hlt:(ys.take at_).length=at_:=by rw[List.length_take];omega
  refine hs.d3l 0 (ys.take at_) rfl (fun _=>rfl) hv1 ?_ (by omega) ?_ (by simp only[hlt];omega) fun h hs=>?_
  ·rw[f0r]
   have:=hs.Ut 0 (m:=at_) rfl (fun _=>rfl) hv2 (by omega) (by simp;omega)
   simpa using this
  ·intro v hv
   obtain⟨z,_,hz⟩:=List.mem_flatMap.1 hv
   simp only[List.mem_singleton]at hz
   subst hz;rfl
  simp only[sz0,sz1,hlt]at hs
  have hl1:(ys.take (Int.toNat 1)++(ys.take at_++ys.drop (Int.toNat 1+at_))).length=ys.length:=by simp;omega
  refine hs.idx 0 rfl (by omega) (by rw[hl1];omega) fun a0 ha0=>?_
  refine hs.ist 0 rfl ha0 (by rw[hl1];show 0<_;omega) fun h hs=>?_
  simp only[sz0,sz1]at hs
  have e1:(ys.take (Int.toNat 1)++(ys.take at_++ys.drop (Int.toNat 1+at_))).set (Int.toNat 0) x=acc w xs x:=by
   rw[f0q]
   cases ys with
   |nil=>simp at fG
   |cons y ys=>simp[Nat.add_comm 1 at_]
  rw[e1]at hs
  simp only[au,ay,Nat.zero_add]
  (refine Sep.bu hs 3 rfl rfl ?_;(refine Sep.idx hs 1 rfl (by first|omega|(simp only[List.length_set,List.length_map,List.length_replicate,List.length_append,List.length_cons,List.length_nil,List.length_reverse,List.length_range];omega)|(simp;omega)) (by first|omega|(simp only[List.length_set,List.length_map,List.length_replicate,List.length_append,List.length_cons,List.length_nil,List.length_reverse,List.length_range];omega)|(simp;omega)) fun f3t b6p=>?_;try simp only[Int.toNat_natCast]at b6p);(refine Sep.sst hs 1 rfl b6p (by first|omega|(simp only[List.length_set,List.length_map,List.length_replicate,List.length_append,List.length_cons,List.length_nil,List.length_reverse,List.length_range];omega)|(simp;omega)) fun h hs=>?_;simp only[sz0,sz1]at hs))
  have hs:=Sep.FT hs hl hi
  exact⟨rfl,cu.2 ⟨s,hs.swap⟩⟩
 have e0i:(idx x xs != (-1:Int))=decide (x∈xs):=by
  unfold idx
  by_cases hm:x∈xs
  ·rw[if_pos hm,decide_eq_true hm];simp
  ·rw[if_neg hm,decide_eq_false hm];rfl
 rw[e0i]
 by_cases hm:x∈xs
 ·rw[decide_eq_true hm]
  (simp only[Bool.not_true,aj])
  have hix:idx x xs=(xs.idxOf x:Nat):=by unfold idx;rw[if_pos hm]
  rw[hix]
  have hlt:=List.idxOf_lt_length_of_mem hm
  refine k13 _ _ xs (xs.idxOf x) true hlt (by omega) ?_ hs
  unfold acc
  rw[if_pos hm]
  congr 1
  rw[List.erase_eq_eraseIdx_of_idxOf (i:=xs.idxOf x) rfl,List.eraseIdx_eq_take_drop_succ]
 ·rw[decide_eq_false hm]
  (simp only[Bool.not_false,aq];refine Sep.aB hs 3 rfl rfl ?_)
  refine jS (fun hlt=>?_) (fun hlt=>?_)
  ·(refine Sep.new hs fun nb h hs=>?_;try simp only[sz2]at hs)
   refine hs.lE 1 0 x rfl rfl (fun _=>rfl) (by simp[Value.oneCell']) rfl (by omega) (by omega) fun s' h hn' hs=>?_
   simp only[sz0,sz1]at hs
   rw[wrap64 _ (by omega),show ((s'.n:Int)-1)=(xs.length:Nat) by omega]
   refine k13 _ s' (xs++[x]) xs.length false (by simp) (by simp;omega) ?_ hs.drop
   unfold acc
   rw[if_neg hm,if_pos (by omega)]
   simp
  ·rw[wrap64 _ (by omega),show (((ss[i]'(by omega)).n:Int)-1)=((xs.length-1:Nat):Int) by omega]
   refine k13 _ _ xs (xs.length-1) false (by omega) (by omega) ?_ hs
   unfold acc
   rw[if_neg hm,if_neg (by omega),show xs.length-1+1=xs.length by omega,List.drop_length,List.append_nil,List.dropLast_eq_take]
end
end Go.Proofs.YtnpinhahjgbigaaGreatDoor.LCache
end
section
namespace Go.Proofs.YtnpinhahjgbigaaGreatDoor.LJob
open Go Go.Sb
structure jr where
 priority:Int
 threshold:Int
 period:Int
 deadline:Int
 frame:Int
 float:Int
 program:Sl
structure Jb where
 t:jr
 at_:Int
 rest:Int
 regions:Int
 aU:Int
 left:Int
 dL:Bool
 fault:Bool
 over:Bool
def Jb.enc (j:Jb):List Value:=[.int .i64 j.t.priority,.int .i64 j.t.threshold,.int .i64 j.t.period,.int .i64 j.t.deadline,.int .i64 j.t.frame,.int .i64 j.t.float,.slice j.t.program.p j.t.program.n j.t.program.c,
 .int .i64 j.at_,.int .i64 j.rest,.int .i64 j.regions,.int .i64 j.aU,.int .i64 j.left,.bool j.dL,.bool j.fault,.bool j.over]
def c6T (t:jr):Jb:=⟨t,0,0,0,0,if (0:Int)>t.float then 0 else t.float,false,false,(t.program.n:Int) == 0⟩
section
variable {h0 h:Hp}{R:List As}{b:Nat}{j:Jb}
theorem qX (hs:Sep h0 h R)(t:jr):Nzs t.priority t.threshold t.period t.deadline t.frame t.float t.program h (fun v h'=>∃b,v= .pointer (some ⟨b,0,none⟩)∧Sep h0 h' (aBlk b (c6T t).enc::R)):=by
 apply e9f
 unfold d8O
 ((refine Sep.new hs fun nb h hs=>?_;try simp only[sz2]at hs);refine Sep.aB hs 0 rfl rfl ?_;refine Sep.aB hs 0 rfl rfl ?_;refine Sep.aB hs 0 rfl rfl ?_;refine Sep.aB hs 0 rfl rfl ?_;refine Sep.aB hs 0 rfl rfl ?_;refine Sep.aB hs 0 rfl rfl ?_;refine Sep.bu hs 0 rfl rfl ?_;refine Sep.aB hs 0 rfl rfl ?_;refine Sep.bu hs 0 rfl rfl ?_;(refine Sep.new hs fun qQ h hs=>?_;try simp only[sz2]at hs))
 exact⟨qQ,rfl,hs.swap.drop⟩
theorem GA (hs:Sep h0 h (aBlk b j.enc::R)):YR (some ⟨b,0,none⟩) h (fun v h'=>v= .bool j.over∧h'=h):=by
 apply e9s
 unfold d8Z
 (simp only[Option.isNone_some,au,ay,Nat.zero_add,aj,ae];refine Sep.Tz hs 0 rfl rfl ?_;rw[ak])
 exact⟨rfl,rfl⟩
theorem a1Y (hs:Sep h0 h (aBlk b j.enc::R)):a9T (some ⟨b,0,none⟩) h (fun v h'=>v= .int .i64 j.rest∧h'=h):=by
 apply e9r
 unfold d8Y
 (simp only[Option.isNone_some,au,ay,Nat.zero_add,aj];refine Sep.aB hs 0 rfl rfl ?_)
 exact⟨rfl,rfl⟩
theorem b0v (hs:Sep h0 h (aBlk b j.enc::R)):Nzt (some ⟨b,0,none⟩) h (fun v h'=>v= .bool j.fault∧h'=h):=by
 apply e9t
 unfold d9a
 (simp only[Option.isNone_some,Bool.not_false,au,ay,Nat.zero_add,aq,ae];refine Sep.Tz hs 0 rfl rfl ?_;rw[ak])
 exact⟨rfl,rfl⟩
theorem c6U (hs:Sep h0 h (aBlk b j.enc::R)):c5K (some ⟨b,0,none⟩) h (fun v h'=>v= .bool (decide (j.regions>0))∧h'=h):=by
 apply e9o
 unfold d8V
 (simp only[Option.isNone_some,Bool.not_false,au,ay,Nat.zero_add,aq,ae];refine Sep.aB hs 0 rfl rfl ?_;rw[ak])
 exact⟨rfl,rfl⟩
theorem c6V (hs:Sep h0 h (aBlk b j.enc::R)):c5L (some ⟨b,0,none⟩) h (fun v h'=>v= .tuple #[.int .i64 j.left,.bool j.dL]∧h'=h):=by
 apply e9q
 unfold d8X
 (simp only[Option.isNone_some,au,ay,Nat.zero_add,aj];refine Sep.aB hs 0 rfl rfl ?_;refine Sep.Tz hs 0 rfl rfl ?_)
 exact⟨rfl,rfl⟩
def Kb (j:Jb):Bool×Jb:=if j.over||(j.left == 0) then (false,j) else (true,{ j with dL:=true})
theorem GB (hs:Sep h0 h (aBlk b j.enc::R)):a9S (some ⟨b,0,none⟩) h (fun v h'=>v= .bool (Kb j).1∧Sep h0 h' (aBlk b (Kb j).2.enc::R)):=by
 apply e9p
 unfold d8W
 (simp only[au,ay,Nat.zero_add,ae])
 refine (GA hs).mono ?_
 rintro v h' ⟨rfl,rfl⟩
 unfold Kb
 obtain⟨t,at_,rest,regions,aU,left,dL,fault,over⟩:=j
 dsimp only
 cases over with
 |true=>
  (simp only[Bool.true_or,av,aq,ae];rw[ak];simp only[aq])
  exact⟨rfl,hs⟩
 |false=>
  (simp only[Bool.false_or,av,aj,ae];refine Sep.aB hs 0 rfl rfl ?_;rw[ak];simp only)
  refine aE (fun hc=>?_) (fun hc=>?_)
  ·rw[hc]
   exact⟨rfl,hs⟩
  ·rw[hc]
   ((refine Sep.st hs 0 rfl rfl rfl fun h hs=>?_;simp only[sz0,sz1]at hs))
   simp only[Bool.false_eq_true,if_false]
   exact⟨rfl,hs⟩
def tc (j:Jb)(n:Int):Int:=if j.rest<(if (0:Int)>n then 0 else n) then j.rest else (if (0:Int)>n then 0 else n)
def wq (j:Jb)(m:Int):Jb:={ j with rest:=IntKind.i64.wrap (j.rest-m),left:=if j.dL then (if (0:Int)>IntKind.i64.wrap (j.left-m) then 0 else IntKind.i64.wrap (j.left-m)) else j.left}
def Kc (j:Jb):Jb:=if j.rest == 0 then { j with at_:=IntKind.i64.wrap (j.at_+1),over:=j.fault||(IntKind.i64.wrap (j.at_+1) == (j.t.program.n:Int))} else j
def Ej (j:Jb)(n:Int):Jb:=if tc j n == 0 then j else Kc (wq j (tc j n))
theorem c6W (hs:Sep h0 h (aBlk b j.enc::R))(n:Int):a9R (some ⟨b,0,none⟩) n h (fun v h'=>v= .int .i64 (tc j n)∧Sep h0 h' (aBlk b (Ej j n).enc::R)):=by
 apply e9m
 unfold d8T
 rw[ae]
 refine (a1Y hs).mono ?_
 rintro v h' ⟨rfl,rfl⟩
 rw[az]
 unfold Ej
 have hm:tc j n=(if j.rest<(if (0:Int)>n then 0 else n) then j.rest else (if (0:Int)>n then 0 else n)):=rfl
 rw[←hm]
 have k7:∀(h:Hp) (j':Jb) (m:Int),Sep h0 h (aBlk b j'.enc::R)→a9Z (some ⟨b,0,none⟩) m h (fun v h'=>v= .int .i64 m∧Sep h0 h' (aBlk b (Kc j').enc::R)):=by
  intro h j' m hs
  obtain⟨t,at_,rest,regions,aU,left,dL,fault,over⟩:=j'
  apply e9n
  unfold d8U Kc
  (simp only[au,ay,Nat.zero_add];refine Sep.aB hs 0 rfl rfl ?_;simp only)
  refine aE (fun hc=>?_) (fun hc=>?_)
  ·rw[hc]
   simp only[if_true]
   (refine Sep.aB hs 0 rfl rfl ?_;(refine Sep.st hs 0 rfl rfl rfl fun h hs=>?_;simp only[sz0,sz1]at hs);refine Sep.Tz hs 0 rfl rfl ?_;simp only[ae])
   cases fault with
   |true=>
    (simp only[Bool.true_or,aq];rw[ak];(refine Sep.st hs 0 rfl rfl rfl fun h hs=>?_;simp only[sz0,sz1]at hs))
    exact⟨rfl,hs⟩
   |false=>
    (simp only[Bool.false_or,aj];refine Sep.aB hs 0 rfl rfl ?_;refine Sep.bu hs 0 rfl rfl ?_;rw[ak];(refine Sep.st hs 0 rfl rfl rfl fun h hs=>?_;simp only[sz0,sz1]at hs))
    exact⟨rfl,hs⟩
  ·rw[hc]
   simp only[Bool.false_eq_true,if_false]
   exact⟨rfl,hs⟩
 generalize tc j n=m
 obtain⟨t,at_,rest,regions,aU,left,dL,fault,over⟩:=j
 refine aE (fun hc=>?_) (fun hc=>?_)
 ·rw[hc,if_pos rfl]
  have:m=0:=by simpa using hc
  exact⟨by rw[this],hs⟩
 ·rw[hc]
  simp only[Bool.false_eq_true,if_false]
  (simp only[au,ay,Nat.zero_add];refine Sep.aB hs 0 rfl rfl ?_;(refine Sep.st hs 0 rfl rfl rfl fun h hs=>?_;simp only[sz0,sz1]at hs);refine Sep.Tz hs 0 rfl rfl ?_;simp only)
  cases dL with
  |true=>
   (simp only[aq];refine Sep.aB hs 0 rfl rfl ?_;(refine Sep.st hs 0 rfl rfl rfl fun h hs=>?_;simp only[sz0,sz1]at hs))
   refine k7 h (wq ⟨t,at_,rest,regions,aU,left,true,fault,over⟩ m) m ?_
   unfold wq
   simp only[if_true]
   exact hs
  |false=>
   (simp only[aj])
   refine k7 h (wq ⟨t,at_,rest,regions,aU,left,false,fault,over⟩ m) m ?_
   unfold wq
   simp only[Bool.false_eq_true,if_false]
   exact hs
def Ry (ops:List dG)(j:Jb):dG:=if j.over||decide (j.rest>0) then ⟨0,0,0⟩ else ops.getD j.at_.toNat ⟨0,0,0⟩
def Ek (j:Jb):Bool:= !(j.over||decide (j.rest>0))
theorem e0j {ops:List dG}(hs:Sep h0 h (aBlk b j.enc::R))(hp:fK h0.size h0 dM 3 j.t.program ops)(fG:j.over=false→0≤j.at_∧j.at_<ops.length):
  YQ (some ⟨b,0,none⟩) h (fun v h'=>v= .tuple #[.agg #[.int .i64 (Ry ops j).k,.int .i64 (Ry ops j).a,.int .i64 (Ry ops j).b],.bool (Ek j)]∧Sep h0 h' (aBlk b j.enc::R)):=by
 have hpn:=hp.n
 apply e9j
 unfold d8P
 ((refine Sep.new hs fun nb h hs=>?_;try simp only[sz2]at hs);simp only[au,ay,Nat.zero_add,ae])
 refine (GA hs.swap).mono ?_
 rintro v h' ⟨rfl,rfl⟩
 unfold Ry Ek
 cases ho:j.over with
 |true=>
  (simp only[Bool.true_or,Bool.not_true,av,aq,ae];rw[ak];simp only[aq];(refine Sep.st hs 0 rfl rfl rfl fun h hs=>?_;simp only[sz0,sz1]at hs);(refine Sep.st hs 0 rfl rfl rfl fun h hs=>?_;simp only[sz0,sz1]at hs);(refine Sep.st hs 0 rfl rfl rfl fun h hs=>?_;simp only[sz0,sz1]at hs);refine Sep.aB hs 0 rfl rfl ?_;refine Sep.aB hs 0 rfl rfl ?_;refine Sep.aB hs 0 rfl rfl ?_)
  exact⟨rfl,hs.drop⟩
 |false=>
  (simp only[Bool.false_or,av,aj,ae];refine Sep.aB hs 1 rfl rfl ?_;rw[ak])
  refine jS (fun hc=>?_) (fun hc=>?_)
  ·rw[decide_eq_true hc]
   ((refine Sep.st hs 0 rfl rfl rfl fun h hs=>?_;simp only[sz0,sz1]at hs);(refine Sep.st hs 0 rfl rfl rfl fun h hs=>?_;simp only[sz0,sz1]at hs);(refine Sep.st hs 0 rfl rfl rfl fun h hs=>?_;simp only[sz0,sz1]at hs);refine Sep.aB hs 0 rfl rfl ?_;refine Sep.aB hs 0 rfl rfl ?_;refine Sep.aB hs 0 rfl rfl ?_)
   exact⟨rfl,hs.drop⟩
  ·rw[decide_eq_false hc]
   obtain⟨k,hk⟩:∃k:Nat,j.at_=k:=⟨j.at_.toNat,by have:=fG ho;omega⟩
   have eW:k<ops.length:=by have:=fG ho;omega
   have e:ops.getD j.at_.toNat ⟨0,0,0⟩=ops[k]:=by
    rw[hk,Int.toNat_natCast,List.getD_eq_getElem?_getD,List.getElem?_eq_getElem eW];rfl
   rw[e]
   (refine Sep.bu hs 1 rfl rfl ?_;refine Sep.aB hs 1 rfl rfl ?_;simp only[Bool.not_false])
   rw[hk]
   (refine Sep.Ur hs hp (by first|omega|(simp only[List.length_set,List.length_map,List.length_replicate,List.length_append,List.length_cons,List.length_nil,List.length_reverse,List.length_range];omega)|(simp;omega)) fun aa sV=>?_;refine Arg.mG sV rfl ?_;refine Arg.aB sV rfl ?_;refine Arg.aB sV rfl ?_;(refine Sep.st hs 0 rfl rfl rfl fun h hs=>?_;simp only[sz0,sz1]at hs);(refine Sep.st hs 0 rfl rfl rfl fun h hs=>?_;simp only[sz0,sz1]at hs);(refine Sep.st hs 0 rfl rfl rfl fun h hs=>?_;simp only[sz0,sz1]at hs);refine Sep.aB hs 0 rfl rfl ?_;refine Sep.aB hs 0 rfl rfl ?_;refine Sep.aB hs 0 rfl rfl ?_)
   exact⟨rfl,hs.drop⟩
def GC (j:Jb)(cost:Int):Jb:={ j with rest:=if (1:Int)>cost then 1 else cost}
def Ab (j:Jb)(n:Int):Int×Jb:=if IntKind.i64.wrap (j.aU+n)>j.t.frame then (11,{ j with fault:=true,rest:=1}) else (0,{ j with aU:=IntKind.i64.wrap (j.aU+n)})
theorem c6X (hs:Sep h0 h (aBlk b j.enc::R))(n:Int):c5J (some ⟨b,0,none⟩) n h (fun v h'=>v= .int .i64 (Ab j n).1∧Sep h0 h' (aBlk b (Ab j n).2.enc::R)):=by
 apply e9l
 unfold d8S Ab
 (simp only[au,ay,Nat.zero_add];refine Sep.aB hs 0 rfl rfl ?_;refine Sep.aB hs 0 rfl rfl ?_)
 refine jS (fun hc=>?_) (fun hc=>?_)
 ·rw[if_pos hc]
  ((refine Sep.st hs 0 rfl rfl rfl fun h hs=>?_;simp only[sz0,sz1]at hs);(refine Sep.st hs 0 rfl rfl rfl fun h hs=>?_;simp only[sz0,sz1]at hs))
  exact⟨rfl,hs⟩
 ·rw[if_neg hc]
  (refine Sep.aB hs 0 rfl rfl ?_;(refine Sep.st hs 0 rfl rfl rfl fun h hs=>?_;simp only[sz0,sz1]at hs))
  exact⟨rfl,hs⟩
def doJ (j:Jb)(o:dG):Int×Jb:=if o.k == 3 then (0,{ j with regions:=IntKind.i64.wrap (j.regions+1)}) else
 if o.k == 4 then (0,{ j with regions:=if (0:Int)>IntKind.i64.wrap (j.regions-1) then 0 else IntKind.i64.wrap (j.regions-1)}) else
 if o.k == 7 then Ab j o.a else
 if o.k == 8 then (0,{ j with aU:=if (0:Int)>IntKind.i64.wrap (j.aU-o.a) then 0 else IntKind.i64.wrap (j.aU-o.a)}) else (0,j)
def pL (ops:List dG)(j:Jb)(cost:Int):Int×Jb:=if Ek j then doJ (GC j cost) (Ry ops j) else (1,j)
theorem b0w {ops:List dG}(hs:Sep h0 h (aBlk b j.enc::R))(hp:fK h0.size h0 dM 3 j.t.program ops)(fG:j.over=false→0≤j.at_∧j.at_<ops.length)(cost:Int):
  TI (some ⟨b,0,none⟩) cost h (fun v h'=>v= .int .i64 (pL ops j cost).1∧Sep h0 h' (aBlk b (pL ops j cost).2.enc::R)):=by
 apply e9k
 unfold d8R
 rw[ae]
 refine (e0j hs hp fG).mono ?_
 rintro v h ⟨rfl,hs⟩
 unfold pL
 generalize Ry ops j=o
 (simp only[au,ay,Nat.zero_add,cC,bW,cH,av,cG,az];(refine Sep.new hs fun nb h hs=>?_;try simp only[sz2]at hs);(refine Sep.st hs 0 rfl rfl rfl fun h hs=>?_;simp only[sz0,sz1]at hs);(refine Sep.st hs 0 rfl rfl rfl fun h hs=>?_;simp only[sz0,sz1]at hs);(refine Sep.st hs 0 rfl rfl rfl fun h hs=>?_;simp only[sz0,sz1]at hs);simp only[ay,Nat.zero_add])
 have hs:=hs.swap
 cases hok:Ek j with
 |false=>
  (simp only[Bool.not_false,aq])
  exact⟨rfl,hs.swap.drop⟩
 |true=>
  simp only[if_true]
  unfold doJ
  (simp only[Bool.not_true,aj];(refine Sep.st hs 0 rfl rfl rfl fun h hs=>?_;simp only[sz0,sz1]at hs);refine Sep.aB hs 1 rfl rfl ?_)
  refine aE (fun hc=>?_) (fun hc=>?_)
  ·rw[hc]
   simp only[if_true]
   (refine Sep.aB hs 0 rfl rfl ?_;(refine Sep.st hs 0 rfl rfl rfl fun h hs=>?_;simp only[sz0,sz1]at hs))
   exact⟨rfl,hs.swap.drop⟩
  rw[hc]
  simp only[Bool.false_eq_true,if_false]
  refine aE (fun hc=>?_) (fun hc=>?_)
  ·rw[hc]
   simp only[if_true]
   (refine Sep.aB hs 0 rfl rfl ?_;(refine Sep.st hs 0 rfl rfl rfl fun h hs=>?_;simp only[sz0,sz1]at hs))
   exact⟨rfl,hs.swap.drop⟩
  rw[hc]
  simp only[Bool.false_eq_true,if_false]
  refine aE (fun hc=>?_) (fun hc=>?_)
  ·rw[hc]
   simp only[if_true]
   (refine Sep.aB hs 1 rfl rfl ?_;simp only[ae])
   refine (c6X (j:=GC j cost) hs o.a).mono ?_
   rintro v h ⟨rfl,hs⟩
   exact⟨rfl,hs.swap.drop⟩
  rw[hc]
  simp only[Bool.false_eq_true,if_false]
  refine aE (fun hc=>?_) (fun hc=>?_)
  ·rw[hc]
   simp only[if_true]
   (refine Sep.aB hs 0 rfl rfl ?_;refine Sep.aB hs 1 rfl rfl ?_;(refine Sep.st hs 0 rfl rfl rfl fun h hs=>?_;simp only[sz0,sz1]at hs))
   exact⟨rfl,hs.swap.drop⟩
  rw[hc]
  exact⟨rfl,hs.swap.drop⟩
def yg (ops:List dG)(n:Int):Bool:=ops.all (fun o=> !(decide (o.a< -1073741824)||decide (o.a>1073741824)))&&(decide ((ops.length:Int)≤80)&&decide (n≤150))
end
end Go.Proofs.YtnpinhahjgbigaaGreatDoor.LJob
end
section
namespace Go.Proofs.YtnpinhahjgbigaaGreatDoor.LMbx
open Go Go.Sb
structure jF {X:Type} (cells:List X) (fr:Nat) (q:List X):Prop where
 len:q.length≤cells.length
 lo:0<cells.length→fr<cells.length
 z:cells.length=0→fr=0
 at_:∀k x,q[k]? =some x→cells[(fr+k)%cells.length]? =some x
theorem jF.nil {X:Type}(cells:List X):jF cells 0 []:=⟨by simp,id,fun _=>rfl,by simp⟩
theorem vO {N f j k:Nat}(hk:k<N)(hj:j<N)(hne:j≠k):(f+j)%N≠(f+k)%N:=by
 intro he
 have h1:=Nat.div_add_mod (f+j) N
 have h2:=Nat.div_add_mod (f+k) N
 rw[he]at h1
 rcases Nat.lt_trichotomy ((f+j) / N) ((f+k) / N) with h|h|h
 ·have:N*((f+j) / N+1)≤N*((f+k) / N):=Nat.mul_le_mul_left _ h
  rw[Nat.mul_add]at this;omega
 ·rw[h]at h1;omega
 ·have:N*((f+k) / N+1)≤N*((f+j) / N):=Nat.mul_le_mul_left _ h
  rw[Nat.mul_add]at this;omega
theorem jF.put {X:Type}{cells:List X}{fr:Nat}{q:List X}(hr:jF cells fr q)(hlt:q.length<cells.length)(x:X):jF (cells.set ((fr+q.length)%cells.length) x) fr (q++[x]):=by
 have hN:0<cells.length:=by omega
 refine⟨by simp;omega,by simpa using hr.lo,by simpa using hr.z,fun k y hk=>?_⟩
 rw[List.length_set]
 by_cases e:k=q.length
 ·subst e
  simp only[List.getElem?_concat_length,Option.some.injEq]at hk
  subst hk
  rw[List.getElem?_set_self (Nat.mod_lt _ hN)]
 ·have hk1:=(List.getElem?_eq_some_iff.1 hk).1
  simp only[List.length_append,List.length_cons,List.length_nil]at hk1
  rw[List.getElem?_append_left (by omega)]at hk
  rw[List.getElem?_set_ne (vO (by omega) (by omega) (by omega))]
  exact hr.at_ k y hk
theorem jF.take {X:Type}{cells:List X}{fr:Nat}{x:X}{q:List X}(hr:jF cells fr (x::q))(z:X):jF (cells.set fr z) ((fr+1)%cells.length) q:=by
 have hl:=hr.len
 simp only[List.length_cons]at hl
 have hN:0<cells.length:=by omega
 have hf:=hr.lo hN
 refine⟨by simp;omega,by rw[List.length_set];intro _;exact Nat.mod_lt _ hN,by rw[List.length_set];omega,fun k y hk=>?_⟩
 rw[List.length_set,Nat.mod_add_mod,Nat.add_assoc,Nat.add_comm 1 k]
 have h1:=hr.at_ (k+1) y (by simpa using hk)
 have hk1:=(List.getElem?_eq_some_iff.1 hk).1
 have hne:=vO (N:=cells.length) (f:=fr) (j:=0) (k:=k+1) (by omega) hN (by omega)
 rw[Nat.add_zero,Nat.mod_eq_of_lt hf]at hne
 rw[List.getElem?_set_ne hne]
 exact h1
theorem jF.first {X:Type}{cells:List X}{fr:Nat}{x:X}{q:List X}(hr:jF cells fr (x::q)):cells[fr]? =some x:=by
 have hl:=hr.len
 simp only[List.length_cons]at hl
 have:=hr.at_ 0 x rfl
 rwa [Nat.add_zero,Nat.mod_eq_of_lt (hr.lo (by omega))]at this
def kZ {X:Type}(enc:X→List Value)(b room:Nat)(q:List X):As:=aEx fun t:Sl×List X×Nat=>
 aStar (aPure (t.2.1.length=room∧room≤4096∧jF t.2.1 t.2.2 q)) (aStar (aBlk b [.slice t.1.p t.1.n t.1.c,.int .i64 (t.2.2:Int),.int .i64 (q.length:Int)]) (aRow enc 1 t.1 t.2.1))
theorem gW {X:Type}{enc:X→List Value}{h0 h:Hp}{R:List As}{b room:Nat}{q:List X}:Sep h0 h (kZ enc b room q::R)↔
  ∃(s:Sl) (cells:List X) (fr:Nat),(cells.length=room∧room≤4096∧jF cells fr q)∧Sep h0 h (aBlk b [.slice s.p s.n s.c,.int .i64 (fr:Int),.int .i64 (q.length:Int)]::aRow enc 1 s cells::R):=by
 unfold kZ
 rw[Sep.ex]
 constructor
 ·rintro ⟨⟨s,cells,fr⟩,hs⟩
  rw[Sep.star,Sep.pure,Sep.star]at hs
  exact⟨s,cells,fr,hs⟩
 ·rintro ⟨s,cells,fr,hs⟩
  refine⟨⟨s,cells,fr⟩,?_⟩
  rw[Sep.star,Sep.pure,Sep.star]
  exact hs
def uq (n:Int):Bool:=(decide (n<(0:Int)))||(decide (n>(4096:Int)))
abbrev iB (x:Int):List Value:=[.int .i64 x]
def c6Y:List Int→Value
 |[]=>.tuple #[.int .i64 0,.bool false]
 |x::_=>.tuple #[.int .i64 x,.bool true]
def Ac:List Int→Value
 |[]=>.tuple #[.int .i64 0,.int .i64 8]
 |x::_=>.tuple #[.int .i64 x,.int .i64 0]
section
variable {h0 h:Hp}{R:List As}{b room:Nat}{q:List Int}
theorem GD {s:Sl}{cells:List Int}{fr n i:Nat}(hs:Sep h0 h (aBlk b [.slice s.p s.n s.c,.int .i64 (fr:Int),.int .i64 (n:Int)]::aRow iB 1 s cells::R))(hN:0<cells.length)(hf:fr<cells.length)(hl:cells.length≤4096)(hi:i≤4096):
  YT (some ⟨b,0,none⟩) (i:Int) h (fun v h'=>h'=h∧∃a,v= .pointer (some a)∧At s a ((fr+i)%cells.length) 1):=by
 have mF:=hs.bn 1 rfl
 apply e9E
 unfold d9k
 simp only[au,ay,Nat.zero_add]
 refine Sep.bu hs 0 rfl rfl ?_;refine Sep.aB hs 0 rfl rfl ?_;refine Sep.bu hs 0 rfl rfl ?_
 refine⟨by omega,?_⟩
 rw[wrap64 _ (by omega),Int.tmod_eq_emod_of_nonneg (by omega),mF,show (fr:Int)+(i:Int)=((fr+i:Nat):Int) by omega,←Int.natCast_emod]
 have:=Nat.mod_lt (fr+i) hN
 refine hs.idx 1 rfl (by omega) (by omega) fun a ha=>?_
 rw[Int.toNat_natCast]at ha
 exact⟨rfl,a,rfl,ha⟩
theorem b0x (hs:Sep h0 h (kZ iB b room q::R)):c5R (some ⟨b,0,none⟩) h (fun v h'=>v= .int .i64 (q.length:Int)∧h'=h):=by
 obtain⟨s,cells,fr,hp,hs⟩:=gW.1 hs
 apply e9G
 unfold d9m
 simp only[Option.isNone_some,aj,au,ay,Nat.zero_add]
 refine Sep.aB hs 0 rfl rfl ?_
 exact⟨rfl,rfl⟩
theorem b0y (hs:Sep h0 h (kZ iB b room q::R))(x:Int):c5P (some ⟨b,0,none⟩) x h (fun v h'=>v= .int .i64 (if q.length=room then 7 else 0)∧Sep h0 h' (kZ iB b room (if q.length=room then q else q++[x])::R)):=by
 obtain⟨s,cells,fr,⟨hp,hm,hr⟩,hs⟩:=gW.1 hs
 have mF:=hs.bn 1 rfl
 have hql:=hr.len
 apply e9D
 unfold d9j
 simp only[Option.isNone_some,aj,au,ay,Nat.zero_add]
 refine Sep.aB hs 0 rfl rfl ?_;refine Sep.bu hs 0 rfl rfl ?_
 refine aE (fun hc=>?_) (fun hc=>?_)
 ·have hc:(q.length:Int)=s.n:=by simpa using hc
  rw[if_pos (by omega),if_pos (by omega)]
  exact⟨rfl,gW.2 ⟨s,cells,fr,⟨hp,hm,hr⟩,hs⟩⟩
 ·have hc:¬(q.length:Int)=s.n:=by simpa using hc
  rw[if_neg (by omega),if_neg (by omega)]
  have hlt:q.length<cells.length:=by omega
  refine Sep.aB hs 0 rfl rfl ?_
  rw[ae]
  refine (GD hs (by omega) (hr.lo (by omega)) (by omega) (by omega)).mono ?_
  rintro v h' ⟨rfl,a,rfl,ha⟩
  simp only[aS,au]
  have Gn:=Nat.mod_lt (fr+q.length) (by omega:0<cells.length)
  refine hs.vo 1 x rfl (fun _=>rfl) ha (List.getElem?_eq_getElem Gn) (by omega) rfl rfl fun h hs=>?_
  simp only[sz0,sz1]at hs
  refine Sep.aB hs 0 rfl rfl ?_;(refine Sep.st hs 0 rfl rfl rfl fun h hs=>?_;simp only[sz0,sz1]at hs)
  rw[wrap64 _ (by omega),show (q.length:Int)+1=((q++[x]).length:Int) by simp]at hs
  exact⟨rfl,gW.2 ⟨s,_,fr,⟨by rw[List.length_set];exact hp,hm,hr.put hlt x⟩,hs⟩⟩
theorem Rz (hs:Sep h0 h (kZ iB b room q::R)):c5Q (some ⟨b,0,none⟩) h (fun v h'=>v=c6Y q∧h'=h):=by
 apply e9F
 unfold d9l
 rw[ae]
 refine (b0x hs).mono ?_
 rintro v h' ⟨rfl,rfl⟩
 simp only[az]
 cases q with
 |nil=>exact aM rfl ⟨rfl,rfl⟩
 |cons x q=>
  obtain⟨s,cells,fr,⟨hp,hm,hr⟩,hs⟩:=gW.1 hs
  have hql:=hr.len
  simp only[List.length_cons]at hql
  refine aA (by simp;omega) ?_
  rw[ae]
  refine (GD (i:=0) hs (by omega) (hr.lo (by omega)) (by omega) (by omega)).mono ?_
  rintro v h' ⟨rfl,a,rfl,ha⟩
  simp only[aS,au]
  rw[Nat.add_zero,Nat.mod_eq_of_lt (hr.lo (by omega))]at ha
  exact hs.fR 1 rfl (fun _=>rfl) ha hr.first rfl ⟨rfl,rfl⟩
theorem a1Z (hs:Sep h0 h (kZ iB b room q::R)):c5O (some ⟨b,0,none⟩) h (fun v h'=>v=Ac q∧Sep h0 h' (kZ iB b room q.tail::R)):=by
 apply e9C
 unfold d9i
 rw[ae]
 refine (Rz hs).mono ?_
 rintro v h' ⟨rfl,rfl⟩
 cases q with
 |nil=>
  simp only[c6Y,bD,az,av,Bool.not_false,aq]
  exact⟨rfl,hs⟩
 |cons x q=>
  simp only[c6Y,bD,az,av,Bool.not_true,aj,ae]
  obtain⟨s,cells,fr,⟨hp,hm,hr⟩,hs⟩:=gW.1 hs
  have mF:=hs.bn 1 rfl
  have hql:=hr.len
  simp only[List.length_cons]at hql
  have hlo:=hr.lo (by omega)
  refine (GD (i:=0) hs (by omega) hlo (by omega) (by omega)).mono ?_
  rintro v h' ⟨rfl,a,rfl,ha⟩
  simp only[aS,au,ay,Nat.zero_add]
  rw[Nat.add_zero,Nat.mod_eq_of_lt hlo]at ha
  refine hs.vo 1 0 rfl (fun _=>rfl) ha hr.first (by omega) rfl rfl fun h hs=>?_
  simp only[sz0,sz1]at hs
  refine Sep.aB hs 0 rfl rfl ?_;refine Sep.bu hs 0 rfl rfl ?_
  refine⟨by omega,?_⟩
  (refine Sep.st hs 0 rfl rfl rfl fun h hs=>?_;simp only[sz0,sz1]at hs);refine Sep.aB hs 0 rfl rfl ?_;(refine Sep.st hs 0 rfl rfl rfl fun h hs=>?_;simp only[sz0,sz1]at hs)
  have e1:Int.tmod (IntKind.i64.wrap ((fr:Int)+1)) (s.n:Int)=(((fr+1)%cells.length:Nat):Int):=by
   rw[wrap64 _ (by omega),Int.tmod_eq_emod_of_nonneg (by omega),mF,show (fr:Int)+1=((fr+1:Nat):Int) by omega,←Int.natCast_emod]
  have e2:IntKind.i64.wrap (((x::q).length:Int)-1)=(q.length:Int):=by
   rw[List.length_cons,wrap64 _ (by omega)];omega
  rw[e1,e2]at hs
  exact⟨rfl,gW.2 ⟨s,_,_,⟨by rw[List.length_set];exact hp,hm,hr.take 0⟩,hs⟩⟩
theorem Ke (hs:Sep h0 h R)(n:Int)(hb:uq n=false):a9V n h (fun v h'=>∃b,v= .pointer (some ⟨b,0,none⟩)∧Sep h0 h' (kZ iB b n.toNat []::R)):=by
 apply e9A
 unfold d9h
 refine aA hb ?_
 unfold uq at hb
 simp at hb
 refine hs.make iB 1 0 rfl (by omega) (by omega) (by omega) fun s h hn hs=>?_
 (refine Sep.new hs fun nb h hs=>?_;try simp only[sz2]at hs)
 exact⟨nb,rfl,gW.2 ⟨s,_,0,⟨by simp,by omega,.nil _⟩,hs⟩⟩
end
end Go.Proofs.YtnpinhahjgbigaaGreatDoor.LMbx
end
section
namespace Go.Proofs.YtnpinhahjgbigaaGreatDoor.LCnt
open Go Go.Sb
section
variable {h0 h:Hp}{R:List As}{b:Nat}
def b0z (x:Int×Int):List Value:=[.int .i64 x.1,.int .i64 x.2]
def aC (b:Nat)(l:List (Int×Int)):As:=aEx fun s:Sl=>aStar (aBlk b [.slice s.p s.n s.c]) (aRow b0z 2 s l)
variable {l:List (Int×Int)}
theorem pM:Sep h0 h (aC b l::R)↔∃s:Sl,Sep h0 h (aBlk b [.slice s.p s.n s.c]::aRow b0z 2 s l::R):=by
 unfold aC;rw[Sep.ex];simp only[Sep.star]
theorem c6Z (hs:Sep h0 h (aC b l::R)):c5z (some ⟨b,0,none⟩) h (fun v h'=>v= .int .i64 l.length∧h'=h):=by
 obtain⟨s,hs⟩:=pM.1 hs
 have hl:=hs.bn 1 rfl
 apply e8o
 unfold d8e
 simp only[Option.isNone_some,aj,au]
 refine Sep.bu hs 0 rfl rfl ?_
 simp[hl]
def fJ (x:Int×Int)(d:Int):Bool:=decide (x.1+d<0)||decide (x.1+d>x.2)
theorem a2a (hs:Sep h0 h (aC b l::R)){i:Nat}{x:Int×Int}(hx:l[i]? =some x)(hb:0≤x.1∧x.1≤8){d:Int}(hd: -1≤d∧d≤1)(e:Int):a9N (some ⟨b,0,none⟩) (i:Int) d e h (fun v h'=>
  v= .tuple #[.int .i64 (if fJ x d then x.1 else x.1+d),.int .i64 (if fJ x d then e else 0)]∧Sep h0 h' (aC b (if fJ x d then l else l.set i (x.1+d,x.2))::R)):=by
 have hi:i<l.length:=(List.getElem?_eq_some_iff.1 hx).1
 apply e8l
 unfold d8b
 rw[ae]
 refine aA (by simp) ?_
 rw[ae]
 refine (c6Z hs).mono ?_
 rintro v h ⟨rfl,rfl⟩
 simp only[az,ak]
 refine aA (by simp;omega) ?_
 obtain⟨s,hs⟩:=pM.1 hs
 have hl:=hs.bn 1 rfl
 simp only[au]
 refine Sep.bu hs 0 rfl rfl ?_
 refine hs.idx 1 rfl (by omega) (by omega) fun a ha=>?_
 rw[Int.toNat_natCast]at ha
 refine hs.fR 1 rfl (fun _=>rfl) ha hx rfl ?_
 rw[wrap64 _ (by omega)]
 have fin:∀c:Bool,c=fJ x d→(aI c (ab .i64 a fun qo=>af (Value.tuple #[.int .i64 qo,.int .i64 e])) (ab .i64 a fun LG=>an a (.int .i64 (IntKind.i64.wrap (LG+d))) <| ab .i64 a fun TE=>af (Value.tuple #[.int .i64 TE,.int .i64 (0:Int)]))) h (fun v h'=>
   v= .tuple #[.int .i64 (if fJ x d then x.1 else x.1+d),.int .i64 (if fJ x d then e else 0)]∧Sep h0 h' (aC b (if fJ x d then l else l.set i (x.1+d,x.2))::R)):=by
  intro c hc
  cases hcb:fJ x d<;>rw[hcb]at hc<;>subst hc
  ·simp only[aj,Bool.false_eq_true,if_false]
   refine hs.fR 1 rfl (fun _=>rfl) ha hx rfl ?_
   rw[wrap64 _ (by omega)]
   refine hs.vo 1 (x.1+d,x.2) rfl (fun _=>rfl) ha hx (by omega) rfl rfl fun h hs=>?_
   simp only[sz0,sz1]at hs
   refine hs.fR 1 rfl (fun _=>rfl) ha (x:=(x.1+d,x.2)) (List.getElem?_set_self hi) rfl ?_
   exact⟨rfl,pM.2 ⟨s,hs⟩⟩
  ·simp only[aq,if_true]
   refine hs.fR 1 rfl (fun _=>rfl) ha hx rfl ?_
   exact⟨rfl,pM.2 ⟨s,hs⟩⟩
 rw[ae]
 by_cases h1:x.1+d<0
 ·refine aM (by simpa using h1) ?_
  exact fin true (by unfold fJ;rw[decide_eq_true h1];rfl)
 ·refine aA (by simpa using h1) ?_
  refine hs.iu 1 rfl (fun _=>rfl) ha hx rfl ?_
  exact fin _ (by unfold fJ;rw[decide_eq_false h1];rfl)
theorem c7a (hs:Sep h0 h (aC b l::R)){i:Nat}{x:Int×Int}(hx:l[i]? =some x)(hb:0≤x.1∧x.1≤8):YH (some ⟨b,0,none⟩) (i:Int) h (fun v h'=>
  v= .tuple #[.int .i64 (if fJ x 1 then x.1 else x.1+1),.int .i64 (if fJ x 1 then 7 else 0)]∧Sep h0 h' (aC b (if fJ x 1 then l else l.set i (x.1+1,x.2))::R)):=by
 apply e8m
 unfold d8c
 rw[ae]
 refine (a2a hs hx hb (by omega) 7).mono ?_
 rintro v h ⟨rfl,hs⟩
 exact⟨rfl,hs⟩
theorem b0A (hs:Sep h0 h (aC b l::R)){i:Nat}{x:Int×Int}(hx:l[i]? =some x)(hb:0≤x.1∧x.1≤8):YI (some ⟨b,0,none⟩) (i:Int) h (fun v h'=>
  v= .tuple #[.int .i64 (if fJ x (-1) then x.1 else x.1+ -1),.int .i64 (if fJ x (-1) then 8 else 0)]∧Sep h0 h' (aC b (if fJ x (-1) then l else l.set i (x.1+ -1,x.2))::R)):=by
 apply e8n
 unfold d8d
 rw[ae]
 refine (a2a hs hx hb (by omega) 8).mono ?_
 rintro v h ⟨rfl,hs⟩
 exact⟨rfl,hs⟩
theorem b6q {ms:Sl}{zs:List Int}(hm:mr h0.size h0 .i64 ms zs)(hz:∀z∈zs,1≤z∧z≤8)(hzl:zs.length≤1000):∀(d k:Nat) (h:Hp),k+d=zs.length→Sep h0 h (aC b ((zs.take k).map fun z=>(0,z))::R)→
  a9Y ⟨b,0,none⟩ ms (zs.length:Int) (k:Int) h (fun v h'=>v= .pointer (some ⟨b,0,none⟩)∧Sep h0 h' (aC b (zs.map fun z=>(0,z))::R))
 |0,k,h,hk,hs=>by
  apply Szi
  unfold Bzi
  refine aA (by simp;omega) ?_
  rw[List.take_of_length_le (by omega)]at hs
  exact⟨rfl,hs⟩
 |d+1,k,h,hk,hs=>by
  have ih:=b6q hm hz hzl d (k+1)
  apply Szi
  unfold Bzi
  refine aM (by simp;omega) ?_
  have hkz:k<zs.length:=by omega
  have hx:=hz zs[k] (List.getElem_mem hkz)
  refine hs.vp hm hkz ?_
  have e1:(decide (zs[k]<1)||decide (zs[k]>8))=false:=by
   rw[decide_eq_false (by omega),decide_eq_false (by omega)];rfl
  rw[e1,aj]
  apply e8k
  unfold d8a
  obtain⟨s,hs⟩:=pM.1 hs
  have hl:=hs.bn 1 rfl
  simp only[List.length_map,List.length_take]at hl
  refine Sep.bu hs 0 rfl rfl ?_
  refine Sep.new hs fun nb h hs=>?_
  simp only[sz2]at hs
  refine Sep.lE hs 2 0 ((0:Int),zs[k]) rfl rfl (fun _=>rfl) (by simp[b0z,Value.oneCell']) rfl (by omega) (by simp;omega) fun s' h hn hs=>?_
  simp only[sz0,sz1]at hs
  (refine Sep.st hs 1 rfl rfl rfl fun h hs=>?_;simp only[sz0,sz1]at hs)
  rw[wrap64 _ (by omega)]
  have hs:=hs.drop
  have e2:(List.take k zs).map (fun z=>((0:Int),z))++[((0:Int),zs[k])]=(List.take (k+1) zs).map fun z=>((0:Int),z):=by
   rw[List.take_succ_eq_append_getElem hkz,List.map_append];rfl
  rw[e2]at hs
  exact ih h (by omega) (pM.2 ⟨s',hs⟩)
theorem c7b (hs:Sep h0 h R){ms:Sl}{zs:List Int}(hm:mr h0.size h0 .i64 ms zs)(hz:∀z∈zs,1≤z∧z≤8)(hzl:zs.length≤1000):c5y ms h (fun v h'=>∃b,v= .pointer (some ⟨b,0,none⟩)∧Sep h0 h' (aC b (zs.map fun z=>(0,z))::R)):=by
 apply e8j
 unfold d7Z
 refine Sep.new hs fun nb h hs=>?_
 simp only[sz2]at hs
 have hn:ms.n=zs.length:=hm.n
 rw[hn]
 have hs:Sep h0 h (aC nb ((zs.take 0).map fun z=>(0,z))::R):=pM.2 ⟨⟨none,0,0⟩,(hs.fw b0z 2).swap⟩
 refine (b6q hm hz hzl zs.length 0 h (by omega) hs).mono ?_
 rintro v h ⟨rfl,hs⟩
 exact⟨nb,rfl,hs⟩
end
end Go.Proofs.YtnpinhahjgbigaaGreatDoor.LCnt
end
