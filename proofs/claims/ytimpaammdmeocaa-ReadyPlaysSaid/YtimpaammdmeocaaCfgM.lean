/- What the functions of this layer come to, as forms of the small logic; written by program. Conditions: none. -/
import Derived.Test.YtimpaammdmeocaaSbU
import Derived.Test.YtimpaammdmeocaaChecked
import Derived.KernelRfl
set_option maxRecDepth 100000
namespace Go.Proofs.Ytimpaammdmeocaa
open Go Go.Sb
theorem mixed : Try.prog.follows .mixedOrders = true := by kernel_rfl
def N_signalboxref07_in (n0 : Int) (from1 : Int) (to2 : Int) : M Value := Nf Try.prog 33 #[.int .i64 n0, .int .i64 from1, .int .i64 to2]
def N_signalboxref07_all (l0 : Sl) (from1 : Int) (to2 : Int) : M Value := Nf Try.prog 34 #[.slice l0.p l0.n l0.c, .int .i64 from1, .int .i64 to2]
def N_signalboxref07_task (c0_0 : Int) (c0_1 : Int) (c0_2 : Int) (c0_3 : Int) (c0_4 : Sl) (c0_5 : Int) (c0_6 : Sl) (c0_7 : Sl) (c0_8 : Sl) (c0_9 : Sl) (i1 : Int) (t2_0 : Int) (t2_1 : Int) (t2_2 : Int) (t2_3 : Int) (t2_4 : Int) (t2_5 : Int) (t2_6 : Sl) : M Value := Nf Try.prog 35 #[.agg #[.int .i64 c0_0, .int .i64 c0_1, .int .i64 c0_2, .int .i64 c0_3, .slice c0_4.p c0_4.n c0_4.c, .int .i64 c0_5, .slice c0_6.p c0_6.n c0_6.c, .slice c0_7.p c0_7.n c0_7.c, .slice c0_8.p c0_8.n c0_8.c, .slice c0_9.p c0_9.n c0_9.c], .int .i64 i1, .agg #[.int .i64 t2_0, .int .i64 t2_1, .int .i64 t2_2, .int .i64 t2_3, .int .i64 t2_4, .int .i64 t2_5, .slice t2_6.p t2_6.n t2_6.c]]
def N_signalboxref07_Check (c0_0 : Int) (c0_1 : Int) (c0_2 : Int) (c0_3 : Int) (c0_4 : Sl) (c0_5 : Int) (c0_6 : Sl) (c0_7 : Sl) (c0_8 : Sl) (c0_9 : Sl) : M Value := Nf Try.prog 16 #[.agg #[.int .i64 c0_0, .int .i64 c0_1, .int .i64 c0_2, .int .i64 c0_3, .slice c0_4.p c0_4.n c0_4.c, .int .i64 c0_5, .slice c0_6.p c0_6.n c0_6.c, .slice c0_7.p c0_7.n c0_7.c, .slice c0_8.p c0_8.n c0_8.c, .slice c0_9.p c0_9.n c0_9.c]]
def N_conf_Check (c0_0 : Int) (c0_1 : Int) (c0_2 : Int) (c0_3 : Int) (c0_4 : Sl) (c0_5 : Int) (c0_6 : Sl) (c0_7 : Sl) (c0_8 : Sl) (c0_9 : Sl) : M Value := Nf Try.prog 29 #[.agg #[.int .i64 c0_0, .int .i64 c0_1, .int .i64 c0_2, .int .i64 c0_3, .slice c0_4.p c0_4.n c0_4.c, .int .i64 c0_5, .slice c0_6.p c0_6.n c0_6.c, .slice c0_7.p c0_7.n c0_7.c, .slice c0_8.p c0_8.n c0_8.c, .slice c0_9.p c0_9.n c0_9.c]]
def N_conf_machine (m0_0 : Int) (m0_1 : Int) (m0_2 : Int) (m0_3 : Int) : M Value := Nf Try.prog 54 #[.agg #[.int .i64 m0_0, .int .i64 m0_1, .int .i64 m0_2, .int .i64 m0_3]]
def N_conf_within (from0 : Int) (to1 : Int) (l2 : Sl) : M Value := Nf Try.prog 55 #[.int .i64 from0, .int .i64 to1, .slice l2.p l2.n l2.c]
def N_conf_task (c0_0 : Int) (c0_1 : Int) (c0_2 : Int) (c0_3 : Int) (c0_4 : Sl) (c0_5 : Int) (c0_6 : Sl) (c0_7 : Sl) (c0_8 : Sl) (c0_9 : Sl) (t1_0 : Int) (t1_1 : Int) (t1_2 : Int) (t1_3 : Int) (t1_4 : Int) (t1_5 : Int) (t1_6 : Sl) (ahead2 : Sl) : M Value := Nf Try.prog 56 #[.agg #[.int .i64 c0_0, .int .i64 c0_1, .int .i64 c0_2, .int .i64 c0_3, .slice c0_4.p c0_4.n c0_4.c, .int .i64 c0_5, .slice c0_6.p c0_6.n c0_6.c, .slice c0_7.p c0_7.n c0_7.c, .slice c0_8.p c0_8.n c0_8.c, .slice c0_9.p c0_9.n c0_9.c], .agg #[.int .i64 t1_0, .int .i64 t1_1, .int .i64 t1_2, .int .i64 t1_3, .int .i64 t1_4, .int .i64 t1_5, .slice t1_6.p t1_6.n t1_6.c], .slice ahead2.p ahead2.n ahead2.c]
def N_signalboxref06_Check (l0 : Sl) (boxes1 : Int) (groups2 : Int) (counts3 : Int) (ceilings4 : Int) : M Value := Nf Try.prog 57 #[.slice l0.p l0.n l0.c, .int .i64 boxes1, .int .i64 groups2, .int .i64 counts3, .int .i64 ceilings4]
def N_slices_ContainsFunc_int_int (s0 : Sl) (f1g : Nat) (f1f : Array Value) (f1c : Array Value) : M Value := Nf Try.prog 63 #[.slice s0.p s0.n s0.c, .func (.func f1g) f1f f1c]
def N_conf_within_1 (n0 : Int) (fv1 : Option Addr) (fv2 : Option Addr) : M Value := Nf Try.prog 64 #[.int .i64 n0, .pointer fv1, .pointer fv2]
def N_prog_Check (l0 : Sl) (r1_0 : Int) (r1_1 : Int) (r1_2 : Int) (r1_3 : Int) : M Value := Nf Try.prog 65 #[.slice l0.p l0.n l0.c, .agg #[.int .i64 r1_0, .int .i64 r1_1, .int .i64 r1_2, .int .i64 r1_3]]
def N_conf_Room (c0_0 : Int) (c0_1 : Int) (c0_2 : Int) (c0_3 : Int) (c0_4 : Sl) (c0_5 : Int) (c0_6 : Sl) (c0_7 : Sl) (c0_8 : Sl) (c0_9 : Sl) : M Value := Nf Try.prog 66 #[.agg #[.int .i64 c0_0, .int .i64 c0_1, .int .i64 c0_2, .int .i64 c0_3, .slice c0_4.p c0_4.n c0_4.c, .int .i64 c0_5, .slice c0_6.p c0_6.n c0_6.c, .slice c0_7.p c0_7.n c0_7.c, .slice c0_8.p c0_8.n c0_8.c, .slice c0_9.p c0_9.n c0_9.c]]
def N_conf_task_1 (o0_0 : Int) (o0_1 : Int) (o0_2 : Int) (fv1 : Option Addr) (fv2 : Option Addr) : M Value := Nf Try.prog 67 #[.agg #[.int .i64 o0_0, .int .i64 o0_1, .int .i64 o0_2], .pointer fv1, .pointer fv2]
def N_slices_ContainsFunc_api_Op_api_Op (s0 : Sl) (f1g : Nat) (f1f : Array Value) (f1c : Array Value) : M Value := Nf Try.prog 68 #[.slice s0.p s0.n s0.c, .func (.func f1g) f1f f1c]
def N_slices_ContainsFunc_api_Task_api_Task (s0 : Sl) (f1g : Nat) (f1f : Array Value) (f1c : Array Value) : M Value := Nf Try.prog 69 #[.slice s0.p s0.n s0.c, .func (.func f1g) f1f f1c]
def N_conf_task_2 (x0_0 : Int) (x0_1 : Int) (x0_2 : Int) (x0_3 : Int) (x0_4 : Int) (x0_5 : Int) (x0_6 : Sl) (fv1 : Option Addr) : M Value := Nf Try.prog 70 #[.agg #[.int .i64 x0_0, .int .i64 x0_1, .int .i64 x0_2, .int .i64 x0_3, .int .i64 x0_4, .int .i64 x0_5, .slice x0_6.p x0_6.n x0_6.c], .pointer fv1]
def N_signalboxref06_Op (o0_0 : Int) (o0_1 : Int) (o0_2 : Int) (boxes1 : Int) (groups2 : Int) (counts3 : Int) (ceilings4 : Int) : M Value := Nf Try.prog 71 #[.agg #[.int .i64 o0_0, .int .i64 o0_1, .int .i64 o0_2], .int .i64 boxes1, .int .i64 groups2, .int .i64 counts3, .int .i64 ceilings4]
def N_signalboxref06_Nest (l0 : Sl) (end1 : Bool) : M Value := Nf Try.prog 72 #[.slice l0.p l0.n l0.c, .bool end1]
def N_slices_IndexFunc_int_int (s0 : Sl) (f1g : Nat) (f1f : Array Value) (f1c : Array Value) : M Value := Nf Try.prog 75 #[.slice s0.p s0.n s0.c, .func (.func f1g) f1f f1c]
def N_prog_Op (o0_0 : Int) (o0_1 : Int) (o0_2 : Int) (r1_0 : Int) (r1_1 : Int) (r1_2 : Int) (r1_3 : Int) : M Value := Nf Try.prog 76 #[.agg #[.int .i64 o0_0, .int .i64 o0_1, .int .i64 o0_2], .agg #[.int .i64 r1_0, .int .i64 r1_1, .int .i64 r1_2, .int .i64 r1_3]]
def N_prog_nest_step (n0 : Option Addr) (o1_0 : Int) (o1_1 : Int) (o1_2 : Int) : M Value := Nf Try.prog 77 #[.pointer n0, .agg #[.int .i64 o1_0, .int .i64 o1_1, .int .i64 o1_2]]
def N_slices_IndexFunc_api_Op_api_Op (s0 : Sl) (f1g : Nat) (f1f : Array Value) (f1c : Array Value) : M Value := Nf Try.prog 78 #[.slice s0.p s0.n s0.c, .func (.func f1g) f1f f1c]
def N_slices_IndexFunc_api_Task_api_Task (s0 : Sl) (f1g : Nat) (f1f : Array Value) (f1c : Array Value) : M Value := Nf Try.prog 79 #[.slice s0.p s0.n s0.c, .func (.func f1g) f1f f1c]
def N_signalboxref06_Numbers (kind0 : Int) : M Value := Nf Try.prog 80 #[.int .i64 kind0]
def N_signalboxref06_in (n0 : Int) (from1 : Int) (to2 : Int) : M Value := Nf Try.prog 81 #[.int .i64 n0, .int .i64 from1, .int .i64 to2]
def N_prog_Numbers (k0 : Int) : M Value := Nf Try.prog 82 #[.int .i64 k0]
def N_prog_Room_spans (r0_0 : Int) (r0_1 : Int) (r0_2 : Int) (r0_3 : Int) (k1 : Int) : M Value := Nf Try.prog 83 #[.agg #[.int .i64 r0_0, .int .i64 r0_1, .int .i64 r0_2, .int .i64 r0_3], .int .i64 k1]
def N_prog_span_has (s0_0 : Int) (s0_1 : Int) (n1 : Int) : M Value := Nf Try.prog 84 #[.agg #[.int .i64 s0_0, .int .i64 s0_1], .int .i64 n1]
def N_slices_Contains_int_int (s0 : Sl) (v1 : Int) : M Value := Nf Try.prog 85 #[.slice s0.p s0.n s0.c, .int .i64 v1]
def N_prog_kinds : M Value := Nf Try.prog 86 #[]
def N_prog_Room_spans_1 (n0 : Int) : M Value := Nf Try.prog 87 #[.int .i64 n0]
def N_slices_Index_int_int (s0 : Sl) (v1 : Int) : M Value := Nf Try.prog 88 #[.slice s0.p s0.n s0.c, .int .i64 v1]
def N_signalboxref07_Few (c0_0 : Int) (c0_1 : Int) (c0_2 : Int) (c0_3 : Int) (c0_4 : Sl) (c0_5 : Int) (c0_6 : Sl) (c0_7 : Sl) (c0_8 : Sl) (c0_9 : Sl) : M Value := Nf Try.prog 14 #[.agg #[.int .i64 c0_0, .int .i64 c0_1, .int .i64 c0_2, .int .i64 c0_3, .slice c0_4.p c0_4.n c0_4.c, .int .i64 c0_5, .slice c0_6.p c0_6.n c0_6.c, .slice c0_7.p c0_7.n c0_7.c, .slice c0_8.p c0_8.n c0_8.c, .slice c0_9.p c0_9.n c0_9.c]]
def N_signalboxref07_Order (c0_0 : Int) (c0_1 : Int) (c0_2 : Int) (c0_3 : Int) (c0_4 : Sl) (c0_5 : Int) (c0_6 : Sl) (c0_7 : Sl) (c0_8 : Sl) (c0_9 : Sl) : M Value := Nf Try.prog 26 #[.agg #[.int .i64 c0_0, .int .i64 c0_1, .int .i64 c0_2, .int .i64 c0_3, .slice c0_4.p c0_4.n c0_4.c, .int .i64 c0_5, .slice c0_6.p c0_6.n c0_6.c, .slice c0_7.p c0_7.n c0_7.c, .slice c0_8.p c0_8.n c0_8.c, .slice c0_9.p c0_9.n c0_9.c]]
def C_signalboxref07_in : List (Nat × List Nat) := []
def D_signalboxref07_in : List (Nat × List Nat) := []
def B_signalboxref07_in (n0 : Int) (from1 : Int) (to2 : Int) : M Value :=
  mRet (.bool ((decide (n0 ≥ from1)) && (decide (n0 ≤ to2))))
theorem E_signalboxref07_in (n0 : Int) (from1 : Int) (to2 : Int) : ev Try.prog 33 Try.f33.results.toList C_signalboxref07_in D_signalboxref07_in 400 false [.code (bodyOf Try.f33)] (List.map some [.int .i64 n0, .int .i64 from1, .int .i64 to2] ++ List.replicate (Try.f33.ntmps - List.length ([.int .i64 n0, .int .i64 from1, .int .i64 to2] : List Value)) none) = B_signalboxref07_in n0 from1 to2 := by kernel_rfl
theorem S_signalboxref07_in (n0 : Int) (from1 : Int) (to2 : Int) {h : Hp} {Q : Value → Hp → Prop} (hb : B_signalboxref07_in n0 from1 to2 h Q) : N_signalboxref07_in n0 from1 to2 h Q :=
  Nf.of_ev Try.call33 Try.func33 (c := bodyOf Try.f33) rfl mixed C_signalboxref07_in D_signalboxref07_in 400 (args := [.int .i64 n0, .int .i64 from1, .int .i64 to2]) (by rw [E_signalboxref07_in]; exact hb)
def C_signalboxref07_all : List (Nat × List Nat) := [(2, [1, 2, 9, 10, 11])]
def D_signalboxref07_all : List (Nat × List Nat) := []
def T_signalboxref07_all_2 (from1 : Int) (to2 : Int) (t9 : Sl) (t10 : Int) (t11 : Int) : Env := mkEnv [(1, .int .i64 from1), (2, .int .i64 to2), (9, .slice t9.p t9.n t9.c), (10, .int .i64 t10), (11, .int .i64 t11)] 21 0
def K_signalboxref07_all_2 (from1 : Int) (to2 : Int) (t9 : Sl) (t10 : Int) (t11 : Int) : M Value := Cut Try.prog 34 (todoOf Try.f34 2) (T_signalboxref07_all_2 from1 to2 t9 t10 t11)
def B_signalboxref07_all (l0 : Sl) (from1 : Int) (to2 : Int) : M Value :=
  K_signalboxref07_all_2 from1 to2 l0 (l0.n : Int) (0 : Int)
def B_signalboxref07_all_2 (from1 : Int) (to2 : Int) (t9 : Sl) (t10 : Int) (t11 : Int) : M Value :=
  mIf (decide (t11 < t10)) (
    mIdx t9 t11 1 fun (x13 : Addr) =>
    mLdI .i64 x13 fun (x14 : Int) =>
    mBind (N_signalboxref07_in x14 from1 to2) fun r18 =>
    unB r18 fun (x18 : Bool) =>
    mIf (!x18) (
      mRet (.bool false)) (
      K_signalboxref07_all_2 from1 to2 t9 t10 (IntKind.i64.wrap (t11 + (1 : Int))))) (
    mRet (.bool true))
theorem E_signalboxref07_all (l0 : Sl) (from1 : Int) (to2 : Int) : ev Try.prog 34 Try.f34.results.toList C_signalboxref07_all D_signalboxref07_all 400 false [.code (bodyOf Try.f34)] (List.map some [.slice l0.p l0.n l0.c, .int .i64 from1, .int .i64 to2] ++ List.replicate (Try.f34.ntmps - List.length ([.slice l0.p l0.n l0.c, .int .i64 from1, .int .i64 to2] : List Value)) none) = B_signalboxref07_all l0 from1 to2 := by kernel_rfl
theorem S_signalboxref07_all (l0 : Sl) (from1 : Int) (to2 : Int) {h : Hp} {Q : Value → Hp → Prop} (hb : B_signalboxref07_all l0 from1 to2 h Q) : N_signalboxref07_all l0 from1 to2 h Q :=
  Nf.of_ev Try.call34 Try.func34 (c := bodyOf Try.f34) rfl mixed C_signalboxref07_all D_signalboxref07_all 400 (args := [.slice l0.p l0.n l0.c, .int .i64 from1, .int .i64 to2]) (by rw [E_signalboxref07_all]; exact hb)
theorem E_signalboxref07_all_2 (from1 : Int) (to2 : Int) (t9 : Sl) (t10 : Int) (t11 : Int) : ev Try.prog 34 Try.f34.results.toList C_signalboxref07_all D_signalboxref07_all 400 true (todoOf Try.f34 2) (T_signalboxref07_all_2 from1 to2 t9 t10 t11) = B_signalboxref07_all_2 from1 to2 t9 t10 t11 := by kernel_rfl
theorem S_signalboxref07_all_2 (from1 : Int) (to2 : Int) (t9 : Sl) (t10 : Int) (t11 : Int) {h : Hp} {Q : Value → Hp → Prop} (hb : B_signalboxref07_all_2 from1 to2 t9 t10 t11 h Q) : K_signalboxref07_all_2 from1 to2 t9 t10 t11 h Q :=
  Cut.of_ev Try.func34 mixed C_signalboxref07_all D_signalboxref07_all 400 (by rw [E_signalboxref07_all_2]; exact hb)
def C_signalboxref07_task : List (Nat × List Nat) := [(7, [1, 3, 5, 67, 68, 69]), (13, [1, 3, 5, 10])]
def D_signalboxref07_task : List (Nat × List Nat) := []
def T_signalboxref07_task_7 (i1 : Int) (c3 : Addr) (t5 : Addr) (t67 : Sl) (t68 : Int) (t69 : Int) : Env := mkEnv [(1, .int .i64 i1), (3, .pointer (some c3)), (5, .pointer (some t5)), (67, .slice t67.p t67.n t67.c), (68, .int .i64 t68), (69, .int .i64 t69)] 102 0
def K_signalboxref07_task_7 (i1 : Int) (c3 : Addr) (t5 : Addr) (t67 : Sl) (t68 : Int) (t69 : Int) : M Value := Cut Try.prog 35 (todoOf Try.f35 7) (T_signalboxref07_task_7 i1 c3 t5 t67 t68 t69)
def T_signalboxref07_task_13 (i1 : Int) (c3 : Addr) (t5 : Addr) (k10 : Int) : Env := mkEnv [(1, .int .i64 i1), (3, .pointer (some c3)), (5, .pointer (some t5)), (10, .int .i64 k10)] 102 0
def K_signalboxref07_task_13 (i1 : Int) (c3 : Addr) (t5 : Addr) (k10 : Int) : M Value := Cut Try.prog 35 (todoOf Try.f35 13) (T_signalboxref07_task_13 i1 c3 t5 k10)
def B_signalboxref07_task (c0_0 : Int) (c0_1 : Int) (c0_2 : Int) (c0_3 : Int) (c0_4 : Sl) (c0_5 : Int) (c0_6 : Sl) (c0_7 : Sl) (c0_8 : Sl) (c0_9 : Sl) (i1 : Int) (t2_0 : Int) (t2_1 : Int) (t2_2 : Int) (t2_3 : Int) (t2_4 : Int) (t2_5 : Int) (t2_6 : Sl) : M Value :=
  mNew #[.int .i64 c0_0, .int .i64 c0_1, .int .i64 c0_2, .int .i64 c0_3, .slice c0_4.p c0_4.n c0_4.c, .int .i64 c0_5, .slice c0_6.p c0_6.n c0_6.c, .slice c0_7.p c0_7.n c0_7.c, .slice c0_8.p c0_8.n c0_8.c, .slice c0_9.p c0_9.n c0_9.c] 34 fun (x3 : Addr) =>
  mNew #[.int .i64 t2_0, .int .i64 t2_1, .int .i64 t2_2, .int .i64 t2_3, .int .i64 t2_4, .int .i64 t2_5, .slice t2_6.p t2_6.n t2_6.c] 67 fun (x5 : Addr) =>
  mLdI .i64 x5 fun (x12 : Int) =>
  mBind (N_signalboxref07_in x12 (0 : Int) (63 : Int)) fun r13 =>
  unB r13 fun (x13 : Bool) =>
  mBind (mIf (!x13) (mRet true) (mLdI .i64 (x5.add 1) fun (x17 : Int) =>
    mLdI .i64 x5 fun (x19 : Int) =>
    mBind (N_signalboxref07_in x17 x19 (63 : Int)) fun r20 =>
    unB r20 fun (x20 : Bool) =>
    mRet (!x20))) fun (b11 : Bool) =>
  mBind (mIf b11 (mRet true) (mLdI .i64 (x5.add 2) fun (x25 : Int) =>
    mBind (N_signalboxref07_in x25 (1 : Int) (1048576 : Int)) fun r26 =>
    unB r26 fun (x26 : Bool) =>
    mRet (!x26))) fun (b15 : Bool) =>
  mBind (mIf b15 (mRet true) (mLdI .i64 (x5.add 3) fun (x31 : Int) =>
    mLdI .i64 (x5.add 2) fun (x33 : Int) =>
    mBind (N_signalboxref07_in x31 (1 : Int) x33) fun r34 =>
    unB r34 fun (x34 : Bool) =>
    mRet (!x34))) fun (b21 : Bool) =>
  mBind (mIf b21 (mRet true) (mLdI .i64 (x5.add 4) fun (x39 : Int) =>
    mBind (N_signalboxref07_in x39 (0 : Int) (4096 : Int)) fun r40 =>
    unB r40 fun (x40 : Bool) =>
    mRet (!x40))) fun (b25 : Bool) =>
  mBind (mIf b25 (mRet true) (mLdI .i64 (x5.add 5) fun (x45 : Int) =>
    mBind (N_signalboxref07_in x45 (0 : Int) (1048576 : Int)) fun r46 =>
    unB r46 fun (x46 : Bool) =>
    mRet (!x46))) fun (b29 : Bool) =>
  mIf b29 (
    mRet (.int .i64 (5 : Int))) (
    mLdL (x5.add 6) fun (x50 : Sl) =>
    mLdL (x3.add 4) fun (x52 : Sl) =>
    mLdI .i64 (x3.add 5) fun (x55 : Int) =>
    mLdL (x3.add 6) fun (x57 : Sl) =>
    mLdL (x3.add 7) fun (x60 : Sl) =>
    mBind (N_signalboxref06_Check x50 (x52.n : Int) x55 (x57.n : Int) (x60.n : Int)) fun r62 =>
    unI .i64 r62 fun (x62 : Int) =>
    mIf (x62 != (0 : Int)) (
      mRet (.int .i64 x62)) (
      mLdL (x5.add 6) fun (x67 : Sl) =>
      K_signalboxref07_task_7 i1 x3 x5 x67 (x67.n : Int) (0 : Int)))
def B_signalboxref07_task_7 (i1 : Int) (c3 : Addr) (t5 : Addr) (t67 : Sl) (t68 : Int) (t69 : Int) : M Value :=
  mIf (decide (t69 < t68)) (
    mIdx t67 t69 3 fun (x71 : Addr) =>
    mLdI .i64 x71 fun (x72_0 : Int) =>
    mLdI .i64 (x71.add 1) fun (x72_1 : Int) =>
    mLdI .i64 (x71.add 2) fun (x72_2 : Int) =>
    mNew #[.int .i64 (0 : Int), .int .i64 (0 : Int), .int .i64 (0 : Int)] 78 fun (x9 : Addr) =>
    mSt x9 (.int .i64 x72_0) <|
    mSt (x9.add 1) (.int .i64 x72_1) <|
    mSt (x9.add 2) (.int .i64 x72_2) <|
    mLdI .i64 x9 fun (x74 : Int) =>
    mBind (mIf (x74 == (5 : Int)) (mLdL (c3.add 7) fun (x78 : Sl) =>
      mLdI .i64 (x9.add 1) fun (x80 : Int) =>
      mIdx x78 x80 1 fun (x81 : Addr) =>
      mLdI .i64 x81 fun (x82 : Int) =>
      mLdI .i64 t5 fun (x84 : Int) =>
      mRet (decide (x82 < x84))) (mRet false)) fun (b57 : Bool) =>
    mIf b57 (
      mRet (.int .i64 (9 : Int))) (
      K_signalboxref07_task_7 i1 c3 t5 t67 t68 (IntKind.i64.wrap (t69 + (1 : Int))))) (
    K_signalboxref07_task_13 i1 c3 t5 (0 : Int))
def B_signalboxref07_task_13 (i1 : Int) (c3 : Addr) (t5 : Addr) (k10 : Int) : M Value :=
  mIf (decide (k10 < i1)) (
    mLdL (c3.add 8) fun (x94 : Sl) =>
    mIdx x94 k10 7 fun (x96 : Addr) =>
    mLdI .i64 x96 fun (x98 : Int) =>
    mLdI .i64 t5 fun (x100 : Int) =>
    mIf (x98 == x100) (
      mRet (.int .i64 (10 : Int))) (
      K_signalboxref07_task_13 i1 c3 t5 (IntKind.i64.wrap (k10 + (1 : Int))))) (
    mRet (.int .i64 (0 : Int)))
theorem E_signalboxref07_task (c0_0 : Int) (c0_1 : Int) (c0_2 : Int) (c0_3 : Int) (c0_4 : Sl) (c0_5 : Int) (c0_6 : Sl) (c0_7 : Sl) (c0_8 : Sl) (c0_9 : Sl) (i1 : Int) (t2_0 : Int) (t2_1 : Int) (t2_2 : Int) (t2_3 : Int) (t2_4 : Int) (t2_5 : Int) (t2_6 : Sl) : ev Try.prog 35 Try.f35.results.toList C_signalboxref07_task D_signalboxref07_task 400 false [.code (bodyOf Try.f35)] (List.map some [.agg #[.int .i64 c0_0, .int .i64 c0_1, .int .i64 c0_2, .int .i64 c0_3, .slice c0_4.p c0_4.n c0_4.c, .int .i64 c0_5, .slice c0_6.p c0_6.n c0_6.c, .slice c0_7.p c0_7.n c0_7.c, .slice c0_8.p c0_8.n c0_8.c, .slice c0_9.p c0_9.n c0_9.c], .int .i64 i1, .agg #[.int .i64 t2_0, .int .i64 t2_1, .int .i64 t2_2, .int .i64 t2_3, .int .i64 t2_4, .int .i64 t2_5, .slice t2_6.p t2_6.n t2_6.c]] ++ List.replicate (Try.f35.ntmps - List.length ([.agg #[.int .i64 c0_0, .int .i64 c0_1, .int .i64 c0_2, .int .i64 c0_3, .slice c0_4.p c0_4.n c0_4.c, .int .i64 c0_5, .slice c0_6.p c0_6.n c0_6.c, .slice c0_7.p c0_7.n c0_7.c, .slice c0_8.p c0_8.n c0_8.c, .slice c0_9.p c0_9.n c0_9.c], .int .i64 i1, .agg #[.int .i64 t2_0, .int .i64 t2_1, .int .i64 t2_2, .int .i64 t2_3, .int .i64 t2_4, .int .i64 t2_5, .slice t2_6.p t2_6.n t2_6.c]] : List Value)) none) = B_signalboxref07_task c0_0 c0_1 c0_2 c0_3 c0_4 c0_5 c0_6 c0_7 c0_8 c0_9 i1 t2_0 t2_1 t2_2 t2_3 t2_4 t2_5 t2_6 := by kernel_rfl
theorem S_signalboxref07_task (c0_0 : Int) (c0_1 : Int) (c0_2 : Int) (c0_3 : Int) (c0_4 : Sl) (c0_5 : Int) (c0_6 : Sl) (c0_7 : Sl) (c0_8 : Sl) (c0_9 : Sl) (i1 : Int) (t2_0 : Int) (t2_1 : Int) (t2_2 : Int) (t2_3 : Int) (t2_4 : Int) (t2_5 : Int) (t2_6 : Sl) {h : Hp} {Q : Value → Hp → Prop} (hb : B_signalboxref07_task c0_0 c0_1 c0_2 c0_3 c0_4 c0_5 c0_6 c0_7 c0_8 c0_9 i1 t2_0 t2_1 t2_2 t2_3 t2_4 t2_5 t2_6 h Q) : N_signalboxref07_task c0_0 c0_1 c0_2 c0_3 c0_4 c0_5 c0_6 c0_7 c0_8 c0_9 i1 t2_0 t2_1 t2_2 t2_3 t2_4 t2_5 t2_6 h Q :=
  Nf.of_ev Try.call35 Try.func35 (c := bodyOf Try.f35) rfl mixed C_signalboxref07_task D_signalboxref07_task 400 (args := [.agg #[.int .i64 c0_0, .int .i64 c0_1, .int .i64 c0_2, .int .i64 c0_3, .slice c0_4.p c0_4.n c0_4.c, .int .i64 c0_5, .slice c0_6.p c0_6.n c0_6.c, .slice c0_7.p c0_7.n c0_7.c, .slice c0_8.p c0_8.n c0_8.c, .slice c0_9.p c0_9.n c0_9.c], .int .i64 i1, .agg #[.int .i64 t2_0, .int .i64 t2_1, .int .i64 t2_2, .int .i64 t2_3, .int .i64 t2_4, .int .i64 t2_5, .slice t2_6.p t2_6.n t2_6.c]]) (by rw [E_signalboxref07_task]; exact hb)
theorem E_signalboxref07_task_7 (i1 : Int) (c3 : Addr) (t5 : Addr) (t67 : Sl) (t68 : Int) (t69 : Int) : ev Try.prog 35 Try.f35.results.toList C_signalboxref07_task D_signalboxref07_task 400 true (todoOf Try.f35 7) (T_signalboxref07_task_7 i1 c3 t5 t67 t68 t69) = B_signalboxref07_task_7 i1 c3 t5 t67 t68 t69 := by kernel_rfl
theorem S_signalboxref07_task_7 (i1 : Int) (c3 : Addr) (t5 : Addr) (t67 : Sl) (t68 : Int) (t69 : Int) {h : Hp} {Q : Value → Hp → Prop} (hb : B_signalboxref07_task_7 i1 c3 t5 t67 t68 t69 h Q) : K_signalboxref07_task_7 i1 c3 t5 t67 t68 t69 h Q :=
  Cut.of_ev Try.func35 mixed C_signalboxref07_task D_signalboxref07_task 400 (by rw [E_signalboxref07_task_7]; exact hb)
theorem E_signalboxref07_task_13 (i1 : Int) (c3 : Addr) (t5 : Addr) (k10 : Int) : ev Try.prog 35 Try.f35.results.toList C_signalboxref07_task D_signalboxref07_task 400 true (todoOf Try.f35 13) (T_signalboxref07_task_13 i1 c3 t5 k10) = B_signalboxref07_task_13 i1 c3 t5 k10 := by kernel_rfl
theorem S_signalboxref07_task_13 (i1 : Int) (c3 : Addr) (t5 : Addr) (k10 : Int) {h : Hp} {Q : Value → Hp → Prop} (hb : B_signalboxref07_task_13 i1 c3 t5 k10 h Q) : K_signalboxref07_task_13 i1 c3 t5 k10 h Q :=
  Cut.of_ev Try.func35 mixed C_signalboxref07_task D_signalboxref07_task 400 (by rw [E_signalboxref07_task_13]; exact hb)
def C_signalboxref07_Check : List (Nat × List Nat) := [(11, [1, 102, 103, 104])]
def D_signalboxref07_Check : List (Nat × List Nat) := []
def T_signalboxref07_Check_11 (c1 : Addr) (t102 : Sl) (t103 : Int) (t104 : Int) : Env := mkEnv [(1, .pointer (some c1)), (102, .slice t102.p t102.n t102.c), (103, .int .i64 t103), (104, .int .i64 t104)] 117 0
def K_signalboxref07_Check_11 (c1 : Addr) (t102 : Sl) (t103 : Int) (t104 : Int) : M Value := Cut Try.prog 16 (todoOf Try.f16 11) (T_signalboxref07_Check_11 c1 t102 t103 t104)
def B_signalboxref07_Check (c0_0 : Int) (c0_1 : Int) (c0_2 : Int) (c0_3 : Int) (c0_4 : Sl) (c0_5 : Int) (c0_6 : Sl) (c0_7 : Sl) (c0_8 : Sl) (c0_9 : Sl) : M Value :=
  mNew #[.int .i64 c0_0, .int .i64 c0_1, .int .i64 c0_2, .int .i64 c0_3, .slice c0_4.p c0_4.n c0_4.c, .int .i64 c0_5, .slice c0_6.p c0_6.n c0_6.c, .slice c0_7.p c0_7.n c0_7.c, .slice c0_8.p c0_8.n c0_8.c, .slice c0_9.p c0_9.n c0_9.c] 34 fun (x1 : Addr) =>
  mLdI .i64 x1 fun (x8_0 : Int) =>
  mLdI .i64 (x1.add 1) fun (x8_1 : Int) =>
  mLdI .i64 (x1.add 2) fun (x8_2 : Int) =>
  mLdI .i64 (x1.add 3) fun (x8_3 : Int) =>
  mNew #[.int .i64 (0 : Int), .int .i64 (0 : Int), .int .i64 (0 : Int), .int .i64 (0 : Int)] 30 fun (x3 : Addr) =>
  mSt x3 (.int .i64 x8_0) <|
  mSt (x3.add 1) (.int .i64 x8_1) <|
  mSt (x3.add 2) (.int .i64 x8_2) <|
  mSt (x3.add 3) (.int .i64 x8_3) <|
  mLdI .i64 x3 fun (x10 : Int) =>
  mBind (N_signalboxref07_in x10 (1 : Int) (16 : Int)) fun r11 =>
  unB r11 fun (x11 : Bool) =>
  mBind (mIf (!x11) (mRet true) (mLdI .i64 (x3.add 1) fun (x15 : Int) =>
    mBind (N_signalboxref07_in x15 (1 : Int) (4 : Int)) fun r16 =>
    unB r16 fun (x16 : Bool) =>
    mRet (!x16))) fun (b12 : Bool) =>
  mBind (mIf b12 (mRet true) (mLdI .i64 (x3.add 2) fun (x21 : Int) =>
    mBind (N_signalboxref07_in x21 (1 : Int) (100 : Int)) fun r22 =>
    unB r22 fun (x22 : Bool) =>
    mRet (!x22))) fun (b16 : Bool) =>
  mBind (mIf b16 (mRet true) (mLdI .i64 (x3.add 3) fun (x27 : Int) =>
    mLdI .i64 (x3.add 2) fun (x29 : Int) =>
    mBind (N_signalboxref07_in x27 x29 (100 : Int)) fun r30 =>
    unB r30 fun (x30 : Bool) =>
    mRet (!x30))) fun (b22 : Bool) =>
  mIf b22 (
    mRet (.int .i64 (5 : Int))) (
    mLdL (x1.add 4) fun (x34 : Sl) =>
    mBind (mIf (decide ((x34.n : Int) > (4 : Int))) (mRet true) (mLdI .i64 (x1.add 5) fun (x39 : Int) =>
      mRet (decide (x39 > (4 : Int))))) fun (b27 : Bool) =>
    mBind (mIf b27 (mRet true) (mLdL (x1.add 6) fun (x44 : Sl) =>
      mRet (decide ((x44.n : Int) > (4 : Int))))) fun (b30 : Bool) =>
    mBind (mIf b30 (mRet true) (mLdL (x1.add 7) fun (x50 : Sl) =>
      mRet (decide ((x50.n : Int) > (4 : Int))))) fun (b33 : Bool) =>
    mBind (mIf b33 (mRet true) (mLdL (x1.add 8) fun (x56 : Sl) =>
      mRet (decide ((x56.n : Int) > (8 : Int))))) fun (b36 : Bool) =>
    mBind (mIf b36 (mRet true) (mLdL (x1.add 9) fun (x62 : Sl) =>
      mRet (decide ((x62.n : Int) > (8 : Int))))) fun (b39 : Bool) =>
    mIf b39 (
      mRet (.int .i64 (4 : Int))) (
      mLdL (x1.add 8) fun (x67 : Sl) =>
      mBind (mIf ((x67.n : Int) == (0 : Int)) (mRet true) (mLdI .i64 (x1.add 5) fun (x72 : Int) =>
        mRet (decide (x72 < (0 : Int))))) fun (b44 : Bool) =>
      mIf b44 (
        mRet (.int .i64 (1 : Int))) (
        mLdL (x1.add 4) fun (x76 : Sl) =>
        mBind (N_signalboxref07_all x76 (1 : Int) (8 : Int)) fun r77 =>
        unB r77 fun (x77 : Bool) =>
        mBind (mIf (!x77) (mRet true) (mLdL (x1.add 6) fun (x81 : Sl) =>
          mBind (N_signalboxref07_all x81 (1 : Int) (8 : Int)) fun r82 =>
          unB r82 fun (x82 : Bool) =>
          mRet (!x82))) fun (b51 : Bool) =>
        mBind (mIf b51 (mRet true) (mLdL (x1.add 7) fun (x87 : Sl) =>
          mBind (N_signalboxref07_all x87 (0 : Int) (63 : Int)) fun r88 =>
          unB r88 fun (x88 : Bool) =>
          mRet (!x88))) fun (b55 : Bool) =>
        mBind (mIf b55 (mRet true) (mLdL (x1.add 9) fun (x93 : Sl) =>
          mLdL (x1.add 8) fun (x95 : Sl) =>
          mBind (N_signalboxref07_all x93 (0 : Int) (IntKind.i64.wrap ((x95.n : Int) - (1 : Int)))) fun r98 =>
          unB r98 fun (x98 : Bool) =>
          mRet (!x98))) fun (b61 : Bool) =>
        mIf b61 (
          mRet (.int .i64 (5 : Int))) (
          mLdL (x1.add 8) fun (x102 : Sl) =>
          K_signalboxref07_Check_11 x1 x102 (x102.n : Int) (0 : Int)))))
def B_signalboxref07_Check_11 (c1 : Addr) (t102 : Sl) (t103 : Int) (t104 : Int) : M Value :=
  mIf (decide (t104 < t103)) (
    mIdx t102 t104 7 fun (x107 : Addr) =>
    mLdI .i64 x107 fun (x108_0 : Int) =>
    mLdI .i64 (x107.add 1) fun (x108_1 : Int) =>
    mLdI .i64 (x107.add 2) fun (x108_2 : Int) =>
    mLdI .i64 (x107.add 3) fun (x108_3 : Int) =>
    mLdI .i64 (x107.add 4) fun (x108_4 : Int) =>
    mLdI .i64 (x107.add 5) fun (x108_5 : Int) =>
    mLdL (x107.add 6) fun (x108_6 : Sl) =>
    mNew #[.int .i64 (0 : Int), .int .i64 (0 : Int), .int .i64 (0 : Int), .int .i64 (0 : Int), .int .i64 (0 : Int), .int .i64 (0 : Int), .slice none (0) (0)] 67 fun (x5 : Addr) =>
    mSt x5 (.int .i64 x108_0) <|
    mSt (x5.add 1) (.int .i64 x108_1) <|
    mSt (x5.add 2) (.int .i64 x108_2) <|
    mSt (x5.add 3) (.int .i64 x108_3) <|
    mSt (x5.add 4) (.int .i64 x108_4) <|
    mSt (x5.add 5) (.int .i64 x108_5) <|
    mSt (x5.add 6) (.slice x108_6.p x108_6.n x108_6.c) <|
    mLdI .i64 c1 fun (x109_0 : Int) =>
    mLdI .i64 (c1.add 1) fun (x109_1 : Int) =>
    mLdI .i64 (c1.add 2) fun (x109_2 : Int) =>
    mLdI .i64 (c1.add 3) fun (x109_3 : Int) =>
    mLdL (c1.add 4) fun (x109_4 : Sl) =>
    mLdI .i64 (c1.add 5) fun (x109_5 : Int) =>
    mLdL (c1.add 6) fun (x109_6 : Sl) =>
    mLdL (c1.add 7) fun (x109_7 : Sl) =>
    mLdL (c1.add 8) fun (x109_8 : Sl) =>
    mLdL (c1.add 9) fun (x109_9 : Sl) =>
    mLdI .i64 x5 fun (x111_0 : Int) =>
    mLdI .i64 (x5.add 1) fun (x111_1 : Int) =>
    mLdI .i64 (x5.add 2) fun (x111_2 : Int) =>
    mLdI .i64 (x5.add 3) fun (x111_3 : Int) =>
    mLdI .i64 (x5.add 4) fun (x111_4 : Int) =>
    mLdI .i64 (x5.add 5) fun (x111_5 : Int) =>
    mLdL (x5.add 6) fun (x111_6 : Sl) =>
    mBind (N_signalboxref07_task x109_0 x109_1 x109_2 x109_3 x109_4 x109_5 x109_6 x109_7 x109_8 x109_9 t104 x111_0 x111_1 x111_2 x111_3 x111_4 x111_5 x111_6) fun r112 =>
    unI .i64 r112 fun (x112 : Int) =>
    mIf (x112 != (0 : Int)) (
      mRet (.int .i64 x112)) (
      K_signalboxref07_Check_11 c1 t102 t103 (IntKind.i64.wrap (t104 + (1 : Int))))) (
    mRet (.int .i64 (0 : Int)))
theorem E_signalboxref07_Check (c0_0 : Int) (c0_1 : Int) (c0_2 : Int) (c0_3 : Int) (c0_4 : Sl) (c0_5 : Int) (c0_6 : Sl) (c0_7 : Sl) (c0_8 : Sl) (c0_9 : Sl) : ev Try.prog 16 Try.f16.results.toList C_signalboxref07_Check D_signalboxref07_Check 400 false [.code (bodyOf Try.f16)] (List.map some [.agg #[.int .i64 c0_0, .int .i64 c0_1, .int .i64 c0_2, .int .i64 c0_3, .slice c0_4.p c0_4.n c0_4.c, .int .i64 c0_5, .slice c0_6.p c0_6.n c0_6.c, .slice c0_7.p c0_7.n c0_7.c, .slice c0_8.p c0_8.n c0_8.c, .slice c0_9.p c0_9.n c0_9.c]] ++ List.replicate (Try.f16.ntmps - List.length ([.agg #[.int .i64 c0_0, .int .i64 c0_1, .int .i64 c0_2, .int .i64 c0_3, .slice c0_4.p c0_4.n c0_4.c, .int .i64 c0_5, .slice c0_6.p c0_6.n c0_6.c, .slice c0_7.p c0_7.n c0_7.c, .slice c0_8.p c0_8.n c0_8.c, .slice c0_9.p c0_9.n c0_9.c]] : List Value)) none) = B_signalboxref07_Check c0_0 c0_1 c0_2 c0_3 c0_4 c0_5 c0_6 c0_7 c0_8 c0_9 := by kernel_rfl
theorem S_signalboxref07_Check (c0_0 : Int) (c0_1 : Int) (c0_2 : Int) (c0_3 : Int) (c0_4 : Sl) (c0_5 : Int) (c0_6 : Sl) (c0_7 : Sl) (c0_8 : Sl) (c0_9 : Sl) {h : Hp} {Q : Value → Hp → Prop} (hb : B_signalboxref07_Check c0_0 c0_1 c0_2 c0_3 c0_4 c0_5 c0_6 c0_7 c0_8 c0_9 h Q) : N_signalboxref07_Check c0_0 c0_1 c0_2 c0_3 c0_4 c0_5 c0_6 c0_7 c0_8 c0_9 h Q :=
  Nf.of_ev Try.call16 Try.func16 (c := bodyOf Try.f16) rfl mixed C_signalboxref07_Check D_signalboxref07_Check 400 (args := [.agg #[.int .i64 c0_0, .int .i64 c0_1, .int .i64 c0_2, .int .i64 c0_3, .slice c0_4.p c0_4.n c0_4.c, .int .i64 c0_5, .slice c0_6.p c0_6.n c0_6.c, .slice c0_7.p c0_7.n c0_7.c, .slice c0_8.p c0_8.n c0_8.c, .slice c0_9.p c0_9.n c0_9.c]]) (by rw [E_signalboxref07_Check]; exact hb)
theorem E_signalboxref07_Check_11 (c1 : Addr) (t102 : Sl) (t103 : Int) (t104 : Int) : ev Try.prog 16 Try.f16.results.toList C_signalboxref07_Check D_signalboxref07_Check 400 true (todoOf Try.f16 11) (T_signalboxref07_Check_11 c1 t102 t103 t104) = B_signalboxref07_Check_11 c1 t102 t103 t104 := by kernel_rfl
theorem S_signalboxref07_Check_11 (c1 : Addr) (t102 : Sl) (t103 : Int) (t104 : Int) {h : Hp} {Q : Value → Hp → Prop} (hb : B_signalboxref07_Check_11 c1 t102 t103 t104 h Q) : K_signalboxref07_Check_11 c1 t102 t103 t104 h Q :=
  Cut.of_ev Try.func16 mixed C_signalboxref07_Check D_signalboxref07_Check 400 (by rw [E_signalboxref07_Check_11]; exact hb)
def C_conf_Check : List (Nat × List Nat) := [(13, [1, 76, 77, 78])]
def D_conf_Check : List (Nat × List Nat) := [(15, [])]
def T_conf_Check_13 (c1 : Addr) (t76 : Sl) (t77 : Int) (t78 : Int) : Env := mkEnv [(1, .pointer (some c1)), (76, .slice t76.p t76.n t76.c), (77, .int .i64 t77), (78, .int .i64 t78)] 94 0
def K_conf_Check_13 (c1 : Addr) (t76 : Sl) (t77 : Int) (t78 : Int) : M Value := Cut Try.prog 29 (todoOf Try.f29 13) (T_conf_Check_13 c1 t76 t77 t78)
def B_conf_Check (c0_0 : Int) (c0_1 : Int) (c0_2 : Int) (c0_3 : Int) (c0_4 : Sl) (c0_5 : Int) (c0_6 : Sl) (c0_7 : Sl) (c0_8 : Sl) (c0_9 : Sl) : M Value :=
  mNew #[.int .i64 c0_0, .int .i64 c0_1, .int .i64 c0_2, .int .i64 c0_3, .slice c0_4.p c0_4.n c0_4.c, .int .i64 c0_5, .slice c0_6.p c0_6.n c0_6.c, .slice c0_7.p c0_7.n c0_7.c, .slice c0_8.p c0_8.n c0_8.c, .slice c0_9.p c0_9.n c0_9.c] 34 fun (x1 : Addr) =>
  mLdL (x1.add 4) fun (x8 : Sl) =>
  mLdI .i64 (x1.add 5) fun (x11 : Int) =>
  mLdL (x1.add 6) fun (x13 : Sl) =>
  mLdL (x1.add 7) fun (x16 : Sl) =>
  mLdI .i64 x1 fun (x21_0 : Int) =>
  mLdI .i64 (x1.add 1) fun (x21_1 : Int) =>
  mLdI .i64 (x1.add 2) fun (x21_2 : Int) =>
  mLdI .i64 (x1.add 3) fun (x21_3 : Int) =>
  mBind (N_conf_machine x21_0 x21_1 x21_2 x21_3) fun r22 =>
  unB r22 fun (x22 : Bool) =>
  mIf (!x22) (
    mRet (.int .i64 (5 : Int))) (
    mBind (mIf (decide ((if (x16.n : Int) > (if (x13.n : Int) > (if x11 > (x8.n : Int) then x11 else (x8.n : Int)) then (x13.n : Int) else (if x11 > (x8.n : Int) then x11 else (x8.n : Int))) then (x16.n : Int) else (if (x13.n : Int) > (if x11 > (x8.n : Int) then x11 else (x8.n : Int)) then (x13.n : Int) else (if x11 > (x8.n : Int) then x11 else (x8.n : Int)))) > (4 : Int))) (mRet true) (mLdL (x1.add 8) fun (x29 : Sl) =>
      mRet (decide ((x29.n : Int) > (8 : Int))))) fun (b15 : Bool) =>
    mBind (mIf b15 (mRet true) (mLdL (x1.add 9) fun (x35 : Sl) =>
      mRet (decide ((x35.n : Int) > (8 : Int))))) fun (b18 : Bool) =>
    mIf b18 (
      mRet (.int .i64 (4 : Int))) (
      mLdL (x1.add 8) fun (x41 : Sl) =>
      mBind (mIf ((x41.n : Int) == (0 : Int)) (mRet true) (mLdI .i64 (x1.add 5) fun (x46 : Int) =>
        mRet (decide (x46 < (0 : Int))))) fun (b23 : Bool) =>
      mIf b23 (
        mRet (.int .i64 (1 : Int))) (
        mLdL (x1.add 4) fun (x51 : Sl) =>
        mBind (N_conf_within (1 : Int) (8 : Int) x51) fun r52 =>
        unB r52 fun (x52 : Bool) =>
        mBind (mIf (!x52) (mRet true) (mLdL (x1.add 6) fun (x56 : Sl) =>
          mBind (N_conf_within (1 : Int) (8 : Int) x56) fun r57 =>
          unB r57 fun (x57 : Bool) =>
          mRet (!x57))) fun (b30 : Bool) =>
        mIf b30 (
          mRet (.int .i64 (5 : Int))) (
          mLdL (x1.add 7) fun (x62 : Sl) =>
          mBind (N_conf_within (0 : Int) (63 : Int) x62) fun r63 =>
          unB r63 fun (x63 : Bool) =>
          mBind (mIf (!x63) (mRet true) (mLdL (x1.add 8) fun (x67 : Sl) =>
            mLdL (x1.add 9) fun (x71 : Sl) =>
            mBind (N_conf_within (0 : Int) (IntKind.i64.wrap ((x67.n : Int) - (1 : Int))) x71) fun r72 =>
            unB r72 fun (x72 : Bool) =>
            mRet (!x72))) fun (b39 : Bool) =>
          mIf b39 (
            mRet (.int .i64 (5 : Int))) (
            mLdL (x1.add 8) fun (x76 : Sl) =>
            K_conf_Check_13 x1 x76 (x76.n : Int) (0 : Int))))))
def B_conf_Check_13 (c1 : Addr) (t76 : Sl) (t77 : Int) (t78 : Int) : M Value :=
  mIf (decide (t78 < t77)) (
    mIdx t76 t78 7 fun (x81 : Addr) =>
    mLdI .i64 x81 fun (x82_0 : Int) =>
    mLdI .i64 (x81.add 1) fun (x82_1 : Int) =>
    mLdI .i64 (x81.add 2) fun (x82_2 : Int) =>
    mLdI .i64 (x81.add 3) fun (x82_3 : Int) =>
    mLdI .i64 (x81.add 4) fun (x82_4 : Int) =>
    mLdI .i64 (x81.add 5) fun (x82_5 : Int) =>
    mLdL (x81.add 6) fun (x82_6 : Sl) =>
    mNew #[.int .i64 (0 : Int), .int .i64 (0 : Int), .int .i64 (0 : Int), .int .i64 (0 : Int), .int .i64 (0 : Int), .int .i64 (0 : Int), .slice none (0) (0)] 67 fun (x5 : Addr) =>
    mSt x5 (.int .i64 x82_0) <|
    mSt (x5.add 1) (.int .i64 x82_1) <|
    mSt (x5.add 2) (.int .i64 x82_2) <|
    mSt (x5.add 3) (.int .i64 x82_3) <|
    mSt (x5.add 4) (.int .i64 x82_4) <|
    mSt (x5.add 5) (.int .i64 x82_5) <|
    mSt (x5.add 6) (.slice x82_6.p x82_6.n x82_6.c) <|
    mAnd (
      mLdI .i64 c1 fun (x83_64_0 : Int) =>
      mLdI .i64 (c1.add 1) fun (x83_64_1 : Int) =>
      mLdI .i64 (c1.add 2) fun (x83_64_2 : Int) =>
      mLdI .i64 (c1.add 3) fun (x83_64_3 : Int) =>
      mLdL (c1.add 4) fun (x83_64_4 : Sl) =>
      mLdI .i64 (c1.add 5) fun (x83_64_5 : Int) =>
      mLdL (c1.add 6) fun (x83_64_6 : Sl) =>
      mLdL (c1.add 7) fun (x83_64_7 : Sl) =>
      mLdL (c1.add 8) fun (x83_64_8 : Sl) =>
      mLdL (c1.add 9) fun (x83_64_9 : Sl) =>
      mAnd (
        mLdI .i64 x5 fun (x84_69_0 : Int) =>
        mLdI .i64 (x5.add 1) fun (x84_69_1 : Int) =>
        mLdI .i64 (x5.add 2) fun (x84_69_2 : Int) =>
        mLdI .i64 (x5.add 3) fun (x84_69_3 : Int) =>
        mLdI .i64 (x5.add 4) fun (x84_69_4 : Int) =>
        mLdI .i64 (x5.add 5) fun (x84_69_5 : Int) =>
        mLdL (x5.add 6) fun (x84_69_6 : Sl) =>
        mLdL (c1.add 8) fun (x86_70 : Sl) =>
        mSlc x86_70 7 (0 : Int) t78 (x86_70.c : Int) fun (x88_71 : Sl) =>
        mBind (N_conf_task x83_64_0 x83_64_1 x83_64_2 x83_64_3 x83_64_4 x83_64_5 x83_64_6 x83_64_7 x83_64_8 x83_64_9 x84_69_0 x84_69_1 x84_69_2 x84_69_3 x84_69_4 x84_69_5 x84_69_6 x88_71) fun r89_72 =>
        unI .i64 r89_72 fun (x89_72 : Int) =>
        mIf (x89_72 != (0 : Int)) (
          mRet (.int .i64 x89_72)) (
          K_conf_Check_13 c1 t76 t77 (IntKind.i64.wrap (t78 + (1 : Int))))) (
        mLdL (c1.add 8) fun (x86_65 : Sl) =>
        mSlc x86_65 7 (0 : Int) t78 (x86_65.c : Int) fun (x88_66 : Sl) =>
        mLdI .i64 x5 fun (x84_67_0 : Int) =>
        mLdI .i64 (x5.add 1) fun (x84_67_1 : Int) =>
        mLdI .i64 (x5.add 2) fun (x84_67_2 : Int) =>
        mLdI .i64 (x5.add 3) fun (x84_67_3 : Int) =>
        mLdI .i64 (x5.add 4) fun (x84_67_4 : Int) =>
        mLdI .i64 (x5.add 5) fun (x84_67_5 : Int) =>
        mLdL (x5.add 6) fun (x84_67_6 : Sl) =>
        mBind (N_conf_task x83_64_0 x83_64_1 x83_64_2 x83_64_3 x83_64_4 x83_64_5 x83_64_6 x83_64_7 x83_64_8 x83_64_9 x84_67_0 x84_67_1 x84_67_2 x84_67_3 x84_67_4 x84_67_5 x84_67_6 x88_66) fun r89_68 =>
        unI .i64 r89_68 fun (x89_68 : Int) =>
        mIf (x89_68 != (0 : Int)) (
          mRet (.int .i64 x89_68)) (
          K_conf_Check_13 c1 t76 t77 (IntKind.i64.wrap (t78 + (1 : Int)))))) (
      mAnd (
        mLdI .i64 x5 fun (x84_55_0 : Int) =>
        mLdI .i64 (x5.add 1) fun (x84_55_1 : Int) =>
        mLdI .i64 (x5.add 2) fun (x84_55_2 : Int) =>
        mLdI .i64 (x5.add 3) fun (x84_55_3 : Int) =>
        mLdI .i64 (x5.add 4) fun (x84_55_4 : Int) =>
        mLdI .i64 (x5.add 5) fun (x84_55_5 : Int) =>
        mLdL (x5.add 6) fun (x84_55_6 : Sl) =>
        mAnd (
          mLdI .i64 c1 fun (x83_60_0 : Int) =>
          mLdI .i64 (c1.add 1) fun (x83_60_1 : Int) =>
          mLdI .i64 (c1.add 2) fun (x83_60_2 : Int) =>
          mLdI .i64 (c1.add 3) fun (x83_60_3 : Int) =>
          mLdL (c1.add 4) fun (x83_60_4 : Sl) =>
          mLdI .i64 (c1.add 5) fun (x83_60_5 : Int) =>
          mLdL (c1.add 6) fun (x83_60_6 : Sl) =>
          mLdL (c1.add 7) fun (x83_60_7 : Sl) =>
          mLdL (c1.add 8) fun (x83_60_8 : Sl) =>
          mLdL (c1.add 9) fun (x83_60_9 : Sl) =>
          mLdL (c1.add 8) fun (x86_61 : Sl) =>
          mSlc x86_61 7 (0 : Int) t78 (x86_61.c : Int) fun (x88_62 : Sl) =>
          mBind (N_conf_task x83_60_0 x83_60_1 x83_60_2 x83_60_3 x83_60_4 x83_60_5 x83_60_6 x83_60_7 x83_60_8 x83_60_9 x84_55_0 x84_55_1 x84_55_2 x84_55_3 x84_55_4 x84_55_5 x84_55_6 x88_62) fun r89_63 =>
          unI .i64 r89_63 fun (x89_63 : Int) =>
          mIf (x89_63 != (0 : Int)) (
            mRet (.int .i64 x89_63)) (
            K_conf_Check_13 c1 t76 t77 (IntKind.i64.wrap (t78 + (1 : Int))))) (
          mLdL (c1.add 8) fun (x86_56 : Sl) =>
          mSlc x86_56 7 (0 : Int) t78 (x86_56.c : Int) fun (x88_57 : Sl) =>
          mLdI .i64 c1 fun (x83_58_0 : Int) =>
          mLdI .i64 (c1.add 1) fun (x83_58_1 : Int) =>
          mLdI .i64 (c1.add 2) fun (x83_58_2 : Int) =>
          mLdI .i64 (c1.add 3) fun (x83_58_3 : Int) =>
          mLdL (c1.add 4) fun (x83_58_4 : Sl) =>
          mLdI .i64 (c1.add 5) fun (x83_58_5 : Int) =>
          mLdL (c1.add 6) fun (x83_58_6 : Sl) =>
          mLdL (c1.add 7) fun (x83_58_7 : Sl) =>
          mLdL (c1.add 8) fun (x83_58_8 : Sl) =>
          mLdL (c1.add 9) fun (x83_58_9 : Sl) =>
          mBind (N_conf_task x83_58_0 x83_58_1 x83_58_2 x83_58_3 x83_58_4 x83_58_5 x83_58_6 x83_58_7 x83_58_8 x83_58_9 x84_55_0 x84_55_1 x84_55_2 x84_55_3 x84_55_4 x84_55_5 x84_55_6 x88_57) fun r89_59 =>
          unI .i64 r89_59 fun (x89_59 : Int) =>
          mIf (x89_59 != (0 : Int)) (
            mRet (.int .i64 x89_59)) (
            K_conf_Check_13 c1 t76 t77 (IntKind.i64.wrap (t78 + (1 : Int)))))) (
        mLdL (c1.add 8) fun (x86 : Sl) =>
        mSlc x86 7 (0 : Int) t78 (x86.c : Int) fun (x88 : Sl) =>
        mAnd (
          mLdI .i64 c1 fun (x83_52_0 : Int) =>
          mLdI .i64 (c1.add 1) fun (x83_52_1 : Int) =>
          mLdI .i64 (c1.add 2) fun (x83_52_2 : Int) =>
          mLdI .i64 (c1.add 3) fun (x83_52_3 : Int) =>
          mLdL (c1.add 4) fun (x83_52_4 : Sl) =>
          mLdI .i64 (c1.add 5) fun (x83_52_5 : Int) =>
          mLdL (c1.add 6) fun (x83_52_6 : Sl) =>
          mLdL (c1.add 7) fun (x83_52_7 : Sl) =>
          mLdL (c1.add 8) fun (x83_52_8 : Sl) =>
          mLdL (c1.add 9) fun (x83_52_9 : Sl) =>
          mLdI .i64 x5 fun (x84_53_0 : Int) =>
          mLdI .i64 (x5.add 1) fun (x84_53_1 : Int) =>
          mLdI .i64 (x5.add 2) fun (x84_53_2 : Int) =>
          mLdI .i64 (x5.add 3) fun (x84_53_3 : Int) =>
          mLdI .i64 (x5.add 4) fun (x84_53_4 : Int) =>
          mLdI .i64 (x5.add 5) fun (x84_53_5 : Int) =>
          mLdL (x5.add 6) fun (x84_53_6 : Sl) =>
          mBind (N_conf_task x83_52_0 x83_52_1 x83_52_2 x83_52_3 x83_52_4 x83_52_5 x83_52_6 x83_52_7 x83_52_8 x83_52_9 x84_53_0 x84_53_1 x84_53_2 x84_53_3 x84_53_4 x84_53_5 x84_53_6 x88) fun r89_54 =>
          unI .i64 r89_54 fun (x89_54 : Int) =>
          mIf (x89_54 != (0 : Int)) (
            mRet (.int .i64 x89_54)) (
            K_conf_Check_13 c1 t76 t77 (IntKind.i64.wrap (t78 + (1 : Int))))) (
          mLdI .i64 x5 fun (x84_0 : Int) =>
          mLdI .i64 (x5.add 1) fun (x84_1 : Int) =>
          mLdI .i64 (x5.add 2) fun (x84_2 : Int) =>
          mLdI .i64 (x5.add 3) fun (x84_3 : Int) =>
          mLdI .i64 (x5.add 4) fun (x84_4 : Int) =>
          mLdI .i64 (x5.add 5) fun (x84_5 : Int) =>
          mLdL (x5.add 6) fun (x84_6 : Sl) =>
          mLdI .i64 c1 fun (x83_0 : Int) =>
          mLdI .i64 (c1.add 1) fun (x83_1 : Int) =>
          mLdI .i64 (c1.add 2) fun (x83_2 : Int) =>
          mLdI .i64 (c1.add 3) fun (x83_3 : Int) =>
          mLdL (c1.add 4) fun (x83_4 : Sl) =>
          mLdI .i64 (c1.add 5) fun (x83_5 : Int) =>
          mLdL (c1.add 6) fun (x83_6 : Sl) =>
          mLdL (c1.add 7) fun (x83_7 : Sl) =>
          mLdL (c1.add 8) fun (x83_8 : Sl) =>
          mLdL (c1.add 9) fun (x83_9 : Sl) =>
          mBind (N_conf_task x83_0 x83_1 x83_2 x83_3 x83_4 x83_5 x83_6 x83_7 x83_8 x83_9 x84_0 x84_1 x84_2 x84_3 x84_4 x84_5 x84_6 x88) fun r89 =>
          unI .i64 r89 fun (x89 : Int) =>
          mIf (x89 != (0 : Int)) (
            mRet (.int .i64 x89)) (
            K_conf_Check_13 c1 t76 t77 (IntKind.i64.wrap (t78 + (1 : Int)))))))) (
    mRet (.int .i64 (0 : Int)))
theorem E_conf_Check (c0_0 : Int) (c0_1 : Int) (c0_2 : Int) (c0_3 : Int) (c0_4 : Sl) (c0_5 : Int) (c0_6 : Sl) (c0_7 : Sl) (c0_8 : Sl) (c0_9 : Sl) : ev Try.prog 29 Try.f29.results.toList C_conf_Check D_conf_Check 400 false [.code (bodyOf Try.f29)] (List.map some [.agg #[.int .i64 c0_0, .int .i64 c0_1, .int .i64 c0_2, .int .i64 c0_3, .slice c0_4.p c0_4.n c0_4.c, .int .i64 c0_5, .slice c0_6.p c0_6.n c0_6.c, .slice c0_7.p c0_7.n c0_7.c, .slice c0_8.p c0_8.n c0_8.c, .slice c0_9.p c0_9.n c0_9.c]] ++ List.replicate (Try.f29.ntmps - List.length ([.agg #[.int .i64 c0_0, .int .i64 c0_1, .int .i64 c0_2, .int .i64 c0_3, .slice c0_4.p c0_4.n c0_4.c, .int .i64 c0_5, .slice c0_6.p c0_6.n c0_6.c, .slice c0_7.p c0_7.n c0_7.c, .slice c0_8.p c0_8.n c0_8.c, .slice c0_9.p c0_9.n c0_9.c]] : List Value)) none) = B_conf_Check c0_0 c0_1 c0_2 c0_3 c0_4 c0_5 c0_6 c0_7 c0_8 c0_9 := by kernel_rfl
theorem S_conf_Check (c0_0 : Int) (c0_1 : Int) (c0_2 : Int) (c0_3 : Int) (c0_4 : Sl) (c0_5 : Int) (c0_6 : Sl) (c0_7 : Sl) (c0_8 : Sl) (c0_9 : Sl) {h : Hp} {Q : Value → Hp → Prop} (hb : B_conf_Check c0_0 c0_1 c0_2 c0_3 c0_4 c0_5 c0_6 c0_7 c0_8 c0_9 h Q) : N_conf_Check c0_0 c0_1 c0_2 c0_3 c0_4 c0_5 c0_6 c0_7 c0_8 c0_9 h Q :=
  Nf.of_ev Try.call29 Try.func29 (c := bodyOf Try.f29) rfl mixed C_conf_Check D_conf_Check 400 (args := [.agg #[.int .i64 c0_0, .int .i64 c0_1, .int .i64 c0_2, .int .i64 c0_3, .slice c0_4.p c0_4.n c0_4.c, .int .i64 c0_5, .slice c0_6.p c0_6.n c0_6.c, .slice c0_7.p c0_7.n c0_7.c, .slice c0_8.p c0_8.n c0_8.c, .slice c0_9.p c0_9.n c0_9.c]]) (by rw [E_conf_Check]; exact hb)
theorem E_conf_Check_13 (c1 : Addr) (t76 : Sl) (t77 : Int) (t78 : Int) : ev Try.prog 29 Try.f29.results.toList C_conf_Check D_conf_Check 400 true (todoOf Try.f29 13) (T_conf_Check_13 c1 t76 t77 t78) = B_conf_Check_13 c1 t76 t77 t78 := by kernel_rfl
theorem S_conf_Check_13 (c1 : Addr) (t76 : Sl) (t77 : Int) (t78 : Int) {h : Hp} {Q : Value → Hp → Prop} (hb : B_conf_Check_13 c1 t76 t77 t78 h Q) : K_conf_Check_13 c1 t76 t77 t78 h Q :=
  Cut.of_ev Try.func29 mixed C_conf_Check D_conf_Check 400 (by rw [E_conf_Check_13]; exact hb)
def C_conf_machine : List (Nat × List Nat) := []
def D_conf_machine : List (Nat × List Nat) := []
def B_conf_machine (m0_0 : Int) (m0_1 : Int) (m0_2 : Int) (m0_3 : Int) : M Value :=
  mNew #[.int .i64 m0_0, .int .i64 m0_1, .int .i64 m0_2, .int .i64 m0_3] 30 fun (x1 : Addr) =>
  mLdI .i64 x1 fun (x4 : Int) =>
  mNew #[.int .i64 x4] 3 fun (x5 : Addr) =>
  mBind (N_conf_within (1 : Int) (16 : Int) (Sl.mk (some x5) 1 1)) fun r6 =>
  unB r6 fun (x6 : Bool) =>
  mBind (mIf x6 (mLdI .i64 (x1.add 1) fun (x9 : Int) =>
    mNew #[.int .i64 x9] 3 fun (x10 : Addr) =>
    mBind (N_conf_within (1 : Int) (4 : Int) (Sl.mk (some x10) 1 1)) fun r11 =>
    unB r11 fun (x11 : Bool) =>
    mRet x11) (mRet false)) fun (b10 : Bool) =>
  mBind (mIf b10 (mLdI .i64 (x1.add 2) fun (x15 : Int) =>
    mNew #[.int .i64 x15] 3 fun (x16 : Addr) =>
    mBind (N_conf_within (1 : Int) (100 : Int) (Sl.mk (some x16) 1 1)) fun r17 =>
    unB r17 fun (x17 : Bool) =>
    mRet x17) (mRet false)) fun (b15 : Bool) =>
  mBind (mIf b15 (mLdI .i64 (x1.add 2) fun (x21 : Int) =>
    mLdI .i64 (x1.add 3) fun (x23 : Int) =>
    mNew #[.int .i64 x23] 3 fun (x24 : Addr) =>
    mBind (N_conf_within x21 (100 : Int) (Sl.mk (some x24) 1 1)) fun r25 =>
    unB r25 fun (x25 : Bool) =>
    mRet x25) (mRet false)) fun (b22 : Bool) =>
  mRet (.bool b22)
theorem E_conf_machine (m0_0 : Int) (m0_1 : Int) (m0_2 : Int) (m0_3 : Int) : ev Try.prog 54 Try.f54.results.toList C_conf_machine D_conf_machine 400 false [.code (bodyOf Try.f54)] (List.map some [.agg #[.int .i64 m0_0, .int .i64 m0_1, .int .i64 m0_2, .int .i64 m0_3]] ++ List.replicate (Try.f54.ntmps - List.length ([.agg #[.int .i64 m0_0, .int .i64 m0_1, .int .i64 m0_2, .int .i64 m0_3]] : List Value)) none) = B_conf_machine m0_0 m0_1 m0_2 m0_3 := by kernel_rfl
theorem S_conf_machine (m0_0 : Int) (m0_1 : Int) (m0_2 : Int) (m0_3 : Int) {h : Hp} {Q : Value → Hp → Prop} (hb : B_conf_machine m0_0 m0_1 m0_2 m0_3 h Q) : N_conf_machine m0_0 m0_1 m0_2 m0_3 h Q :=
  Nf.of_ev Try.call54 Try.func54 (c := bodyOf Try.f54) rfl mixed C_conf_machine D_conf_machine 400 (args := [.agg #[.int .i64 m0_0, .int .i64 m0_1, .int .i64 m0_2, .int .i64 m0_3]]) (by rw [E_conf_machine]; exact hb)
def C_conf_within : List (Nat × List Nat) := []
def D_conf_within : List (Nat × List Nat) := []
def B_conf_within (from0 : Int) (to1 : Int) (l2 : Sl) : M Value :=
  mNew #[.int .i64 from0] 3 fun (x3 : Addr) =>
  mNew #[.int .i64 to1] 3 fun (x4 : Addr) =>
  mBind (N_slices_ContainsFunc_int_int l2 (64) (#[]) (#[.pointer (some x3), .pointer (some x4)])) fun r9 =>
  unB r9 fun (x9 : Bool) =>
  mRet (.bool (!x9))
theorem E_conf_within (from0 : Int) (to1 : Int) (l2 : Sl) : ev Try.prog 55 Try.f55.results.toList C_conf_within D_conf_within 400 false [.code (bodyOf Try.f55)] (List.map some [.int .i64 from0, .int .i64 to1, .slice l2.p l2.n l2.c] ++ List.replicate (Try.f55.ntmps - List.length ([.int .i64 from0, .int .i64 to1, .slice l2.p l2.n l2.c] : List Value)) none) = B_conf_within from0 to1 l2 := by kernel_rfl
theorem S_conf_within (from0 : Int) (to1 : Int) (l2 : Sl) {h : Hp} {Q : Value → Hp → Prop} (hb : B_conf_within from0 to1 l2 h Q) : N_conf_within from0 to1 l2 h Q :=
  Nf.of_ev Try.call55 Try.func55 (c := bodyOf Try.f55) rfl mixed C_conf_within D_conf_within 400 (args := [.int .i64 from0, .int .i64 to1, .slice l2.p l2.n l2.c]) (by rw [E_conf_within]; exact hb)
def C_conf_task : List (Nat × List Nat) := [(5, [2, 3, 4, 8])]
def D_conf_task : List (Nat × List Nat) := [(4, [])]
def T_conf_task_5 (ahead2 : Sl) (c3 : Addr) (t4 : Addr) (e8 : Int) : Env := mkEnv [(2, .slice ahead2.p ahead2.n ahead2.c), (3, .pointer (some c3)), (4, .pointer (some t4)), (8, .int .i64 e8)] 66 0
def K_conf_task_5 (ahead2 : Sl) (c3 : Addr) (t4 : Addr) (e8 : Int) : M Value := Cut Try.prog 56 (todoOf Try.f56 5) (T_conf_task_5 ahead2 c3 t4 e8)
def B_conf_task (c0_0 : Int) (c0_1 : Int) (c0_2 : Int) (c0_3 : Int) (c0_4 : Sl) (c0_5 : Int) (c0_6 : Sl) (c0_7 : Sl) (c0_8 : Sl) (c0_9 : Sl) (t1_0 : Int) (t1_1 : Int) (t1_2 : Int) (t1_3 : Int) (t1_4 : Int) (t1_5 : Int) (t1_6 : Sl) (ahead2 : Sl) : M Value :=
  mNew #[.int .i64 c0_0, .int .i64 c0_1, .int .i64 c0_2, .int .i64 c0_3, .slice c0_4.p c0_4.n c0_4.c, .int .i64 c0_5, .slice c0_6.p c0_6.n c0_6.c, .slice c0_7.p c0_7.n c0_7.c, .slice c0_8.p c0_8.n c0_8.c, .slice c0_9.p c0_9.n c0_9.c] 34 fun (x3 : Addr) =>
  mNew #[.int .i64 t1_0, .int .i64 t1_1, .int .i64 t1_2, .int .i64 t1_3, .int .i64 t1_4, .int .i64 t1_5, .slice t1_6.p t1_6.n t1_6.c] 67 fun (x4 : Addr) =>
  mLdI .i64 x4 fun (x11 : Int) =>
  mNew #[.int .i64 x11] 3 fun (x12 : Addr) =>
  mBind (N_conf_within (0 : Int) (63 : Int) (Sl.mk (some x12) 1 1)) fun r13 =>
  unB r13 fun (x13 : Bool) =>
  mBind (mIf x13 (mLdI .i64 x4 fun (x16 : Int) =>
    mLdI .i64 (x4.add 1) fun (x18 : Int) =>
    mNew #[.int .i64 x18] 3 fun (x19 : Addr) =>
    mBind (N_conf_within x16 (63 : Int) (Sl.mk (some x19) 1 1)) fun r20 =>
    unB r20 fun (x20 : Bool) =>
    mRet x20) (mRet false)) fun (b13 : Bool) =>
  mBind (mIf b13 (mLdI .i64 (x4.add 2) fun (x24 : Int) =>
    mNew #[.int .i64 x24] 3 fun (x25 : Addr) =>
    mBind (N_conf_within (1 : Int) (1048576 : Int) (Sl.mk (some x25) 1 1)) fun r26 =>
    unB r26 fun (x26 : Bool) =>
    mRet x26) (mRet false)) fun (b18 : Bool) =>
  mBind (mIf b18 (mLdI .i64 (x4.add 2) fun (x30 : Int) =>
    mLdI .i64 (x4.add 3) fun (x32 : Int) =>
    mNew #[.int .i64 x32] 3 fun (x33 : Addr) =>
    mBind (N_conf_within (1 : Int) x30 (Sl.mk (some x33) 1 1)) fun r34 =>
    unB r34 fun (x34 : Bool) =>
    mRet x34) (mRet false)) fun (b25 : Bool) =>
  mBind (mIf b25 (mLdI .i64 (x4.add 4) fun (x38 : Int) =>
    mNew #[.int .i64 x38] 3 fun (x39 : Addr) =>
    mBind (N_conf_within (0 : Int) (4096 : Int) (Sl.mk (some x39) 1 1)) fun r40 =>
    unB r40 fun (x40 : Bool) =>
    mRet x40) (mRet false)) fun (b30 : Bool) =>
  mBind (mIf b30 (mLdI .i64 (x4.add 5) fun (x44 : Int) =>
    mNew #[.int .i64 x44] 3 fun (x45 : Addr) =>
    mBind (N_conf_within (0 : Int) (1048576 : Int) (Sl.mk (some x45) 1 1)) fun r46 =>
    unB r46 fun (x46 : Bool) =>
    mRet x46) (mRet false)) fun (b35 : Bool) =>
  mIf (!b35) (
    mRet (.int .i64 (5 : Int))) (
    mAnd (
      mLdL (x4.add 6) fun (x51_44 : Sl) =>
      mLdI .i64 x3 fun (x52_45_0 : Int) =>
      mLdI .i64 (x3.add 1) fun (x52_45_1 : Int) =>
      mLdI .i64 (x3.add 2) fun (x52_45_2 : Int) =>
      mLdI .i64 (x3.add 3) fun (x52_45_3 : Int) =>
      mLdL (x3.add 4) fun (x52_45_4 : Sl) =>
      mLdI .i64 (x3.add 5) fun (x52_45_5 : Int) =>
      mLdL (x3.add 6) fun (x52_45_6 : Sl) =>
      mLdL (x3.add 7) fun (x52_45_7 : Sl) =>
      mLdL (x3.add 8) fun (x52_45_8 : Sl) =>
      mLdL (x3.add 9) fun (x52_45_9 : Sl) =>
      mBind (N_conf_Room x52_45_0 x52_45_1 x52_45_2 x52_45_3 x52_45_4 x52_45_5 x52_45_6 x52_45_7 x52_45_8 x52_45_9) fun r53_46 =>
      unA r53_46 fun x53_46l =>
      unC x53_46l fun x53_46v0 x53_46l0 =>
      unI .i64 x53_46v0 fun (x53_46_0 : Int) =>
      unC x53_46l0 fun x53_46v1 x53_46l1 =>
      unI .i64 x53_46v1 fun (x53_46_1 : Int) =>
      unC x53_46l1 fun x53_46v2 x53_46l2 =>
      unI .i64 x53_46v2 fun (x53_46_2 : Int) =>
      unC x53_46l2 fun x53_46v3 x53_46l3 =>
      unI .i64 x53_46v3 fun (x53_46_3 : Int) =>
      unE x53_46l3 <|
      mBind (N_prog_Check x51_44 x53_46_0 x53_46_1 x53_46_2 x53_46_3) fun r54_47 =>
      unI .i64 r54_47 fun (x54_47 : Int) =>
      K_conf_task_5 ahead2 x3 x4 x54_47) (
      mLdI .i64 x3 fun (x52_0 : Int) =>
      mLdI .i64 (x3.add 1) fun (x52_1 : Int) =>
      mLdI .i64 (x3.add 2) fun (x52_2 : Int) =>
      mLdI .i64 (x3.add 3) fun (x52_3 : Int) =>
      mLdL (x3.add 4) fun (x52_4 : Sl) =>
      mLdI .i64 (x3.add 5) fun (x52_5 : Int) =>
      mLdL (x3.add 6) fun (x52_6 : Sl) =>
      mLdL (x3.add 7) fun (x52_7 : Sl) =>
      mLdL (x3.add 8) fun (x52_8 : Sl) =>
      mLdL (x3.add 9) fun (x52_9 : Sl) =>
      mAnd (
        mLdL (x4.add 6) fun (x51_41 : Sl) =>
        mBind (N_conf_Room x52_0 x52_1 x52_2 x52_3 x52_4 x52_5 x52_6 x52_7 x52_8 x52_9) fun r53_42 =>
        unA r53_42 fun x53_42l =>
        unC x53_42l fun x53_42v0 x53_42l0 =>
        unI .i64 x53_42v0 fun (x53_42_0 : Int) =>
        unC x53_42l0 fun x53_42v1 x53_42l1 =>
        unI .i64 x53_42v1 fun (x53_42_1 : Int) =>
        unC x53_42l1 fun x53_42v2 x53_42l2 =>
        unI .i64 x53_42v2 fun (x53_42_2 : Int) =>
        unC x53_42l2 fun x53_42v3 x53_42l3 =>
        unI .i64 x53_42v3 fun (x53_42_3 : Int) =>
        unE x53_42l3 <|
        mBind (N_prog_Check x51_41 x53_42_0 x53_42_1 x53_42_2 x53_42_3) fun r54_43 =>
        unI .i64 r54_43 fun (x54_43 : Int) =>
        K_conf_task_5 ahead2 x3 x4 x54_43) (
        mBind (N_conf_Room x52_0 x52_1 x52_2 x52_3 x52_4 x52_5 x52_6 x52_7 x52_8 x52_9) fun r53 =>
        unA r53 fun x53l =>
        unC x53l fun x53v0 x53l0 =>
        unI .i64 x53v0 fun (x53_0 : Int) =>
        unC x53l0 fun x53v1 x53l1 =>
        unI .i64 x53v1 fun (x53_1 : Int) =>
        unC x53l1 fun x53v2 x53l2 =>
        unI .i64 x53v2 fun (x53_2 : Int) =>
        unC x53l2 fun x53v3 x53l3 =>
        unI .i64 x53v3 fun (x53_3 : Int) =>
        unE x53l3 <|
        mLdL (x4.add 6) fun (x51 : Sl) =>
        mBind (N_prog_Check x51 x53_0 x53_1 x53_2 x53_3) fun r54 =>
        unI .i64 r54 fun (x54 : Int) =>
        K_conf_task_5 ahead2 x3 x4 x54)))
def B_conf_task_5 (ahead2 : Sl) (c3 : Addr) (t4 : Addr) (e8 : Int) : M Value :=
  mIf (e8 != (0 : Int)) (
    mRet (.int .i64 e8)) (
    mLdL (t4.add 6) fun (x60 : Sl) =>
    mBind (N_slices_ContainsFunc_api_Op_api_Op x60 (67) (#[]) (#[.pointer (some c3), .pointer (some t4)])) fun r62 =>
    unB r62 fun (x62 : Bool) =>
    mIf x62 (
      mRet (.int .i64 (9 : Int))) (
      mBind (N_slices_ContainsFunc_api_Task_api_Task ahead2 (70) (#[]) (#[.pointer (some t4)])) fun r65 =>
      unB r65 fun (x65 : Bool) =>
      mIf x65 (
        mRet (.int .i64 (10 : Int))) (
        mRet (.int .i64 (0 : Int)))))
theorem E_conf_task (c0_0 : Int) (c0_1 : Int) (c0_2 : Int) (c0_3 : Int) (c0_4 : Sl) (c0_5 : Int) (c0_6 : Sl) (c0_7 : Sl) (c0_8 : Sl) (c0_9 : Sl) (t1_0 : Int) (t1_1 : Int) (t1_2 : Int) (t1_3 : Int) (t1_4 : Int) (t1_5 : Int) (t1_6 : Sl) (ahead2 : Sl) : ev Try.prog 56 Try.f56.results.toList C_conf_task D_conf_task 400 false [.code (bodyOf Try.f56)] (List.map some [.agg #[.int .i64 c0_0, .int .i64 c0_1, .int .i64 c0_2, .int .i64 c0_3, .slice c0_4.p c0_4.n c0_4.c, .int .i64 c0_5, .slice c0_6.p c0_6.n c0_6.c, .slice c0_7.p c0_7.n c0_7.c, .slice c0_8.p c0_8.n c0_8.c, .slice c0_9.p c0_9.n c0_9.c], .agg #[.int .i64 t1_0, .int .i64 t1_1, .int .i64 t1_2, .int .i64 t1_3, .int .i64 t1_4, .int .i64 t1_5, .slice t1_6.p t1_6.n t1_6.c], .slice ahead2.p ahead2.n ahead2.c] ++ List.replicate (Try.f56.ntmps - List.length ([.agg #[.int .i64 c0_0, .int .i64 c0_1, .int .i64 c0_2, .int .i64 c0_3, .slice c0_4.p c0_4.n c0_4.c, .int .i64 c0_5, .slice c0_6.p c0_6.n c0_6.c, .slice c0_7.p c0_7.n c0_7.c, .slice c0_8.p c0_8.n c0_8.c, .slice c0_9.p c0_9.n c0_9.c], .agg #[.int .i64 t1_0, .int .i64 t1_1, .int .i64 t1_2, .int .i64 t1_3, .int .i64 t1_4, .int .i64 t1_5, .slice t1_6.p t1_6.n t1_6.c], .slice ahead2.p ahead2.n ahead2.c] : List Value)) none) = B_conf_task c0_0 c0_1 c0_2 c0_3 c0_4 c0_5 c0_6 c0_7 c0_8 c0_9 t1_0 t1_1 t1_2 t1_3 t1_4 t1_5 t1_6 ahead2 := by kernel_rfl
theorem S_conf_task (c0_0 : Int) (c0_1 : Int) (c0_2 : Int) (c0_3 : Int) (c0_4 : Sl) (c0_5 : Int) (c0_6 : Sl) (c0_7 : Sl) (c0_8 : Sl) (c0_9 : Sl) (t1_0 : Int) (t1_1 : Int) (t1_2 : Int) (t1_3 : Int) (t1_4 : Int) (t1_5 : Int) (t1_6 : Sl) (ahead2 : Sl) {h : Hp} {Q : Value → Hp → Prop} (hb : B_conf_task c0_0 c0_1 c0_2 c0_3 c0_4 c0_5 c0_6 c0_7 c0_8 c0_9 t1_0 t1_1 t1_2 t1_3 t1_4 t1_5 t1_6 ahead2 h Q) : N_conf_task c0_0 c0_1 c0_2 c0_3 c0_4 c0_5 c0_6 c0_7 c0_8 c0_9 t1_0 t1_1 t1_2 t1_3 t1_4 t1_5 t1_6 ahead2 h Q :=
  Nf.of_ev Try.call56 Try.func56 (c := bodyOf Try.f56) rfl mixed C_conf_task D_conf_task 400 (args := [.agg #[.int .i64 c0_0, .int .i64 c0_1, .int .i64 c0_2, .int .i64 c0_3, .slice c0_4.p c0_4.n c0_4.c, .int .i64 c0_5, .slice c0_6.p c0_6.n c0_6.c, .slice c0_7.p c0_7.n c0_7.c, .slice c0_8.p c0_8.n c0_8.c, .slice c0_9.p c0_9.n c0_9.c], .agg #[.int .i64 t1_0, .int .i64 t1_1, .int .i64 t1_2, .int .i64 t1_3, .int .i64 t1_4, .int .i64 t1_5, .slice t1_6.p t1_6.n t1_6.c], .slice ahead2.p ahead2.n ahead2.c]) (by rw [E_conf_task]; exact hb)
theorem E_conf_task_5 (ahead2 : Sl) (c3 : Addr) (t4 : Addr) (e8 : Int) : ev Try.prog 56 Try.f56.results.toList C_conf_task D_conf_task 400 true (todoOf Try.f56 5) (T_conf_task_5 ahead2 c3 t4 e8) = B_conf_task_5 ahead2 c3 t4 e8 := by kernel_rfl
theorem S_conf_task_5 (ahead2 : Sl) (c3 : Addr) (t4 : Addr) (e8 : Int) {h : Hp} {Q : Value → Hp → Prop} (hb : B_conf_task_5 ahead2 c3 t4 e8 h Q) : K_conf_task_5 ahead2 c3 t4 e8 h Q :=
  Cut.of_ev Try.func56 mixed C_conf_task D_conf_task 400 (by rw [E_conf_task_5]; exact hb)
def C_signalboxref06_Check : List (Nat × List Nat) := [(6, [0, 1, 2, 3, 4, 20, 21, 22])]
def D_signalboxref06_Check : List (Nat × List Nat) := []
def T_signalboxref06_Check_6 (l0 : Sl) (boxes1 : Int) (groups2 : Int) (counts3 : Int) (ceilings4 : Int) (t20 : Sl) (t21 : Int) (t22 : Int) : Env := mkEnv [(0, .slice l0.p l0.n l0.c), (1, .int .i64 boxes1), (2, .int .i64 groups2), (3, .int .i64 counts3), (4, .int .i64 ceilings4), (20, .slice t20.p t20.n t20.c), (21, .int .i64 t21), (22, .int .i64 t22)] 46 0
def K_signalboxref06_Check_6 (l0 : Sl) (boxes1 : Int) (groups2 : Int) (counts3 : Int) (ceilings4 : Int) (t20 : Sl) (t21 : Int) (t22 : Int) : M Value := Cut Try.prog 57 (todoOf Try.f57 6) (T_signalboxref06_Check_6 l0 boxes1 groups2 counts3 ceilings4 t20 t21 t22)
def B_signalboxref06_Check (l0 : Sl) (boxes1 : Int) (groups2 : Int) (counts3 : Int) (ceilings4 : Int) : M Value :=
  mIf ((l0.n : Int) == (0 : Int)) (
    mRet (.int .i64 (1 : Int))) (
    mIf (decide ((l0.n : Int) > (64 : Int))) (
      mRet (.int .i64 (4 : Int))) (
      K_signalboxref06_Check_6 l0 boxes1 groups2 counts3 ceilings4 l0 (l0.n : Int) (0 : Int)))
def B_signalboxref06_Check_6 (l0 : Sl) (boxes1 : Int) (groups2 : Int) (counts3 : Int) (ceilings4 : Int) (t20 : Sl) (t21 : Int) (t22 : Int) : M Value :=
  mIf (decide (t22 < t21)) (
    mIdx t20 t22 3 fun (x25 : Addr) =>
    mLdI .i64 x25 fun (x26_0 : Int) =>
    mLdI .i64 (x25.add 1) fun (x26_1 : Int) =>
    mLdI .i64 (x25.add 2) fun (x26_2 : Int) =>
    mNew #[.int .i64 (0 : Int), .int .i64 (0 : Int), .int .i64 (0 : Int)] 78 fun (x12 : Addr) =>
    mSt x12 (.int .i64 x26_0) <|
    mSt (x12.add 1) (.int .i64 x26_1) <|
    mSt (x12.add 2) (.int .i64 x26_2) <|
    mLdI .i64 x12 fun (x27_0 : Int) =>
    mLdI .i64 (x12.add 1) fun (x27_1 : Int) =>
    mLdI .i64 (x12.add 2) fun (x27_2 : Int) =>
    mBind (N_signalboxref06_Op x27_0 x27_1 x27_2 boxes1 groups2 counts3 ceilings4) fun r32 =>
    unI .i64 r32 fun (x32 : Int) =>
    mIf (x32 != (0 : Int)) (
      mRet (.int .i64 x32)) (
      mSlc l0 3 (0 : Int) (IntKind.i64.wrap (t22 + (1 : Int))) (l0.c : Int) fun (x39 : Sl) =>
      mBind (N_signalboxref06_Nest x39 false) fun r40 =>
      unB r40 fun (x40 : Bool) =>
      mIf (!x40) (
        mRet (.int .i64 (9 : Int))) (
        K_signalboxref06_Check_6 l0 boxes1 groups2 counts3 ceilings4 t20 t21 (IntKind.i64.wrap (t22 + (1 : Int)))))) (
    mBind (N_signalboxref06_Nest l0 true) fun r44 =>
    unB r44 fun (x44 : Bool) =>
    mIf (!x44) (
      mRet (.int .i64 (9 : Int))) (
      mRet (.int .i64 (0 : Int))))
theorem E_signalboxref06_Check (l0 : Sl) (boxes1 : Int) (groups2 : Int) (counts3 : Int) (ceilings4 : Int) : ev Try.prog 57 Try.f57.results.toList C_signalboxref06_Check D_signalboxref06_Check 400 false [.code (bodyOf Try.f57)] (List.map some [.slice l0.p l0.n l0.c, .int .i64 boxes1, .int .i64 groups2, .int .i64 counts3, .int .i64 ceilings4] ++ List.replicate (Try.f57.ntmps - List.length ([.slice l0.p l0.n l0.c, .int .i64 boxes1, .int .i64 groups2, .int .i64 counts3, .int .i64 ceilings4] : List Value)) none) = B_signalboxref06_Check l0 boxes1 groups2 counts3 ceilings4 := by kernel_rfl
theorem S_signalboxref06_Check (l0 : Sl) (boxes1 : Int) (groups2 : Int) (counts3 : Int) (ceilings4 : Int) {h : Hp} {Q : Value → Hp → Prop} (hb : B_signalboxref06_Check l0 boxes1 groups2 counts3 ceilings4 h Q) : N_signalboxref06_Check l0 boxes1 groups2 counts3 ceilings4 h Q :=
  Nf.of_ev Try.call57 Try.func57 (c := bodyOf Try.f57) rfl mixed C_signalboxref06_Check D_signalboxref06_Check 400 (args := [.slice l0.p l0.n l0.c, .int .i64 boxes1, .int .i64 groups2, .int .i64 counts3, .int .i64 ceilings4]) (by rw [E_signalboxref06_Check]; exact hb)
theorem E_signalboxref06_Check_6 (l0 : Sl) (boxes1 : Int) (groups2 : Int) (counts3 : Int) (ceilings4 : Int) (t20 : Sl) (t21 : Int) (t22 : Int) : ev Try.prog 57 Try.f57.results.toList C_signalboxref06_Check D_signalboxref06_Check 400 true (todoOf Try.f57 6) (T_signalboxref06_Check_6 l0 boxes1 groups2 counts3 ceilings4 t20 t21 t22) = B_signalboxref06_Check_6 l0 boxes1 groups2 counts3 ceilings4 t20 t21 t22 := by kernel_rfl
theorem S_signalboxref06_Check_6 (l0 : Sl) (boxes1 : Int) (groups2 : Int) (counts3 : Int) (ceilings4 : Int) (t20 : Sl) (t21 : Int) (t22 : Int) {h : Hp} {Q : Value → Hp → Prop} (hb : B_signalboxref06_Check_6 l0 boxes1 groups2 counts3 ceilings4 t20 t21 t22 h Q) : K_signalboxref06_Check_6 l0 boxes1 groups2 counts3 ceilings4 t20 t21 t22 h Q :=
  Cut.of_ev Try.func57 mixed C_signalboxref06_Check D_signalboxref06_Check 400 (by rw [E_signalboxref06_Check_6]; exact hb)
def C_slices_ContainsFunc_int_int : List (Nat × List Nat) := []
def D_slices_ContainsFunc_int_int : List (Nat × List Nat) := []
def B_slices_ContainsFunc_int_int (s0 : Sl) (f1g : Nat) (f1f : Array Value) (f1c : Array Value) : M Value :=
  mBind (N_slices_IndexFunc_int_int s0 f1g f1f f1c) fun r7 =>
  unI .i64 r7 fun (x7 : Int) =>
  mRet (.bool (decide (x7 ≥ (0 : Int))))
theorem E_slices_ContainsFunc_int_int (s0 : Sl) (f1g : Nat) (f1f : Array Value) (f1c : Array Value) : ev Try.prog 63 Try.f63.results.toList C_slices_ContainsFunc_int_int D_slices_ContainsFunc_int_int 400 false [.code (bodyOf Try.f63)] (List.map some [.slice s0.p s0.n s0.c, .func (.func f1g) f1f f1c] ++ List.replicate (Try.f63.ntmps - List.length ([.slice s0.p s0.n s0.c, .func (.func f1g) f1f f1c] : List Value)) none) = B_slices_ContainsFunc_int_int s0 f1g f1f f1c := by kernel_rfl
theorem S_slices_ContainsFunc_int_int (s0 : Sl) (f1g : Nat) (f1f : Array Value) (f1c : Array Value) {h : Hp} {Q : Value → Hp → Prop} (hb : B_slices_ContainsFunc_int_int s0 f1g f1f f1c h Q) : N_slices_ContainsFunc_int_int s0 f1g f1f f1c h Q :=
  Nf.of_ev Try.call63 Try.func63 (c := bodyOf Try.f63) rfl mixed C_slices_ContainsFunc_int_int D_slices_ContainsFunc_int_int 400 (args := [.slice s0.p s0.n s0.c, .func (.func f1g) f1f f1c]) (by rw [E_slices_ContainsFunc_int_int]; exact hb)
def C_conf_within_1 : List (Nat × List Nat) := []
def D_conf_within_1 : List (Nat × List Nat) := []
def B_conf_within_1 (n0 : Int) (fv1 : Option Addr) (fv2 : Option Addr) : M Value :=
  mNil fv1 fun (a2 : Addr) =>
  mLdI .i64 a2 fun (x6 : Int) =>
  mBind (mIf (decide (n0 < x6)) (mRet true) (mNil fv2 fun (a4 : Addr) =>
    mLdI .i64 a4 fun (x10 : Int) =>
    mRet (decide (n0 > x10)))) fun (b5 : Bool) =>
  mRet (.bool b5)
theorem E_conf_within_1 (n0 : Int) (fv1 : Option Addr) (fv2 : Option Addr) : ev Try.prog 64 Try.f64.results.toList C_conf_within_1 D_conf_within_1 400 false [.code (bodyOf Try.f64)] (List.map some [.int .i64 n0, .pointer fv1, .pointer fv2] ++ List.replicate (Try.f64.ntmps - List.length ([.int .i64 n0, .pointer fv1, .pointer fv2] : List Value)) none) = B_conf_within_1 n0 fv1 fv2 := by kernel_rfl
theorem S_conf_within_1 (n0 : Int) (fv1 : Option Addr) (fv2 : Option Addr) {h : Hp} {Q : Value → Hp → Prop} (hb : B_conf_within_1 n0 fv1 fv2 h Q) : N_conf_within_1 n0 fv1 fv2 h Q :=
  Nf.of_ev Try.call64 Try.func64 (c := bodyOf Try.f64) rfl mixed C_conf_within_1 D_conf_within_1 400 (args := [.int .i64 n0, .pointer fv1, .pointer fv2]) (by rw [E_conf_within_1]; exact hb)
def C_prog_Check : List (Nat × List Nat) := [(7, [3, 5, 19, 20, 21])]
def D_prog_Check : List (Nat × List Nat) := []
def T_prog_Check_7 (r3 : Addr) (n5 : Addr) (t19 : Sl) (t20 : Int) (t21 : Int) : Env := mkEnv [(3, .pointer (some r3)), (5, .pointer (some n5)), (19, .slice t19.p t19.n t19.c), (20, .int .i64 t20), (21, .int .i64 t21)] 49 0
def K_prog_Check_7 (r3 : Addr) (n5 : Addr) (t19 : Sl) (t20 : Int) (t21 : Int) : M Value := Cut Try.prog 65 (todoOf Try.f65 7) (T_prog_Check_7 r3 n5 t19 t20 t21)
def B_prog_Check (l0 : Sl) (r1_0 : Int) (r1_1 : Int) (r1_2 : Int) (r1_3 : Int) : M Value :=
  mNew #[.int .i64 r1_0, .int .i64 r1_1, .int .i64 r1_2, .int .i64 r1_3] 126 fun (x3 : Addr) =>
  mIf ((l0.n : Int) == (0 : Int)) (
    mRet (.int .i64 (1 : Int))) (
    mIf (decide ((l0.n : Int) > (64 : Int))) (
      mRet (.int .i64 (4 : Int))) (
      mNew #[.int .i64 (0 : Int), .int .i64 (0 : Int), .slice none (0) (0)] 137 fun (x18 : Addr) =>
      K_prog_Check_7 x3 x18 l0 (l0.n : Int) (0 : Int)))
def B_prog_Check_7 (r3 : Addr) (n5 : Addr) (t19 : Sl) (t20 : Int) (t21 : Int) : M Value :=
  mIf (decide (t21 < t20)) (
    mIdx t19 t21 3 fun (x23 : Addr) =>
    mLdI .i64 x23 fun (x24_0 : Int) =>
    mLdI .i64 (x23.add 1) fun (x24_1 : Int) =>
    mLdI .i64 (x23.add 2) fun (x24_2 : Int) =>
    mNew #[.int .i64 (0 : Int), .int .i64 (0 : Int), .int .i64 (0 : Int)] 78 fun (x7 : Addr) =>
    mSt x7 (.int .i64 x24_0) <|
    mSt (x7.add 1) (.int .i64 x24_1) <|
    mSt (x7.add 2) (.int .i64 x24_2) <|
    mLdI .i64 x7 fun (x25_0 : Int) =>
    mLdI .i64 (x7.add 1) fun (x25_1 : Int) =>
    mLdI .i64 (x7.add 2) fun (x25_2 : Int) =>
    mLdI .i64 r3 fun (x26_0 : Int) =>
    mLdI .i64 (r3.add 1) fun (x26_1 : Int) =>
    mLdI .i64 (r3.add 2) fun (x26_2 : Int) =>
    mLdI .i64 (r3.add 3) fun (x26_3 : Int) =>
    mBind (N_prog_Op x25_0 x25_1 x25_2 x26_0 x26_1 x26_2 x26_3) fun r27 =>
    unI .i64 r27 fun (x27 : Int) =>
    mIf (x27 != (0 : Int)) (
      mRet (.int .i64 x27)) (
      mLdI .i64 x7 fun (x32_0 : Int) =>
      mLdI .i64 (x7.add 1) fun (x32_1 : Int) =>
      mLdI .i64 (x7.add 2) fun (x32_2 : Int) =>
      mBind (N_prog_nest_step (some n5) x32_0 x32_1 x32_2) fun r33 =>
      unB r33 fun (x33 : Bool) =>
      mIf (!x33) (
        mRet (.int .i64 (9 : Int))) (
        K_prog_Check_7 r3 n5 t19 t20 (IntKind.i64.wrap (t21 + (1 : Int)))))) (
    mLdI .i64 n5 fun (x39 : Int) =>
    mBind (mIf (decide (x39 > (0 : Int))) (mRet true) (mLdL (n5.add 2) fun (x45 : Sl) =>
      mRet (decide ((x45.n : Int) > (0 : Int))))) fun (b18 : Bool) =>
    mIf b18 (
      mRet (.int .i64 (9 : Int))) (
      mRet (.int .i64 (0 : Int))))
theorem E_prog_Check (l0 : Sl) (r1_0 : Int) (r1_1 : Int) (r1_2 : Int) (r1_3 : Int) : ev Try.prog 65 Try.f65.results.toList C_prog_Check D_prog_Check 400 false [.code (bodyOf Try.f65)] (List.map some [.slice l0.p l0.n l0.c, .agg #[.int .i64 r1_0, .int .i64 r1_1, .int .i64 r1_2, .int .i64 r1_3]] ++ List.replicate (Try.f65.ntmps - List.length ([.slice l0.p l0.n l0.c, .agg #[.int .i64 r1_0, .int .i64 r1_1, .int .i64 r1_2, .int .i64 r1_3]] : List Value)) none) = B_prog_Check l0 r1_0 r1_1 r1_2 r1_3 := by kernel_rfl
theorem S_prog_Check (l0 : Sl) (r1_0 : Int) (r1_1 : Int) (r1_2 : Int) (r1_3 : Int) {h : Hp} {Q : Value → Hp → Prop} (hb : B_prog_Check l0 r1_0 r1_1 r1_2 r1_3 h Q) : N_prog_Check l0 r1_0 r1_1 r1_2 r1_3 h Q :=
  Nf.of_ev Try.call65 Try.func65 (c := bodyOf Try.f65) rfl mixed C_prog_Check D_prog_Check 400 (args := [.slice l0.p l0.n l0.c, .agg #[.int .i64 r1_0, .int .i64 r1_1, .int .i64 r1_2, .int .i64 r1_3]]) (by rw [E_prog_Check]; exact hb)
theorem E_prog_Check_7 (r3 : Addr) (n5 : Addr) (t19 : Sl) (t20 : Int) (t21 : Int) : ev Try.prog 65 Try.f65.results.toList C_prog_Check D_prog_Check 400 true (todoOf Try.f65 7) (T_prog_Check_7 r3 n5 t19 t20 t21) = B_prog_Check_7 r3 n5 t19 t20 t21 := by kernel_rfl
theorem S_prog_Check_7 (r3 : Addr) (n5 : Addr) (t19 : Sl) (t20 : Int) (t21 : Int) {h : Hp} {Q : Value → Hp → Prop} (hb : B_prog_Check_7 r3 n5 t19 t20 t21 h Q) : K_prog_Check_7 r3 n5 t19 t20 t21 h Q :=
  Cut.of_ev Try.func65 mixed C_prog_Check D_prog_Check 400 (by rw [E_prog_Check_7]; exact hb)
def C_conf_Room : List (Nat × List Nat) := []
def D_conf_Room : List (Nat × List Nat) := []
def B_conf_Room (c0_0 : Int) (c0_1 : Int) (c0_2 : Int) (c0_3 : Int) (c0_4 : Sl) (c0_5 : Int) (c0_6 : Sl) (c0_7 : Sl) (c0_8 : Sl) (c0_9 : Sl) : M Value :=
  mNew #[.int .i64 c0_0, .int .i64 c0_1, .int .i64 c0_2, .int .i64 c0_3, .slice c0_4.p c0_4.n c0_4.c, .int .i64 c0_5, .slice c0_6.p c0_6.n c0_6.c, .slice c0_7.p c0_7.n c0_7.c, .slice c0_8.p c0_8.n c0_8.c, .slice c0_9.p c0_9.n c0_9.c] 34 fun (x1 : Addr) =>
  mNew #[.int .i64 (0 : Int), .int .i64 (0 : Int), .int .i64 (0 : Int), .int .i64 (0 : Int)] 126 fun (x2 : Addr) =>
  mLdL (x1.add 4) fun (x4 : Sl) =>
  mLdI .i64 (x1.add 5) fun (x7 : Int) =>
  mLdL (x1.add 6) fun (x9 : Sl) =>
  mLdL (x1.add 7) fun (x12 : Sl) =>
  mSt x2 (.int .i64 (x4.n : Int)) <|
  mSt (x2.add 1) (.int .i64 x7) <|
  mSt (x2.add 2) (.int .i64 (x9.n : Int)) <|
  mSt (x2.add 3) (.int .i64 (x12.n : Int)) <|
  mLdI .i64 x2 fun (q12_0 : Int) =>
  mLdI .i64 (x2.add 1) fun (q12_1 : Int) =>
  mLdI .i64 (x2.add 2) fun (q12_2 : Int) =>
  mLdI .i64 (x2.add 3) fun (q12_3 : Int) =>
  mRet (.agg #[.int .i64 q12_0, .int .i64 q12_1, .int .i64 q12_2, .int .i64 q12_3])
theorem E_conf_Room (c0_0 : Int) (c0_1 : Int) (c0_2 : Int) (c0_3 : Int) (c0_4 : Sl) (c0_5 : Int) (c0_6 : Sl) (c0_7 : Sl) (c0_8 : Sl) (c0_9 : Sl) : ev Try.prog 66 Try.f66.results.toList C_conf_Room D_conf_Room 400 false [.code (bodyOf Try.f66)] (List.map some [.agg #[.int .i64 c0_0, .int .i64 c0_1, .int .i64 c0_2, .int .i64 c0_3, .slice c0_4.p c0_4.n c0_4.c, .int .i64 c0_5, .slice c0_6.p c0_6.n c0_6.c, .slice c0_7.p c0_7.n c0_7.c, .slice c0_8.p c0_8.n c0_8.c, .slice c0_9.p c0_9.n c0_9.c]] ++ List.replicate (Try.f66.ntmps - List.length ([.agg #[.int .i64 c0_0, .int .i64 c0_1, .int .i64 c0_2, .int .i64 c0_3, .slice c0_4.p c0_4.n c0_4.c, .int .i64 c0_5, .slice c0_6.p c0_6.n c0_6.c, .slice c0_7.p c0_7.n c0_7.c, .slice c0_8.p c0_8.n c0_8.c, .slice c0_9.p c0_9.n c0_9.c]] : List Value)) none) = B_conf_Room c0_0 c0_1 c0_2 c0_3 c0_4 c0_5 c0_6 c0_7 c0_8 c0_9 := by kernel_rfl
theorem S_conf_Room (c0_0 : Int) (c0_1 : Int) (c0_2 : Int) (c0_3 : Int) (c0_4 : Sl) (c0_5 : Int) (c0_6 : Sl) (c0_7 : Sl) (c0_8 : Sl) (c0_9 : Sl) {h : Hp} {Q : Value → Hp → Prop} (hb : B_conf_Room c0_0 c0_1 c0_2 c0_3 c0_4 c0_5 c0_6 c0_7 c0_8 c0_9 h Q) : N_conf_Room c0_0 c0_1 c0_2 c0_3 c0_4 c0_5 c0_6 c0_7 c0_8 c0_9 h Q :=
  Nf.of_ev Try.call66 Try.func66 (c := bodyOf Try.f66) rfl mixed C_conf_Room D_conf_Room 400 (args := [.agg #[.int .i64 c0_0, .int .i64 c0_1, .int .i64 c0_2, .int .i64 c0_3, .slice c0_4.p c0_4.n c0_4.c, .int .i64 c0_5, .slice c0_6.p c0_6.n c0_6.c, .slice c0_7.p c0_7.n c0_7.c, .slice c0_8.p c0_8.n c0_8.c, .slice c0_9.p c0_9.n c0_9.c]]) (by rw [E_conf_Room]; exact hb)
def C_conf_task_1 : List (Nat × List Nat) := []
def D_conf_task_1 : List (Nat × List Nat) := []
def B_conf_task_1 (o0_0 : Int) (o0_1 : Int) (o0_2 : Int) (fv1 : Option Addr) (fv2 : Option Addr) : M Value :=
  mNew #[.int .i64 o0_0, .int .i64 o0_1, .int .i64 o0_2] 78 fun (x3 : Addr) =>
  mLdI .i64 x3 fun (x6 : Int) =>
  mBind (mIf (x6 == (5 : Int)) (mNil fv1 fun (a5 : Addr) =>
    mLdL (a5.add 7) fun (x10 : Sl) =>
    mLdI .i64 (x3.add 1) fun (x12 : Int) =>
    mIdx x10 x12 1 fun (x13 : Addr) =>
    mLdI .i64 x13 fun (x14 : Int) =>
    mNil fv2 fun (a12 : Addr) =>
    mLdI .i64 a12 fun (x16 : Int) =>
    mRet (decide (x14 < x16))) (mRet false)) fun (b14 : Bool) =>
  mRet (.bool b14)
theorem E_conf_task_1 (o0_0 : Int) (o0_1 : Int) (o0_2 : Int) (fv1 : Option Addr) (fv2 : Option Addr) : ev Try.prog 67 Try.f67.results.toList C_conf_task_1 D_conf_task_1 400 false [.code (bodyOf Try.f67)] (List.map some [.agg #[.int .i64 o0_0, .int .i64 o0_1, .int .i64 o0_2], .pointer fv1, .pointer fv2] ++ List.replicate (Try.f67.ntmps - List.length ([.agg #[.int .i64 o0_0, .int .i64 o0_1, .int .i64 o0_2], .pointer fv1, .pointer fv2] : List Value)) none) = B_conf_task_1 o0_0 o0_1 o0_2 fv1 fv2 := by kernel_rfl
theorem S_conf_task_1 (o0_0 : Int) (o0_1 : Int) (o0_2 : Int) (fv1 : Option Addr) (fv2 : Option Addr) {h : Hp} {Q : Value → Hp → Prop} (hb : B_conf_task_1 o0_0 o0_1 o0_2 fv1 fv2 h Q) : N_conf_task_1 o0_0 o0_1 o0_2 fv1 fv2 h Q :=
  Nf.of_ev Try.call67 Try.func67 (c := bodyOf Try.f67) rfl mixed C_conf_task_1 D_conf_task_1 400 (args := [.agg #[.int .i64 o0_0, .int .i64 o0_1, .int .i64 o0_2], .pointer fv1, .pointer fv2]) (by rw [E_conf_task_1]; exact hb)
def C_slices_ContainsFunc_api_Op_api_Op : List (Nat × List Nat) := []
def D_slices_ContainsFunc_api_Op_api_Op : List (Nat × List Nat) := []
def B_slices_ContainsFunc_api_Op_api_Op (s0 : Sl) (f1g : Nat) (f1f : Array Value) (f1c : Array Value) : M Value :=
  mBind (N_slices_IndexFunc_api_Op_api_Op s0 f1g f1f f1c) fun r7 =>
  unI .i64 r7 fun (x7 : Int) =>
  mRet (.bool (decide (x7 ≥ (0 : Int))))
theorem E_slices_ContainsFunc_api_Op_api_Op (s0 : Sl) (f1g : Nat) (f1f : Array Value) (f1c : Array Value) : ev Try.prog 68 Try.f68.results.toList C_slices_ContainsFunc_api_Op_api_Op D_slices_ContainsFunc_api_Op_api_Op 400 false [.code (bodyOf Try.f68)] (List.map some [.slice s0.p s0.n s0.c, .func (.func f1g) f1f f1c] ++ List.replicate (Try.f68.ntmps - List.length ([.slice s0.p s0.n s0.c, .func (.func f1g) f1f f1c] : List Value)) none) = B_slices_ContainsFunc_api_Op_api_Op s0 f1g f1f f1c := by kernel_rfl
theorem S_slices_ContainsFunc_api_Op_api_Op (s0 : Sl) (f1g : Nat) (f1f : Array Value) (f1c : Array Value) {h : Hp} {Q : Value → Hp → Prop} (hb : B_slices_ContainsFunc_api_Op_api_Op s0 f1g f1f f1c h Q) : N_slices_ContainsFunc_api_Op_api_Op s0 f1g f1f f1c h Q :=
  Nf.of_ev Try.call68 Try.func68 (c := bodyOf Try.f68) rfl mixed C_slices_ContainsFunc_api_Op_api_Op D_slices_ContainsFunc_api_Op_api_Op 400 (args := [.slice s0.p s0.n s0.c, .func (.func f1g) f1f f1c]) (by rw [E_slices_ContainsFunc_api_Op_api_Op]; exact hb)
def C_slices_ContainsFunc_api_Task_api_Task : List (Nat × List Nat) := []
def D_slices_ContainsFunc_api_Task_api_Task : List (Nat × List Nat) := []
def B_slices_ContainsFunc_api_Task_api_Task (s0 : Sl) (f1g : Nat) (f1f : Array Value) (f1c : Array Value) : M Value :=
  mBind (N_slices_IndexFunc_api_Task_api_Task s0 f1g f1f f1c) fun r7 =>
  unI .i64 r7 fun (x7 : Int) =>
  mRet (.bool (decide (x7 ≥ (0 : Int))))
theorem E_slices_ContainsFunc_api_Task_api_Task (s0 : Sl) (f1g : Nat) (f1f : Array Value) (f1c : Array Value) : ev Try.prog 69 Try.f69.results.toList C_slices_ContainsFunc_api_Task_api_Task D_slices_ContainsFunc_api_Task_api_Task 400 false [.code (bodyOf Try.f69)] (List.map some [.slice s0.p s0.n s0.c, .func (.func f1g) f1f f1c] ++ List.replicate (Try.f69.ntmps - List.length ([.slice s0.p s0.n s0.c, .func (.func f1g) f1f f1c] : List Value)) none) = B_slices_ContainsFunc_api_Task_api_Task s0 f1g f1f f1c := by kernel_rfl
theorem S_slices_ContainsFunc_api_Task_api_Task (s0 : Sl) (f1g : Nat) (f1f : Array Value) (f1c : Array Value) {h : Hp} {Q : Value → Hp → Prop} (hb : B_slices_ContainsFunc_api_Task_api_Task s0 f1g f1f f1c h Q) : N_slices_ContainsFunc_api_Task_api_Task s0 f1g f1f f1c h Q :=
  Nf.of_ev Try.call69 Try.func69 (c := bodyOf Try.f69) rfl mixed C_slices_ContainsFunc_api_Task_api_Task D_slices_ContainsFunc_api_Task_api_Task 400 (args := [.slice s0.p s0.n s0.c, .func (.func f1g) f1f f1c]) (by rw [E_slices_ContainsFunc_api_Task_api_Task]; exact hb)
def C_conf_task_2 : List (Nat × List Nat) := []
def D_conf_task_2 : List (Nat × List Nat) := []
def B_conf_task_2 (x0_0 : Int) (x0_1 : Int) (x0_2 : Int) (x0_3 : Int) (x0_4 : Int) (x0_5 : Int) (x0_6 : Sl) (fv1 : Option Addr) : M Value :=
  mNew #[.int .i64 x0_0, .int .i64 x0_1, .int .i64 x0_2, .int .i64 x0_3, .int .i64 x0_4, .int .i64 x0_5, .slice x0_6.p x0_6.n x0_6.c] 67 fun (x2_1 : Addr) =>
  mLdI .i64 x2_1 fun (x5 : Int) =>
  mNil fv1 fun (a5 : Addr) =>
  mLdI .i64 a5 fun (x7 : Int) =>
  mRet (.bool (x5 == x7))
theorem E_conf_task_2 (x0_0 : Int) (x0_1 : Int) (x0_2 : Int) (x0_3 : Int) (x0_4 : Int) (x0_5 : Int) (x0_6 : Sl) (fv1 : Option Addr) : ev Try.prog 70 Try.f70.results.toList C_conf_task_2 D_conf_task_2 400 false [.code (bodyOf Try.f70)] (List.map some [.agg #[.int .i64 x0_0, .int .i64 x0_1, .int .i64 x0_2, .int .i64 x0_3, .int .i64 x0_4, .int .i64 x0_5, .slice x0_6.p x0_6.n x0_6.c], .pointer fv1] ++ List.replicate (Try.f70.ntmps - List.length ([.agg #[.int .i64 x0_0, .int .i64 x0_1, .int .i64 x0_2, .int .i64 x0_3, .int .i64 x0_4, .int .i64 x0_5, .slice x0_6.p x0_6.n x0_6.c], .pointer fv1] : List Value)) none) = B_conf_task_2 x0_0 x0_1 x0_2 x0_3 x0_4 x0_5 x0_6 fv1 := by kernel_rfl
theorem S_conf_task_2 (x0_0 : Int) (x0_1 : Int) (x0_2 : Int) (x0_3 : Int) (x0_4 : Int) (x0_5 : Int) (x0_6 : Sl) (fv1 : Option Addr) {h : Hp} {Q : Value → Hp → Prop} (hb : B_conf_task_2 x0_0 x0_1 x0_2 x0_3 x0_4 x0_5 x0_6 fv1 h Q) : N_conf_task_2 x0_0 x0_1 x0_2 x0_3 x0_4 x0_5 x0_6 fv1 h Q :=
  Nf.of_ev Try.call70 Try.func70 (c := bodyOf Try.f70) rfl mixed C_conf_task_2 D_conf_task_2 400 (args := [.agg #[.int .i64 x0_0, .int .i64 x0_1, .int .i64 x0_2, .int .i64 x0_3, .int .i64 x0_4, .int .i64 x0_5, .slice x0_6.p x0_6.n x0_6.c], .pointer fv1]) (by rw [E_conf_task_2]; exact hb)
def C_signalboxref06_Op : List (Nat × List Nat) := [(14, [4, 5, 12]), (15, [1, 2, 3, 5, 11, 12, 21]), (18, [1, 2, 3, 5, 11, 12, 21]), (25, [2, 5]), (28, [3, 5, 12])]
def D_signalboxref06_Op : List (Nat × List Nat) := []
def T_signalboxref06_Op_14 (ceilings4 : Int) (o5 : Addr) (b12 : Bool) : Env := mkEnv [(4, .int .i64 ceilings4), (5, .pointer (some o5)), (12, .bool b12)] 95 0
def K_signalboxref06_Op_14 (ceilings4 : Int) (o5 : Addr) (b12 : Bool) : M Value := Cut Try.prog 71 (todoOf Try.f71 14) (T_signalboxref06_Op_14 ceilings4 o5 b12)
def T_signalboxref06_Op_15 (boxes1 : Int) (groups2 : Int) (counts3 : Int) (o5 : Addr) (a11 : Bool) (b12 : Bool) (t21 : Int) : Env := mkEnv [(1, .int .i64 boxes1), (2, .int .i64 groups2), (3, .int .i64 counts3), (5, .pointer (some o5)), (11, .bool a11), (12, .bool b12), (21, .int .i64 t21)] 95 0
def K_signalboxref06_Op_15 (boxes1 : Int) (groups2 : Int) (counts3 : Int) (o5 : Addr) (a11 : Bool) (b12 : Bool) (t21 : Int) : M Value := Cut Try.prog 71 (todoOf Try.f71 15) (T_signalboxref06_Op_15 boxes1 groups2 counts3 o5 a11 b12 t21)
def T_signalboxref06_Op_18 (boxes1 : Int) (groups2 : Int) (counts3 : Int) (o5 : Addr) (a11 : Bool) (b12 : Bool) (t21 : Int) : Env := mkEnv [(1, .int .i64 boxes1), (2, .int .i64 groups2), (3, .int .i64 counts3), (5, .pointer (some o5)), (11, .bool a11), (12, .bool b12), (21, .int .i64 t21)] 95 0
def K_signalboxref06_Op_18 (boxes1 : Int) (groups2 : Int) (counts3 : Int) (o5 : Addr) (a11 : Bool) (b12 : Bool) (t21 : Int) : M Value := Cut Try.prog 71 (todoOf Try.f71 18) (T_signalboxref06_Op_18 boxes1 groups2 counts3 o5 a11 b12 t21)
def T_signalboxref06_Op_25 (groups2 : Int) (o5 : Addr) : Env := mkEnv [(2, .int .i64 groups2), (5, .pointer (some o5))] 95 0
def K_signalboxref06_Op_25 (groups2 : Int) (o5 : Addr) : M Value := Cut Try.prog 71 (todoOf Try.f71 25) (T_signalboxref06_Op_25 groups2 o5)
def T_signalboxref06_Op_28 (counts3 : Int) (o5 : Addr) (b12 : Bool) : Env := mkEnv [(3, .int .i64 counts3), (5, .pointer (some o5)), (12, .bool b12)] 95 0
def K_signalboxref06_Op_28 (counts3 : Int) (o5 : Addr) (b12 : Bool) : M Value := Cut Try.prog 71 (todoOf Try.f71 28) (T_signalboxref06_Op_28 counts3 o5 b12)
def B_signalboxref06_Op (o0_0 : Int) (o0_1 : Int) (o0_2 : Int) (boxes1 : Int) (groups2 : Int) (counts3 : Int) (ceilings4 : Int) : M Value :=
  mNew #[.int .i64 o0_0, .int .i64 o0_1, .int .i64 o0_2] 78 fun (x5 : Addr) =>
  mLdI .i64 x5 fun (x14 : Int) =>
  mBind (N_signalboxref06_Numbers x14) fun r15 =>
  unI .i64 r15 fun (x15 : Int) =>
  mIf (decide (x15 < (0 : Int))) (
    mRet (.int .i64 (1 : Int))) (
    mLdI .i64 (x5.add 2) fun (x18 : Int) =>
    mLdI .i64 x5 fun (x21 : Int) =>
    mIf (x21 == (1 : Int)) (
      mLdI .i64 (x5.add 1) fun (x25 : Int) =>
      mBind (N_signalboxref06_in x25 (1 : Int) (1000 : Int)) fun r26 =>
      unB r26 fun (x26 : Bool) =>
      mIf ((!x26) || (!(x18 == (0 : Int)))) (
        mRet (.int .i64 (5 : Int))) (
        mRet (.int .i64 (0 : Int)))) (
      mIf (x21 == (2 : Int)) (
        mLdI .i64 (x5.add 1) fun (x30 : Int) =>
        mBind (N_signalboxref06_in x30 (0 : Int) (255 : Int)) fun r31 =>
        unB r31 fun (x31 : Bool) =>
        mIf ((!x31) || (!(x18 == (0 : Int)))) (
          mRet (.int .i64 (5 : Int))) (
          mRet (.int .i64 (0 : Int)))) (
        mIf (x21 == (3 : Int)) (
          mIf (x21 == (3 : Int)) (
            mLdI .i64 (x5.add 1) fun (x36 : Int) =>
            mIf ((!(x36 == (0 : Int))) || (!(x18 == (0 : Int)))) (
              mRet (.int .i64 (5 : Int))) (
              mRet (.int .i64 (0 : Int)))) (
            mIf (x21 == (5 : Int)) (
              mIf (x21 == (5 : Int)) (
                K_signalboxref06_Op_14 ceilings4 x5 (x18 == (0 : Int))) (
                K_signalboxref06_Op_15 boxes1 groups2 counts3 x5 false (x18 == (0 : Int)) x21)) (
              mIf (x21 == (6 : Int)) (
                K_signalboxref06_Op_14 ceilings4 x5 (x18 == (0 : Int))) (
                K_signalboxref06_Op_15 boxes1 groups2 counts3 x5 false (x18 == (0 : Int)) x21)))) (
          mIf (x21 == (4 : Int)) (
            mLdI .i64 (x5.add 1) fun (x36_18 : Int) =>
            mIf ((!(x36_18 == (0 : Int))) || (!(x18 == (0 : Int)))) (
              mRet (.int .i64 (5 : Int))) (
              mRet (.int .i64 (0 : Int)))) (
            mIf (x21 == (5 : Int)) (
              mIf (x21 == (5 : Int)) (
                K_signalboxref06_Op_14 ceilings4 x5 (x18 == (0 : Int))) (
                K_signalboxref06_Op_15 boxes1 groups2 counts3 x5 false (x18 == (0 : Int)) x21)) (
              mIf (x21 == (6 : Int)) (
                K_signalboxref06_Op_14 ceilings4 x5 (x18 == (0 : Int))) (
                K_signalboxref06_Op_15 boxes1 groups2 counts3 x5 false (x18 == (0 : Int)) x21)))))))
def B_signalboxref06_Op_14 (ceilings4 : Int) (o5 : Addr) (b12 : Bool) : M Value :=
  mLdI .i64 (o5.add 1) fun (x42 : Int) =>
  mBind (N_signalboxref06_in x42 (0 : Int) (IntKind.i64.wrap (ceilings4 - (1 : Int)))) fun r45 =>
  unB r45 fun (x45 : Bool) =>
  mIf ((!x45) || (!b12)) (
    mRet (.int .i64 (5 : Int))) (
    mRet (.int .i64 (0 : Int)))
def B_signalboxref06_Op_15 (boxes1 : Int) (groups2 : Int) (counts3 : Int) (o5 : Addr) (a11 : Bool) (b12 : Bool) (t21 : Int) : M Value :=
  mIf (t21 == (7 : Int)) (
    mIf (t21 == (7 : Int)) (
      mLdI .i64 (o5.add 1) fun (x50 : Int) =>
      mBind (N_signalboxref06_in x50 (1 : Int) (4096 : Int)) fun r51 =>
      unB r51 fun (x51 : Bool) =>
      mIf ((!x51) || (!b12)) (
        mRet (.int .i64 (5 : Int))) (
        mRet (.int .i64 (0 : Int)))) (
      K_signalboxref06_Op_18 boxes1 groups2 counts3 o5 a11 b12 t21)) (
    mIf (t21 == (8 : Int)) (
      mLdI .i64 (o5.add 1) fun (x50_26 : Int) =>
      mBind (N_signalboxref06_in x50_26 (1 : Int) (4096 : Int)) fun r51_27 =>
      unB r51_27 fun (x51_27 : Bool) =>
      mIf ((!x51_27) || (!b12)) (
        mRet (.int .i64 (5 : Int))) (
        mRet (.int .i64 (0 : Int)))) (
      K_signalboxref06_Op_18 boxes1 groups2 counts3 o5 a11 b12 t21))
def B_signalboxref06_Op_18 (boxes1 : Int) (groups2 : Int) (counts3 : Int) (o5 : Addr) (a11 : Bool) (b12 : Bool) (t21 : Int) : M Value :=
  mIf (t21 == (9 : Int)) (
    mLdI .i64 (o5.add 1) fun (x55 : Int) =>
    mQ (N_signalboxref06_in x55 (0 : Int) (IntKind.i64.wrap (boxes1 - (1 : Int)))) fun r58 =>
    unB r58 fun (x58 : Bool) =>
    mLdI .i64 (o5.add 2) fun (x60 : Int) =>
    mQ (N_signalboxref06_in x60 (0 : Int) (255 : Int)) fun r61 =>
    unB r61 fun (x61 : Bool) =>
    mIf ((!x58) || (!x61)) (
      mRet (.int .i64 (5 : Int))) (
      mRet (.int .i64 (0 : Int)))) (
    mIf (t21 == (10 : Int)) (
      mLdI .i64 (o5.add 1) fun (x65 : Int) =>
      mBind (N_signalboxref06_in x65 (0 : Int) (IntKind.i64.wrap (boxes1 - (1 : Int)))) fun r68 =>
      unB r68 fun (x68 : Bool) =>
      mIf ((!x68) || (!b12)) (
        mRet (.int .i64 (5 : Int))) (
        mRet (.int .i64 (0 : Int)))) (
      mIf (t21 == (11 : Int)) (
        mIf (t21 == (11 : Int)) (
          K_signalboxref06_Op_25 groups2 o5) (
          mIf (t21 == (14 : Int)) (
            mIf (t21 == (14 : Int)) (
              K_signalboxref06_Op_28 counts3 o5 b12) (
              mIf ((!a11) || (!b12)) (
                mRet (.int .i64 (5 : Int))) (
                mRet (.int .i64 (0 : Int))))) (
            mIf (t21 == (15 : Int)) (
              K_signalboxref06_Op_28 counts3 o5 b12) (
              mIf ((!a11) || (!b12)) (
                mRet (.int .i64 (5 : Int))) (
                mRet (.int .i64 (0 : Int))))))) (
        mIf (t21 == (12 : Int)) (
          mIf (t21 == (12 : Int)) (
            K_signalboxref06_Op_25 groups2 o5) (
            mIf (t21 == (14 : Int)) (
              mIf (t21 == (14 : Int)) (
                K_signalboxref06_Op_28 counts3 o5 b12) (
                mIf ((!a11) || (!b12)) (
                  mRet (.int .i64 (5 : Int))) (
                  mRet (.int .i64 (0 : Int))))) (
              mIf (t21 == (15 : Int)) (
                K_signalboxref06_Op_28 counts3 o5 b12) (
                mIf ((!a11) || (!b12)) (
                  mRet (.int .i64 (5 : Int))) (
                  mRet (.int .i64 (0 : Int))))))) (
          mIf (t21 == (13 : Int)) (
            K_signalboxref06_Op_25 groups2 o5) (
            mIf (t21 == (14 : Int)) (
              mIf (t21 == (14 : Int)) (
                K_signalboxref06_Op_28 counts3 o5 b12) (
                mIf ((!a11) || (!b12)) (
                  mRet (.int .i64 (5 : Int))) (
                  mRet (.int .i64 (0 : Int))))) (
              mIf (t21 == (15 : Int)) (
                K_signalboxref06_Op_28 counts3 o5 b12) (
                mIf ((!a11) || (!b12)) (
                  mRet (.int .i64 (5 : Int))) (
                  mRet (.int .i64 (0 : Int))))))))))
def B_signalboxref06_Op_25 (groups2 : Int) (o5 : Addr) : M Value :=
  mLdI .i64 (o5.add 1) fun (x74 : Int) =>
  mQ (N_signalboxref06_in x74 (0 : Int) (IntKind.i64.wrap (groups2 - (1 : Int)))) fun r77 =>
  unB r77 fun (x77 : Bool) =>
  mLdI .i64 (o5.add 2) fun (x79 : Int) =>
  mQ (N_signalboxref06_in x79 (0 : Int) (255 : Int)) fun r80 =>
  unB r80 fun (x80 : Bool) =>
  mIf ((!x77) || (!x80)) (
    mRet (.int .i64 (5 : Int))) (
    mRet (.int .i64 (0 : Int)))
def B_signalboxref06_Op_28 (counts3 : Int) (o5 : Addr) (b12 : Bool) : M Value :=
  mLdI .i64 (o5.add 1) fun (x85 : Int) =>
  mBind (N_signalboxref06_in x85 (0 : Int) (IntKind.i64.wrap (counts3 - (1 : Int)))) fun r88 =>
  unB r88 fun (x88 : Bool) =>
  mIf ((!x88) || (!b12)) (
    mRet (.int .i64 (5 : Int))) (
    mRet (.int .i64 (0 : Int)))
theorem E_signalboxref06_Op (o0_0 : Int) (o0_1 : Int) (o0_2 : Int) (boxes1 : Int) (groups2 : Int) (counts3 : Int) (ceilings4 : Int) : ev Try.prog 71 Try.f71.results.toList C_signalboxref06_Op D_signalboxref06_Op 400 false [.code (bodyOf Try.f71)] (List.map some [.agg #[.int .i64 o0_0, .int .i64 o0_1, .int .i64 o0_2], .int .i64 boxes1, .int .i64 groups2, .int .i64 counts3, .int .i64 ceilings4] ++ List.replicate (Try.f71.ntmps - List.length ([.agg #[.int .i64 o0_0, .int .i64 o0_1, .int .i64 o0_2], .int .i64 boxes1, .int .i64 groups2, .int .i64 counts3, .int .i64 ceilings4] : List Value)) none) = B_signalboxref06_Op o0_0 o0_1 o0_2 boxes1 groups2 counts3 ceilings4 := by kernel_rfl
theorem S_signalboxref06_Op (o0_0 : Int) (o0_1 : Int) (o0_2 : Int) (boxes1 : Int) (groups2 : Int) (counts3 : Int) (ceilings4 : Int) {h : Hp} {Q : Value → Hp → Prop} (hb : B_signalboxref06_Op o0_0 o0_1 o0_2 boxes1 groups2 counts3 ceilings4 h Q) : N_signalboxref06_Op o0_0 o0_1 o0_2 boxes1 groups2 counts3 ceilings4 h Q :=
  Nf.of_ev Try.call71 Try.func71 (c := bodyOf Try.f71) rfl mixed C_signalboxref06_Op D_signalboxref06_Op 400 (args := [.agg #[.int .i64 o0_0, .int .i64 o0_1, .int .i64 o0_2], .int .i64 boxes1, .int .i64 groups2, .int .i64 counts3, .int .i64 ceilings4]) (by rw [E_signalboxref06_Op]; exact hb)
theorem E_signalboxref06_Op_14 (ceilings4 : Int) (o5 : Addr) (b12 : Bool) : ev Try.prog 71 Try.f71.results.toList C_signalboxref06_Op D_signalboxref06_Op 400 true (todoOf Try.f71 14) (T_signalboxref06_Op_14 ceilings4 o5 b12) = B_signalboxref06_Op_14 ceilings4 o5 b12 := by kernel_rfl
theorem S_signalboxref06_Op_14 (ceilings4 : Int) (o5 : Addr) (b12 : Bool) {h : Hp} {Q : Value → Hp → Prop} (hb : B_signalboxref06_Op_14 ceilings4 o5 b12 h Q) : K_signalboxref06_Op_14 ceilings4 o5 b12 h Q :=
  Cut.of_ev Try.func71 mixed C_signalboxref06_Op D_signalboxref06_Op 400 (by rw [E_signalboxref06_Op_14]; exact hb)
theorem E_signalboxref06_Op_15 (boxes1 : Int) (groups2 : Int) (counts3 : Int) (o5 : Addr) (a11 : Bool) (b12 : Bool) (t21 : Int) : ev Try.prog 71 Try.f71.results.toList C_signalboxref06_Op D_signalboxref06_Op 400 true (todoOf Try.f71 15) (T_signalboxref06_Op_15 boxes1 groups2 counts3 o5 a11 b12 t21) = B_signalboxref06_Op_15 boxes1 groups2 counts3 o5 a11 b12 t21 := by kernel_rfl
theorem S_signalboxref06_Op_15 (boxes1 : Int) (groups2 : Int) (counts3 : Int) (o5 : Addr) (a11 : Bool) (b12 : Bool) (t21 : Int) {h : Hp} {Q : Value → Hp → Prop} (hb : B_signalboxref06_Op_15 boxes1 groups2 counts3 o5 a11 b12 t21 h Q) : K_signalboxref06_Op_15 boxes1 groups2 counts3 o5 a11 b12 t21 h Q :=
  Cut.of_ev Try.func71 mixed C_signalboxref06_Op D_signalboxref06_Op 400 (by rw [E_signalboxref06_Op_15]; exact hb)
theorem E_signalboxref06_Op_18 (boxes1 : Int) (groups2 : Int) (counts3 : Int) (o5 : Addr) (a11 : Bool) (b12 : Bool) (t21 : Int) : ev Try.prog 71 Try.f71.results.toList C_signalboxref06_Op D_signalboxref06_Op 400 true (todoOf Try.f71 18) (T_signalboxref06_Op_18 boxes1 groups2 counts3 o5 a11 b12 t21) = B_signalboxref06_Op_18 boxes1 groups2 counts3 o5 a11 b12 t21 := by kernel_rfl
theorem S_signalboxref06_Op_18 (boxes1 : Int) (groups2 : Int) (counts3 : Int) (o5 : Addr) (a11 : Bool) (b12 : Bool) (t21 : Int) {h : Hp} {Q : Value → Hp → Prop} (hb : B_signalboxref06_Op_18 boxes1 groups2 counts3 o5 a11 b12 t21 h Q) : K_signalboxref06_Op_18 boxes1 groups2 counts3 o5 a11 b12 t21 h Q :=
  Cut.of_ev Try.func71 mixed C_signalboxref06_Op D_signalboxref06_Op 400 (by rw [E_signalboxref06_Op_18]; exact hb)
theorem E_signalboxref06_Op_25 (groups2 : Int) (o5 : Addr) : ev Try.prog 71 Try.f71.results.toList C_signalboxref06_Op D_signalboxref06_Op 400 true (todoOf Try.f71 25) (T_signalboxref06_Op_25 groups2 o5) = B_signalboxref06_Op_25 groups2 o5 := by kernel_rfl
theorem S_signalboxref06_Op_25 (groups2 : Int) (o5 : Addr) {h : Hp} {Q : Value → Hp → Prop} (hb : B_signalboxref06_Op_25 groups2 o5 h Q) : K_signalboxref06_Op_25 groups2 o5 h Q :=
  Cut.of_ev Try.func71 mixed C_signalboxref06_Op D_signalboxref06_Op 400 (by rw [E_signalboxref06_Op_25]; exact hb)
theorem E_signalboxref06_Op_28 (counts3 : Int) (o5 : Addr) (b12 : Bool) : ev Try.prog 71 Try.f71.results.toList C_signalboxref06_Op D_signalboxref06_Op 400 true (todoOf Try.f71 28) (T_signalboxref06_Op_28 counts3 o5 b12) = B_signalboxref06_Op_28 counts3 o5 b12 := by kernel_rfl
theorem S_signalboxref06_Op_28 (counts3 : Int) (o5 : Addr) (b12 : Bool) {h : Hp} {Q : Value → Hp → Prop} (hb : B_signalboxref06_Op_28 counts3 o5 b12 h Q) : K_signalboxref06_Op_28 counts3 o5 b12 h Q :=
  Cut.of_ev Try.func71 mixed C_signalboxref06_Op D_signalboxref06_Op 400 (by rw [E_signalboxref06_Op_28]; exact hb)
def C_signalboxref06_Nest : List (Nat × List Nat) := [(4, [1, 5, 6, 7, 12, 13, 14]), (13, [1, 5, 6, 7, 9, 12, 13, 14, 30, 31, 32])]
def D_signalboxref06_Nest : List (Nat × List Nat) := []
def T_signalboxref06_Nest_4 (end1 : Bool) (open5 : Int) (depth6 : Int) (locks7 : Sl) (t12 : Sl) (t13 : Int) (t14 : Int) : Env := mkEnv [(1, .bool end1), (5, .int .i64 open5), (6, .int .i64 depth6), (7, .slice locks7.p locks7.n locks7.c), (12, .slice t12.p t12.n t12.c), (13, .int .i64 t13), (14, .int .i64 t14)] 97 0
def K_signalboxref06_Nest_4 (end1 : Bool) (open5 : Int) (depth6 : Int) (locks7 : Sl) (t12 : Sl) (t13 : Int) (t14 : Int) : M Value := Cut Try.prog 72 (todoOf Try.f72 4) (T_signalboxref06_Nest_4 end1 open5 depth6 locks7 t12 t13 t14)
def T_signalboxref06_Nest_13 (end1 : Bool) (open5 : Int) (depth6 : Int) (locks7 : Sl) (o9 : Addr) (t12 : Sl) (t13 : Int) (t14 : Int) (t30 : Sl) (t31 : Int) (t32 : Int) : Env := mkEnv [(1, .bool end1), (5, .int .i64 open5), (6, .int .i64 depth6), (7, .slice locks7.p locks7.n locks7.c), (9, .pointer (some o9)), (12, .slice t12.p t12.n t12.c), (13, .int .i64 t13), (14, .int .i64 t14), (30, .slice t30.p t30.n t30.c), (31, .int .i64 t31), (32, .int .i64 t32)] 97 0
def K_signalboxref06_Nest_13 (end1 : Bool) (open5 : Int) (depth6 : Int) (locks7 : Sl) (o9 : Addr) (t12 : Sl) (t13 : Int) (t14 : Int) (t30 : Sl) (t31 : Int) (t32 : Int) : M Value := Cut Try.prog 72 (todoOf Try.f72 13) (T_signalboxref06_Nest_13 end1 open5 depth6 locks7 o9 t12 t13 t14 t30 t31 t32)
def B_signalboxref06_Nest (l0 : Sl) (end1 : Bool) : M Value :=
  K_signalboxref06_Nest_4 end1 (0 : Int) (0 : Int) (Sl.mk none 0 0) l0 (l0.n : Int) (0 : Int)
def B_signalboxref06_Nest_4 (end1 : Bool) (open5 : Int) (depth6 : Int) (locks7 : Sl) (t12 : Sl) (t13 : Int) (t14 : Int) : M Value :=
  mIf (decide (t14 < t13)) (
    mIdx t12 t14 3 fun (x16 : Addr) =>
    mLdI .i64 x16 fun (x17_0 : Int) =>
    mLdI .i64 (x16.add 1) fun (x17_1 : Int) =>
    mLdI .i64 (x16.add 2) fun (x17_2 : Int) =>
    mNew #[.int .i64 (0 : Int), .int .i64 (0 : Int), .int .i64 (0 : Int)] 78 fun (x9 : Addr) =>
    mSt x9 (.int .i64 x17_0) <|
    mSt (x9.add 1) (.int .i64 x17_1) <|
    mSt (x9.add 2) (.int .i64 x17_2) <|
    mLdI .i64 x9 fun (x19 : Int) =>
    mIf (x19 == (3 : Int)) (
      mIf ((decide ((IntKind.i64.wrap (open5 + (1 : Int))) < (0 : Int))) || (decide (depth6 < (0 : Int)))) (
        mRet (.bool false)) (
        K_signalboxref06_Nest_4 end1 (IntKind.i64.wrap (open5 + (1 : Int))) depth6 locks7 t12 t13 (IntKind.i64.wrap (t14 + (1 : Int))))) (
      mIf (x19 == (4 : Int)) (
        mIf ((decide ((IntKind.i64.wrap (open5 - (1 : Int))) < (0 : Int))) || (decide (depth6 < (0 : Int)))) (
          mRet (.bool false)) (
          K_signalboxref06_Nest_4 end1 (IntKind.i64.wrap (open5 - (1 : Int))) depth6 locks7 t12 t13 (IntKind.i64.wrap (t14 + (1 : Int))))) (
        mIf (x19 == (5 : Int)) (
          K_signalboxref06_Nest_13 end1 open5 depth6 locks7 x9 t12 t13 t14 locks7 (locks7.n : Int) (0 : Int)) (
          mIf (x19 == (6 : Int)) (
            mBind (mIf ((locks7.n : Int) == (0 : Int)) (mRet true) (mIdx locks7 (IntKind.i64.wrap ((locks7.n : Int) - (1 : Int))) 1 fun (x56 : Addr) =>
              mLdI .i64 x56 fun (x57 : Int) =>
              mLdI .i64 (x9.add 1) fun (x59 : Int) =>
              mRet (x57 != x59))) fun (b11 : Bool) =>
            mIf b11 (
              mRet (.bool false)) (
              mSlc locks7 1 (0 : Int) (IntKind.i64.wrap ((locks7.n : Int) - (1 : Int))) (locks7.c : Int) fun (x66 : Sl) =>
              mIf ((decide (open5 < (0 : Int))) || (decide (depth6 < (0 : Int)))) (
                mRet (.bool false)) (
                K_signalboxref06_Nest_4 end1 open5 depth6 x66 t12 t13 (IntKind.i64.wrap (t14 + (1 : Int)))))) (
            mIf (x19 == (7 : Int)) (
              mLdI .i64 (x9.add 1) fun (x71 : Int) =>
              mIf ((decide (open5 < (0 : Int))) || (decide ((IntKind.i64.wrap (depth6 + x71)) < (0 : Int)))) (
                mRet (.bool false)) (
                K_signalboxref06_Nest_4 end1 open5 (IntKind.i64.wrap (depth6 + x71)) locks7 t12 t13 (IntKind.i64.wrap (t14 + (1 : Int))))) (
              mIf (x19 == (8 : Int)) (
                mLdI .i64 (x9.add 1) fun (x77 : Int) =>
                mIf ((decide (open5 < (0 : Int))) || (decide ((IntKind.i64.wrap (depth6 - x77)) < (0 : Int)))) (
                  mRet (.bool false)) (
                  K_signalboxref06_Nest_4 end1 open5 (IntKind.i64.wrap (depth6 - x77)) locks7 t12 t13 (IntKind.i64.wrap (t14 + (1 : Int))))) (
                mIf ((decide (open5 < (0 : Int))) || (decide (depth6 < (0 : Int)))) (
                  mRet (.bool false)) (
                  K_signalboxref06_Nest_4 end1 open5 depth6 locks7 t12 t13 (IntKind.i64.wrap (t14 + (1 : Int))))))))))) (
    mBind (mIf (!end1) (mRet true) (mRet ((open5 == (0 : Int)) && ((locks7.n : Int) == (0 : Int))))) fun (b17 : Bool) =>
    mRet (.bool b17))
def B_signalboxref06_Nest_13 (end1 : Bool) (open5 : Int) (depth6 : Int) (locks7 : Sl) (o9 : Addr) (t12 : Sl) (t13 : Int) (t14 : Int) (t30 : Sl) (t31 : Int) (t32 : Int) : M Value :=
  mIf (decide (t32 < t31)) (
    mIdx t30 t32 1 fun (x34 : Addr) =>
    mLdI .i64 x34 fun (x35 : Int) =>
    mLdI .i64 (o9.add 1) fun (x38 : Int) =>
    mIf (x35 == x38) (
      mRet (.bool false)) (
      K_signalboxref06_Nest_13 end1 open5 depth6 locks7 o9 t12 t13 t14 t30 t31 (IntKind.i64.wrap (t32 + (1 : Int))))) (
    mLdI .i64 (o9.add 1) fun (x43 : Int) =>
    mNew #[.int .i64 x43] 3 fun (x44 : Addr) =>
    mApp 3 1 8 #[.int .i64 (0 : Int)] locks7 ⟨(some x44), 1, 1⟩ fun (x45 : Sl) =>
    mIf ((decide (open5 < (0 : Int))) || (decide (depth6 < (0 : Int)))) (
      mRet (.bool false)) (
      K_signalboxref06_Nest_4 end1 open5 depth6 x45 t12 t13 (IntKind.i64.wrap (t14 + (1 : Int)))))
theorem E_signalboxref06_Nest (l0 : Sl) (end1 : Bool) : ev Try.prog 72 Try.f72.results.toList C_signalboxref06_Nest D_signalboxref06_Nest 400 false [.code (bodyOf Try.f72)] (List.map some [.slice l0.p l0.n l0.c, .bool end1] ++ List.replicate (Try.f72.ntmps - List.length ([.slice l0.p l0.n l0.c, .bool end1] : List Value)) none) = B_signalboxref06_Nest l0 end1 := by kernel_rfl
theorem S_signalboxref06_Nest (l0 : Sl) (end1 : Bool) {h : Hp} {Q : Value → Hp → Prop} (hb : B_signalboxref06_Nest l0 end1 h Q) : N_signalboxref06_Nest l0 end1 h Q :=
  Nf.of_ev Try.call72 Try.func72 (c := bodyOf Try.f72) rfl mixed C_signalboxref06_Nest D_signalboxref06_Nest 400 (args := [.slice l0.p l0.n l0.c, .bool end1]) (by rw [E_signalboxref06_Nest]; exact hb)
theorem E_signalboxref06_Nest_4 (end1 : Bool) (open5 : Int) (depth6 : Int) (locks7 : Sl) (t12 : Sl) (t13 : Int) (t14 : Int) : ev Try.prog 72 Try.f72.results.toList C_signalboxref06_Nest D_signalboxref06_Nest 400 true (todoOf Try.f72 4) (T_signalboxref06_Nest_4 end1 open5 depth6 locks7 t12 t13 t14) = B_signalboxref06_Nest_4 end1 open5 depth6 locks7 t12 t13 t14 := by kernel_rfl
theorem S_signalboxref06_Nest_4 (end1 : Bool) (open5 : Int) (depth6 : Int) (locks7 : Sl) (t12 : Sl) (t13 : Int) (t14 : Int) {h : Hp} {Q : Value → Hp → Prop} (hb : B_signalboxref06_Nest_4 end1 open5 depth6 locks7 t12 t13 t14 h Q) : K_signalboxref06_Nest_4 end1 open5 depth6 locks7 t12 t13 t14 h Q :=
  Cut.of_ev Try.func72 mixed C_signalboxref06_Nest D_signalboxref06_Nest 400 (by rw [E_signalboxref06_Nest_4]; exact hb)
theorem E_signalboxref06_Nest_13 (end1 : Bool) (open5 : Int) (depth6 : Int) (locks7 : Sl) (o9 : Addr) (t12 : Sl) (t13 : Int) (t14 : Int) (t30 : Sl) (t31 : Int) (t32 : Int) : ev Try.prog 72 Try.f72.results.toList C_signalboxref06_Nest D_signalboxref06_Nest 400 true (todoOf Try.f72 13) (T_signalboxref06_Nest_13 end1 open5 depth6 locks7 o9 t12 t13 t14 t30 t31 t32) = B_signalboxref06_Nest_13 end1 open5 depth6 locks7 o9 t12 t13 t14 t30 t31 t32 := by kernel_rfl
theorem S_signalboxref06_Nest_13 (end1 : Bool) (open5 : Int) (depth6 : Int) (locks7 : Sl) (o9 : Addr) (t12 : Sl) (t13 : Int) (t14 : Int) (t30 : Sl) (t31 : Int) (t32 : Int) {h : Hp} {Q : Value → Hp → Prop} (hb : B_signalboxref06_Nest_13 end1 open5 depth6 locks7 o9 t12 t13 t14 t30 t31 t32 h Q) : K_signalboxref06_Nest_13 end1 open5 depth6 locks7 o9 t12 t13 t14 t30 t31 t32 h Q :=
  Cut.of_ev Try.func72 mixed C_signalboxref06_Nest D_signalboxref06_Nest 400 (by rw [E_signalboxref06_Nest_13]; exact hb)
def C_slices_IndexFunc_int_int : List (Nat × List Nat) := [(2, [0, 1, 7, 8])]
def D_slices_IndexFunc_int_int : List (Nat × List Nat) := []
def T_slices_IndexFunc_int_int_2 (s0 : Sl) (f1g : Nat) (f1f : Array Value) (f1c : Array Value) (t7 : Int) (t8 : Int) : Env := mkEnv [(0, .slice s0.p s0.n s0.c), (1, .func (.func f1g) f1f f1c), (7, .int .i64 t7), (8, .int .i64 t8)] 19 0
def K_slices_IndexFunc_int_int_2 (s0 : Sl) (f1g : Nat) (f1f : Array Value) (f1c : Array Value) (t7 : Int) (t8 : Int) : M Value := Cut Try.prog 75 (todoOf Try.f75 2) (T_slices_IndexFunc_int_int_2 s0 f1g f1f f1c t7 t8)
def B_slices_IndexFunc_int_int (s0 : Sl) (f1g : Nat) (f1f : Array Value) (f1c : Array Value) : M Value :=
  K_slices_IndexFunc_int_int_2 s0 f1g f1f f1c (s0.n : Int) (0 : Int)
def B_slices_IndexFunc_int_int_2 (s0 : Sl) (f1g : Nat) (f1f : Array Value) (f1c : Array Value) (t7 : Int) (t8 : Int) : M Value :=
  mIf (decide (t8 < t7)) (
    mIdx s0 t8 1 fun (x14 : Addr) =>
    mLdI .i64 x14 fun (x15 : Int) =>
    mBind (Nf Try.prog f1g (f1f ++ #[.int .i64 x15] ++ f1c)) fun r16 =>
    unB r16 fun (x16 : Bool) =>
    mIf x16 (
      mRet (.int .i64 t8)) (
      K_slices_IndexFunc_int_int_2 s0 f1g f1f f1c t7 (IntKind.i64.wrap (t8 + (1 : Int))))) (
    mRet (.int .i64 (-1 : Int)))
theorem E_slices_IndexFunc_int_int (s0 : Sl) (f1g : Nat) (f1f : Array Value) (f1c : Array Value) : ev Try.prog 75 Try.f75.results.toList C_slices_IndexFunc_int_int D_slices_IndexFunc_int_int 400 false [.code (bodyOf Try.f75)] (List.map some [.slice s0.p s0.n s0.c, .func (.func f1g) f1f f1c] ++ List.replicate (Try.f75.ntmps - List.length ([.slice s0.p s0.n s0.c, .func (.func f1g) f1f f1c] : List Value)) none) = B_slices_IndexFunc_int_int s0 f1g f1f f1c := by kernel_rfl
theorem S_slices_IndexFunc_int_int (s0 : Sl) (f1g : Nat) (f1f : Array Value) (f1c : Array Value) {h : Hp} {Q : Value → Hp → Prop} (hb : B_slices_IndexFunc_int_int s0 f1g f1f f1c h Q) : N_slices_IndexFunc_int_int s0 f1g f1f f1c h Q :=
  Nf.of_ev Try.call75 Try.func75 (c := bodyOf Try.f75) rfl mixed C_slices_IndexFunc_int_int D_slices_IndexFunc_int_int 400 (args := [.slice s0.p s0.n s0.c, .func (.func f1g) f1f f1c]) (by rw [E_slices_IndexFunc_int_int]; exact hb)
theorem E_slices_IndexFunc_int_int_2 (s0 : Sl) (f1g : Nat) (f1f : Array Value) (f1c : Array Value) (t7 : Int) (t8 : Int) : ev Try.prog 75 Try.f75.results.toList C_slices_IndexFunc_int_int D_slices_IndexFunc_int_int 400 true (todoOf Try.f75 2) (T_slices_IndexFunc_int_int_2 s0 f1g f1f f1c t7 t8) = B_slices_IndexFunc_int_int_2 s0 f1g f1f f1c t7 t8 := by kernel_rfl
theorem S_slices_IndexFunc_int_int_2 (s0 : Sl) (f1g : Nat) (f1f : Array Value) (f1c : Array Value) (t7 : Int) (t8 : Int) {h : Hp} {Q : Value → Hp → Prop} (hb : B_slices_IndexFunc_int_int_2 s0 f1g f1f f1c t7 t8 h Q) : K_slices_IndexFunc_int_int_2 s0 f1g f1f f1c t7 t8 h Q :=
  Cut.of_ev Try.func75 mixed C_slices_IndexFunc_int_int D_slices_IndexFunc_int_int 400 (by rw [E_slices_IndexFunc_int_int_2]; exact hb)
def C_prog_Op : List (Nat × List Nat) := []
def D_prog_Op : List (Nat × List Nat) := []
def B_prog_Op (o0_0 : Int) (o0_1 : Int) (o0_2 : Int) (r1_0 : Int) (r1_1 : Int) (r1_2 : Int) (r1_3 : Int) : M Value :=
  mNew #[.int .i64 o0_0, .int .i64 o0_1, .int .i64 o0_2] 78 fun (x2 : Addr) =>
  mNew #[.int .i64 r1_0, .int .i64 r1_1, .int .i64 r1_2, .int .i64 r1_3] 126 fun (x3 : Addr) =>
  mLdI .i64 x2 fun (x8 : Int) =>
  mBind (N_prog_Numbers x8) fun r9 =>
  unI .i64 r9 fun (x9 : Int) =>
  mIf (decide (x9 < (0 : Int))) (
    mRet (.int .i64 (1 : Int))) (
    mLdI .i64 x3 fun (x12_0 : Int) =>
    mLdI .i64 (x3.add 1) fun (x12_1 : Int) =>
    mLdI .i64 (x3.add 2) fun (x12_2 : Int) =>
    mLdI .i64 (x3.add 3) fun (x12_3 : Int) =>
    mLdI .i64 x2 fun (x14 : Int) =>
    mBind (N_prog_Room_spans x12_0 x12_1 x12_2 x12_3 x14) fun r15 =>
    unT r15 fun x15l =>
    unC x15l fun x15v0 x15l0 =>
    unA x15v0 fun x15_0l =>
    unC x15_0l fun x15_0v0 x15_0l0 =>
    unI .i64 x15_0v0 fun (x15_0_0 : Int) =>
    unC x15_0l0 fun x15_0v1 x15_0l1 =>
    unI .i64 x15_0v1 fun (x15_0_1 : Int) =>
    unE x15_0l1 <|
    unC x15l0 fun x15v1 x15l1 =>
    unA x15v1 fun x15_1l =>
    unC x15_1l fun x15_1v0 x15_1l0 =>
    unI .i64 x15_1v0 fun (x15_1_0 : Int) =>
    unC x15_1l0 fun x15_1v1 x15_1l1 =>
    unI .i64 x15_1v1 fun (x15_1_1 : Int) =>
    unE x15_1l1 <|
    unE x15l1 <|
    mNew #[.int .i64 (0 : Int), .int .i64 (0 : Int)] 143 fun (x5 : Addr) =>
    mNew #[.int .i64 (0 : Int), .int .i64 (0 : Int)] 143 fun (x6 : Addr) =>
    mSt x5 (.int .i64 x15_0_0) <|
    mSt (x5.add 1) (.int .i64 x15_0_1) <|
    mSt x6 (.int .i64 x15_1_0) <|
    mSt (x6.add 1) (.int .i64 x15_1_1) <|
    mLdI .i64 x5 fun (x18_0 : Int) =>
    mLdI .i64 (x5.add 1) fun (x18_1 : Int) =>
    mLdI .i64 (x2.add 1) fun (x20 : Int) =>
    mBind (N_prog_span_has x18_0 x18_1 x20) fun r21 =>
    unB r21 fun (x21 : Bool) =>
    mBind (mIf (!x21) (mRet true) (mLdI .i64 x6 fun (x24_0 : Int) =>
      mLdI .i64 (x6.add 1) fun (x24_1 : Int) =>
      mLdI .i64 (x2.add 2) fun (x26 : Int) =>
      mBind (N_prog_span_has x24_0 x24_1 x26) fun r27 =>
      unB r27 fun (x27 : Bool) =>
      mRet (!x27))) fun (b22 : Bool) =>
    mIf b22 (
      mRet (.int .i64 (5 : Int))) (
      mRet (.int .i64 (0 : Int))))
theorem E_prog_Op (o0_0 : Int) (o0_1 : Int) (o0_2 : Int) (r1_0 : Int) (r1_1 : Int) (r1_2 : Int) (r1_3 : Int) : ev Try.prog 76 Try.f76.results.toList C_prog_Op D_prog_Op 400 false [.code (bodyOf Try.f76)] (List.map some [.agg #[.int .i64 o0_0, .int .i64 o0_1, .int .i64 o0_2], .agg #[.int .i64 r1_0, .int .i64 r1_1, .int .i64 r1_2, .int .i64 r1_3]] ++ List.replicate (Try.f76.ntmps - List.length ([.agg #[.int .i64 o0_0, .int .i64 o0_1, .int .i64 o0_2], .agg #[.int .i64 r1_0, .int .i64 r1_1, .int .i64 r1_2, .int .i64 r1_3]] : List Value)) none) = B_prog_Op o0_0 o0_1 o0_2 r1_0 r1_1 r1_2 r1_3 := by kernel_rfl
theorem S_prog_Op (o0_0 : Int) (o0_1 : Int) (o0_2 : Int) (r1_0 : Int) (r1_1 : Int) (r1_2 : Int) (r1_3 : Int) {h : Hp} {Q : Value → Hp → Prop} (hb : B_prog_Op o0_0 o0_1 o0_2 r1_0 r1_1 r1_2 r1_3 h Q) : N_prog_Op o0_0 o0_1 o0_2 r1_0 r1_1 r1_2 r1_3 h Q :=
  Nf.of_ev Try.call76 Try.func76 (c := bodyOf Try.f76) rfl mixed C_prog_Op D_prog_Op 400 (args := [.agg #[.int .i64 o0_0, .int .i64 o0_1, .int .i64 o0_2], .agg #[.int .i64 r1_0, .int .i64 r1_1, .int .i64 r1_2, .int .i64 r1_3]]) (by rw [E_prog_Op]; exact hb)
def C_prog_nest_step : List (Nat × List Nat) := [(19, [0])]
def D_prog_nest_step : List (Nat × List Nat) := [(7, [0, 1, 2, 3, 4, 5, 6]), (9, [0, 1, 2, 3, 4, 5, 6]), (13, [])]
def T_prog_nest_step_19 (n0 : Option Addr) : Env := mkEnv [(0, .pointer n0)] 111 0
def K_prog_nest_step_19 (n0 : Option Addr) : M Value := Cut Try.prog 77 (todoOf Try.f77 19) (T_prog_nest_step_19 n0)
def B_prog_nest_step (n0 : Option Addr) (o1_0 : Int) (o1_1 : Int) (o1_2 : Int) : M Value :=
  mNew #[.int .i64 o1_0, .int .i64 o1_1, .int .i64 o1_2] 78 fun (x3 : Addr) =>
  mLdI .i64 x3 fun (x7 : Int) =>
  mIf (x7 == (3 : Int)) (
    mNil n0 fun (a5 : Addr) =>
    mLdI .i64 a5 fun (x13 : Int) =>
    mNil n0 fun (a9 : Addr) =>
    mSt a9 (.int .i64 (IntKind.i64.wrap (x13 + (1 : Int)))) <|
    K_prog_nest_step_19 n0) (
    mIf (x7 == (4 : Int)) (
      mNil n0 fun (a13 : Addr) =>
      mLdI .i64 a13 fun (x22 : Int) =>
      mNil n0 fun (a17 : Addr) =>
      mSt a17 (.int .i64 (IntKind.i64.wrap (x22 - (1 : Int)))) <|
      K_prog_nest_step_19 n0) (
      mIf (x7 == (7 : Int)) (
        mNil n0 fun (a21 : Addr) =>
        mLdI .i64 (a21.add 1) fun (x31 : Int) =>
        mLdI .i64 (x3.add 1) fun (x33 : Int) =>
        mNil n0 fun (a27 : Addr) =>
        mSt (a27.add 1) (.int .i64 (IntKind.i64.wrap (x31 + x33))) <|
        K_prog_nest_step_19 n0) (
        mIf (x7 == (8 : Int)) (
          mNil n0 fun (a31 : Addr) =>
          mLdI .i64 (a31.add 1) fun (x42 : Int) =>
          mLdI .i64 (x3.add 1) fun (x44 : Int) =>
          mNil n0 fun (a37 : Addr) =>
          mSt (a37.add 1) (.int .i64 (IntKind.i64.wrap (x42 - x44))) <|
          K_prog_nest_step_19 n0) (
          mIf (x7 == (5 : Int)) (
            mNil n0 fun (a41 : Addr) =>
            mLdL (a41.add 2) fun (x53 : Sl) =>
            mLdI .i64 (x3.add 1) fun (x55 : Int) =>
            mQ (N_slices_Contains_int_int x53 x55) fun r56 =>
            unB r56 fun (x56 : Bool) =>
            mIf x56 (
              mRet (.bool false)) (
              mNil n0 fun (a48 : Addr) =>
              mAnd (
                mLdL (a48.add 2) fun (x61_66 : Sl) =>
                mLdI .i64 (x3.add 1) fun (x63_67 : Int) =>
                mNew #[.int .i64 x63_67] 3 fun (x64_68 : Addr) =>
                mApp 3 1 8 #[.int .i64 (0 : Int)] x61_66 ⟨(some x64_68), 1, 1⟩ fun (x65_69 : Sl) =>
                mNil n0 fun (a71 : Addr) =>
                mSt (a71.add 2) (.slice x65_69.p x65_69.n x65_69.c) <|
                K_prog_nest_step_19 n0) (
                mLdI .i64 (x3.add 1) fun (x63 : Int) =>
                mAnd (
                  mLdL (a48.add 2) fun (x61_59 : Sl) =>
                  mNew #[.int .i64 x63] 3 fun (x64_60 : Addr) =>
                  mApp 3 1 8 #[.int .i64 (0 : Int)] x61_59 ⟨(some x64_60), 1, 1⟩ fun (x65_61 : Sl) =>
                  mNil n0 fun (a63 : Addr) =>
                  mSt (a63.add 2) (.slice x65_61.p x65_61.n x65_61.c) <|
                  K_prog_nest_step_19 n0) (
                  mNew #[.int .i64 x63] 3 fun (x64 : Addr) =>
                  mLdL (a48.add 2) fun (x61 : Sl) =>
                  mApp 3 1 8 #[.int .i64 (0 : Int)] x61 ⟨(some x64), 1, 1⟩ fun (x65 : Sl) =>
                  mNil n0 fun (a56 : Addr) =>
                  mSt (a56.add 2) (.slice x65.p x65.n x65.c) <|
                  K_prog_nest_step_19 n0)))) (
            mIf (x7 == (6 : Int)) (
              mNil n0 fun (a75 : Addr) =>
              mLdL (a75.add 2) fun (x73_77 : Sl) =>
              mBind (mIf (decide ((IntKind.i64.wrap ((x73_77.n : Int) - (1 : Int))) < (0 : Int))) (mRet true) (mNil n0 fun (a79 : Addr) =>
                mLdL (a79.add 2) fun (x82 : Sl) =>
                mIdx x82 (IntKind.i64.wrap ((x73_77.n : Int) - (1 : Int))) 1 fun (x84 : Addr) =>
                mLdI .i64 x84 fun (x85 : Int) =>
                mLdI .i64 (x3.add 1) fun (x87 : Int) =>
                mRet (x85 != x87))) fun (b86 : Bool) =>
              mIf b86 (
                mRet (.bool false)) (
                mNil n0 fun (a88 : Addr) =>
                mLdL (a88.add 2) fun (x94 : Sl) =>
                mSlc x94 1 (0 : Int) (IntKind.i64.wrap ((x73_77.n : Int) - (1 : Int))) (x94.c : Int) fun (x96 : Sl) =>
                mNil n0 fun (a93 : Addr) =>
                mSt (a93.add 2) (.slice x96.p x96.n x96.c) <|
                K_prog_nest_step_19 n0)) (
              K_prog_nest_step_19 n0))))))
def B_prog_nest_step_19 (n0 : Option Addr) : M Value :=
  mNil n0 fun (a97 : Addr) =>
  mLdI .i64 a97 fun (x102 : Int) =>
  mBind (mIf (decide (x102 ≥ (0 : Int))) (mNil n0 fun (a101 : Addr) =>
    mLdI .i64 (a101.add 1) fun (x108 : Int) =>
    mRet (decide (x108 ≥ (0 : Int)))) (mRet false)) fun (b104 : Bool) =>
  mRet (.bool b104)
theorem E_prog_nest_step (n0 : Option Addr) (o1_0 : Int) (o1_1 : Int) (o1_2 : Int) : ev Try.prog 77 Try.f77.results.toList C_prog_nest_step D_prog_nest_step 400 false [.code (bodyOf Try.f77)] (List.map some [.pointer n0, .agg #[.int .i64 o1_0, .int .i64 o1_1, .int .i64 o1_2]] ++ List.replicate (Try.f77.ntmps - List.length ([.pointer n0, .agg #[.int .i64 o1_0, .int .i64 o1_1, .int .i64 o1_2]] : List Value)) none) = B_prog_nest_step n0 o1_0 o1_1 o1_2 := by kernel_rfl
theorem S_prog_nest_step (n0 : Option Addr) (o1_0 : Int) (o1_1 : Int) (o1_2 : Int) {h : Hp} {Q : Value → Hp → Prop} (hb : B_prog_nest_step n0 o1_0 o1_1 o1_2 h Q) : N_prog_nest_step n0 o1_0 o1_1 o1_2 h Q :=
  Nf.of_ev Try.call77 Try.func77 (c := bodyOf Try.f77) rfl mixed C_prog_nest_step D_prog_nest_step 400 (args := [.pointer n0, .agg #[.int .i64 o1_0, .int .i64 o1_1, .int .i64 o1_2]]) (by rw [E_prog_nest_step]; exact hb)
theorem E_prog_nest_step_19 (n0 : Option Addr) : ev Try.prog 77 Try.f77.results.toList C_prog_nest_step D_prog_nest_step 400 true (todoOf Try.f77 19) (T_prog_nest_step_19 n0) = B_prog_nest_step_19 n0 := by kernel_rfl
theorem S_prog_nest_step_19 (n0 : Option Addr) {h : Hp} {Q : Value → Hp → Prop} (hb : B_prog_nest_step_19 n0 h Q) : K_prog_nest_step_19 n0 h Q :=
  Cut.of_ev Try.func77 mixed C_prog_nest_step D_prog_nest_step 400 (by rw [E_prog_nest_step_19]; exact hb)
def C_slices_IndexFunc_api_Op_api_Op : List (Nat × List Nat) := [(2, [0, 1, 7, 8])]
def D_slices_IndexFunc_api_Op_api_Op : List (Nat × List Nat) := []
def T_slices_IndexFunc_api_Op_api_Op_2 (s0 : Sl) (f1g : Nat) (f1f : Array Value) (f1c : Array Value) (t7 : Int) (t8 : Int) : Env := mkEnv [(0, .slice s0.p s0.n s0.c), (1, .func (.func f1g) f1f f1c), (7, .int .i64 t7), (8, .int .i64 t8)] 19 0
def K_slices_IndexFunc_api_Op_api_Op_2 (s0 : Sl) (f1g : Nat) (f1f : Array Value) (f1c : Array Value) (t7 : Int) (t8 : Int) : M Value := Cut Try.prog 78 (todoOf Try.f78 2) (T_slices_IndexFunc_api_Op_api_Op_2 s0 f1g f1f f1c t7 t8)
def B_slices_IndexFunc_api_Op_api_Op (s0 : Sl) (f1g : Nat) (f1f : Array Value) (f1c : Array Value) : M Value :=
  K_slices_IndexFunc_api_Op_api_Op_2 s0 f1g f1f f1c (s0.n : Int) (0 : Int)
def B_slices_IndexFunc_api_Op_api_Op_2 (s0 : Sl) (f1g : Nat) (f1f : Array Value) (f1c : Array Value) (t7 : Int) (t8 : Int) : M Value :=
  mIf (decide (t8 < t7)) (
    mIdx s0 t8 3 fun (x14 : Addr) =>
    mLdI .i64 x14 fun (x15_0 : Int) =>
    mLdI .i64 (x14.add 1) fun (x15_1 : Int) =>
    mLdI .i64 (x14.add 2) fun (x15_2 : Int) =>
    mBind (Nf Try.prog f1g (f1f ++ #[.agg #[.int .i64 x15_0, .int .i64 x15_1, .int .i64 x15_2]] ++ f1c)) fun r16 =>
    unB r16 fun (x16 : Bool) =>
    mIf x16 (
      mRet (.int .i64 t8)) (
      K_slices_IndexFunc_api_Op_api_Op_2 s0 f1g f1f f1c t7 (IntKind.i64.wrap (t8 + (1 : Int))))) (
    mRet (.int .i64 (-1 : Int)))
theorem E_slices_IndexFunc_api_Op_api_Op (s0 : Sl) (f1g : Nat) (f1f : Array Value) (f1c : Array Value) : ev Try.prog 78 Try.f78.results.toList C_slices_IndexFunc_api_Op_api_Op D_slices_IndexFunc_api_Op_api_Op 400 false [.code (bodyOf Try.f78)] (List.map some [.slice s0.p s0.n s0.c, .func (.func f1g) f1f f1c] ++ List.replicate (Try.f78.ntmps - List.length ([.slice s0.p s0.n s0.c, .func (.func f1g) f1f f1c] : List Value)) none) = B_slices_IndexFunc_api_Op_api_Op s0 f1g f1f f1c := by kernel_rfl
theorem S_slices_IndexFunc_api_Op_api_Op (s0 : Sl) (f1g : Nat) (f1f : Array Value) (f1c : Array Value) {h : Hp} {Q : Value → Hp → Prop} (hb : B_slices_IndexFunc_api_Op_api_Op s0 f1g f1f f1c h Q) : N_slices_IndexFunc_api_Op_api_Op s0 f1g f1f f1c h Q :=
  Nf.of_ev Try.call78 Try.func78 (c := bodyOf Try.f78) rfl mixed C_slices_IndexFunc_api_Op_api_Op D_slices_IndexFunc_api_Op_api_Op 400 (args := [.slice s0.p s0.n s0.c, .func (.func f1g) f1f f1c]) (by rw [E_slices_IndexFunc_api_Op_api_Op]; exact hb)
theorem E_slices_IndexFunc_api_Op_api_Op_2 (s0 : Sl) (f1g : Nat) (f1f : Array Value) (f1c : Array Value) (t7 : Int) (t8 : Int) : ev Try.prog 78 Try.f78.results.toList C_slices_IndexFunc_api_Op_api_Op D_slices_IndexFunc_api_Op_api_Op 400 true (todoOf Try.f78 2) (T_slices_IndexFunc_api_Op_api_Op_2 s0 f1g f1f f1c t7 t8) = B_slices_IndexFunc_api_Op_api_Op_2 s0 f1g f1f f1c t7 t8 := by kernel_rfl
theorem S_slices_IndexFunc_api_Op_api_Op_2 (s0 : Sl) (f1g : Nat) (f1f : Array Value) (f1c : Array Value) (t7 : Int) (t8 : Int) {h : Hp} {Q : Value → Hp → Prop} (hb : B_slices_IndexFunc_api_Op_api_Op_2 s0 f1g f1f f1c t7 t8 h Q) : K_slices_IndexFunc_api_Op_api_Op_2 s0 f1g f1f f1c t7 t8 h Q :=
  Cut.of_ev Try.func78 mixed C_slices_IndexFunc_api_Op_api_Op D_slices_IndexFunc_api_Op_api_Op 400 (by rw [E_slices_IndexFunc_api_Op_api_Op_2]; exact hb)
def C_slices_IndexFunc_api_Task_api_Task : List (Nat × List Nat) := [(2, [0, 1, 7, 8])]
def D_slices_IndexFunc_api_Task_api_Task : List (Nat × List Nat) := []
def T_slices_IndexFunc_api_Task_api_Task_2 (s0 : Sl) (f1g : Nat) (f1f : Array Value) (f1c : Array Value) (t7 : Int) (t8 : Int) : Env := mkEnv [(0, .slice s0.p s0.n s0.c), (1, .func (.func f1g) f1f f1c), (7, .int .i64 t7), (8, .int .i64 t8)] 19 0
def K_slices_IndexFunc_api_Task_api_Task_2 (s0 : Sl) (f1g : Nat) (f1f : Array Value) (f1c : Array Value) (t7 : Int) (t8 : Int) : M Value := Cut Try.prog 79 (todoOf Try.f79 2) (T_slices_IndexFunc_api_Task_api_Task_2 s0 f1g f1f f1c t7 t8)
def B_slices_IndexFunc_api_Task_api_Task (s0 : Sl) (f1g : Nat) (f1f : Array Value) (f1c : Array Value) : M Value :=
  K_slices_IndexFunc_api_Task_api_Task_2 s0 f1g f1f f1c (s0.n : Int) (0 : Int)
def B_slices_IndexFunc_api_Task_api_Task_2 (s0 : Sl) (f1g : Nat) (f1f : Array Value) (f1c : Array Value) (t7 : Int) (t8 : Int) : M Value :=
  mIf (decide (t8 < t7)) (
    mIdx s0 t8 7 fun (x14 : Addr) =>
    mLdI .i64 x14 fun (x15_0 : Int) =>
    mLdI .i64 (x14.add 1) fun (x15_1 : Int) =>
    mLdI .i64 (x14.add 2) fun (x15_2 : Int) =>
    mLdI .i64 (x14.add 3) fun (x15_3 : Int) =>
    mLdI .i64 (x14.add 4) fun (x15_4 : Int) =>
    mLdI .i64 (x14.add 5) fun (x15_5 : Int) =>
    mLdL (x14.add 6) fun (x15_6 : Sl) =>
    mBind (Nf Try.prog f1g (f1f ++ #[.agg #[.int .i64 x15_0, .int .i64 x15_1, .int .i64 x15_2, .int .i64 x15_3, .int .i64 x15_4, .int .i64 x15_5, .slice x15_6.p x15_6.n x15_6.c]] ++ f1c)) fun r16 =>
    unB r16 fun (x16 : Bool) =>
    mIf x16 (
      mRet (.int .i64 t8)) (
      K_slices_IndexFunc_api_Task_api_Task_2 s0 f1g f1f f1c t7 (IntKind.i64.wrap (t8 + (1 : Int))))) (
    mRet (.int .i64 (-1 : Int)))
theorem E_slices_IndexFunc_api_Task_api_Task (s0 : Sl) (f1g : Nat) (f1f : Array Value) (f1c : Array Value) : ev Try.prog 79 Try.f79.results.toList C_slices_IndexFunc_api_Task_api_Task D_slices_IndexFunc_api_Task_api_Task 400 false [.code (bodyOf Try.f79)] (List.map some [.slice s0.p s0.n s0.c, .func (.func f1g) f1f f1c] ++ List.replicate (Try.f79.ntmps - List.length ([.slice s0.p s0.n s0.c, .func (.func f1g) f1f f1c] : List Value)) none) = B_slices_IndexFunc_api_Task_api_Task s0 f1g f1f f1c := by kernel_rfl
theorem S_slices_IndexFunc_api_Task_api_Task (s0 : Sl) (f1g : Nat) (f1f : Array Value) (f1c : Array Value) {h : Hp} {Q : Value → Hp → Prop} (hb : B_slices_IndexFunc_api_Task_api_Task s0 f1g f1f f1c h Q) : N_slices_IndexFunc_api_Task_api_Task s0 f1g f1f f1c h Q :=
  Nf.of_ev Try.call79 Try.func79 (c := bodyOf Try.f79) rfl mixed C_slices_IndexFunc_api_Task_api_Task D_slices_IndexFunc_api_Task_api_Task 400 (args := [.slice s0.p s0.n s0.c, .func (.func f1g) f1f f1c]) (by rw [E_slices_IndexFunc_api_Task_api_Task]; exact hb)
theorem E_slices_IndexFunc_api_Task_api_Task_2 (s0 : Sl) (f1g : Nat) (f1f : Array Value) (f1c : Array Value) (t7 : Int) (t8 : Int) : ev Try.prog 79 Try.f79.results.toList C_slices_IndexFunc_api_Task_api_Task D_slices_IndexFunc_api_Task_api_Task 400 true (todoOf Try.f79 2) (T_slices_IndexFunc_api_Task_api_Task_2 s0 f1g f1f f1c t7 t8) = B_slices_IndexFunc_api_Task_api_Task_2 s0 f1g f1f f1c t7 t8 := by kernel_rfl
theorem S_slices_IndexFunc_api_Task_api_Task_2 (s0 : Sl) (f1g : Nat) (f1f : Array Value) (f1c : Array Value) (t7 : Int) (t8 : Int) {h : Hp} {Q : Value → Hp → Prop} (hb : B_slices_IndexFunc_api_Task_api_Task_2 s0 f1g f1f f1c t7 t8 h Q) : K_slices_IndexFunc_api_Task_api_Task_2 s0 f1g f1f f1c t7 t8 h Q :=
  Cut.of_ev Try.func79 mixed C_slices_IndexFunc_api_Task_api_Task D_slices_IndexFunc_api_Task_api_Task 400 (by rw [E_slices_IndexFunc_api_Task_api_Task_2]; exact hb)
def C_signalboxref06_Numbers : List (Nat × List Nat) := [(5, [0, 3])]
def D_signalboxref06_Numbers : List (Nat × List Nat) := []
def T_signalboxref06_Numbers_5 (kind0 : Int) (t3 : Int) : Env := mkEnv [(0, .int .i64 kind0), (3, .int .i64 t3)] 18 0
def K_signalboxref06_Numbers_5 (kind0 : Int) (t3 : Int) : M Value := Cut Try.prog 80 (todoOf Try.f80 5) (T_signalboxref06_Numbers_5 kind0 t3)
def B_signalboxref06_Numbers (kind0 : Int) : M Value :=
  mIf (kind0 == (3 : Int)) (
    mIf (kind0 == (3 : Int)) (
      mRet (.int .i64 (0 : Int))) (
      K_signalboxref06_Numbers_5 kind0 kind0)) (
    mIf (kind0 == (4 : Int)) (
      mRet (.int .i64 (0 : Int))) (
      K_signalboxref06_Numbers_5 kind0 kind0))
def B_signalboxref06_Numbers_5 (kind0 : Int) (t3 : Int) : M Value :=
  mIf (t3 == (9 : Int)) (
    mIf (t3 == (9 : Int)) (
      mRet (.int .i64 (2 : Int))) (
      mIf ((decide (kind0 < (1 : Int))) || (decide (kind0 > (15 : Int)))) (
        mRet (.int .i64 (-1 : Int))) (
        mRet (.int .i64 (1 : Int))))) (
    mIf (t3 == (11 : Int)) (
      mIf (t3 == (11 : Int)) (
        mRet (.int .i64 (2 : Int))) (
        mIf ((decide (kind0 < (1 : Int))) || (decide (kind0 > (15 : Int)))) (
          mRet (.int .i64 (-1 : Int))) (
          mRet (.int .i64 (1 : Int))))) (
      mIf (t3 == (12 : Int)) (
        mIf (t3 == (12 : Int)) (
          mRet (.int .i64 (2 : Int))) (
          mIf ((decide (kind0 < (1 : Int))) || (decide (kind0 > (15 : Int)))) (
            mRet (.int .i64 (-1 : Int))) (
            mRet (.int .i64 (1 : Int))))) (
        mIf (t3 == (13 : Int)) (
          mRet (.int .i64 (2 : Int))) (
          mIf ((decide (kind0 < (1 : Int))) || (decide (kind0 > (15 : Int)))) (
            mRet (.int .i64 (-1 : Int))) (
            mRet (.int .i64 (1 : Int)))))))
theorem E_signalboxref06_Numbers (kind0 : Int) : ev Try.prog 80 Try.f80.results.toList C_signalboxref06_Numbers D_signalboxref06_Numbers 400 false [.code (bodyOf Try.f80)] (List.map some [.int .i64 kind0] ++ List.replicate (Try.f80.ntmps - List.length ([.int .i64 kind0] : List Value)) none) = B_signalboxref06_Numbers kind0 := by kernel_rfl
theorem S_signalboxref06_Numbers (kind0 : Int) {h : Hp} {Q : Value → Hp → Prop} (hb : B_signalboxref06_Numbers kind0 h Q) : N_signalboxref06_Numbers kind0 h Q :=
  Nf.of_ev Try.call80 Try.func80 (c := bodyOf Try.f80) rfl mixed C_signalboxref06_Numbers D_signalboxref06_Numbers 400 (args := [.int .i64 kind0]) (by rw [E_signalboxref06_Numbers]; exact hb)
theorem E_signalboxref06_Numbers_5 (kind0 : Int) (t3 : Int) : ev Try.prog 80 Try.f80.results.toList C_signalboxref06_Numbers D_signalboxref06_Numbers 400 true (todoOf Try.f80 5) (T_signalboxref06_Numbers_5 kind0 t3) = B_signalboxref06_Numbers_5 kind0 t3 := by kernel_rfl
theorem S_signalboxref06_Numbers_5 (kind0 : Int) (t3 : Int) {h : Hp} {Q : Value → Hp → Prop} (hb : B_signalboxref06_Numbers_5 kind0 t3 h Q) : K_signalboxref06_Numbers_5 kind0 t3 h Q :=
  Cut.of_ev Try.func80 mixed C_signalboxref06_Numbers D_signalboxref06_Numbers 400 (by rw [E_signalboxref06_Numbers_5]; exact hb)
def C_signalboxref06_in : List (Nat × List Nat) := []
def D_signalboxref06_in : List (Nat × List Nat) := []
def B_signalboxref06_in (n0 : Int) (from1 : Int) (to2 : Int) : M Value :=
  mRet (.bool ((decide (n0 ≥ from1)) && (decide (n0 ≤ to2))))
theorem E_signalboxref06_in (n0 : Int) (from1 : Int) (to2 : Int) : ev Try.prog 81 Try.f81.results.toList C_signalboxref06_in D_signalboxref06_in 400 false [.code (bodyOf Try.f81)] (List.map some [.int .i64 n0, .int .i64 from1, .int .i64 to2] ++ List.replicate (Try.f81.ntmps - List.length ([.int .i64 n0, .int .i64 from1, .int .i64 to2] : List Value)) none) = B_signalboxref06_in n0 from1 to2 := by kernel_rfl
theorem S_signalboxref06_in (n0 : Int) (from1 : Int) (to2 : Int) {h : Hp} {Q : Value → Hp → Prop} (hb : B_signalboxref06_in n0 from1 to2 h Q) : N_signalboxref06_in n0 from1 to2 h Q :=
  Nf.of_ev Try.call81 Try.func81 (c := bodyOf Try.f81) rfl mixed C_signalboxref06_in D_signalboxref06_in 400 (args := [.int .i64 n0, .int .i64 from1, .int .i64 to2]) (by rw [E_signalboxref06_in]; exact hb)
def C_prog_Numbers : List (Nat × List Nat) := []
def D_prog_Numbers : List (Nat × List Nat) := []
def B_prog_Numbers (k0 : Int) : M Value :=
  mBind (N_prog_kinds) fun r4 =>
  unL r4 fun (x4 : Sl) =>
  mIf ((decide (k0 < (0 : Int))) || (decide (k0 ≥ (x4.n : Int)))) (
    mRet (.int .i64 (-1 : Int))) (
    mIdx x4 k0 2 fun (x15 : Addr) =>
    mLdI .i64 (x15.add 1) fun (x17 : Int) =>
    mRet (.int .i64 x17))
theorem E_prog_Numbers (k0 : Int) : ev Try.prog 82 Try.f82.results.toList C_prog_Numbers D_prog_Numbers 400 false [.code (bodyOf Try.f82)] (List.map some [.int .i64 k0] ++ List.replicate (Try.f82.ntmps - List.length ([.int .i64 k0] : List Value)) none) = B_prog_Numbers k0 := by kernel_rfl
theorem S_prog_Numbers (k0 : Int) {h : Hp} {Q : Value → Hp → Prop} (hb : B_prog_Numbers k0 h Q) : N_prog_Numbers k0 h Q :=
  Nf.of_ev Try.call82 Try.func82 (c := bodyOf Try.f82) rfl mixed C_prog_Numbers D_prog_Numbers 400 (args := [.int .i64 k0]) (by rw [E_prog_Numbers]; exact hb)
def C_prog_Room_spans : List (Nat × List Nat) := [(14, [2, 4, 5, 6, 7, 9]), (22, [2, 4, 5, 6, 9])]
def D_prog_Room_spans : List (Nat × List Nat) := [(15, []), (21, []), (25, [])]
def T_prog_Room_spans_14 (r2 : Addr) (a4 : Addr) (b5 : Addr) (value7 : Addr) (t9 : Int) : Env := mkEnv [(2, .pointer (some r2)), (4, .pointer (some a4)), (5, .pointer (some b5)), (6, .func (.func 87) #[] #[]), (7, .pointer (some value7)), (9, .int .i64 t9)] 58 0
def K_prog_Room_spans_14 (r2 : Addr) (a4 : Addr) (b5 : Addr) (value7 : Addr) (t9 : Int) : M Value := Cut Try.prog 83 (todoOf Try.f83 14) (T_prog_Room_spans_14 r2 a4 b5 value7 t9)
def T_prog_Room_spans_22 (r2 : Addr) (a4 : Addr) (b5 : Addr) (t9 : Int) : Env := mkEnv [(2, .pointer (some r2)), (4, .pointer (some a4)), (5, .pointer (some b5)), (6, .func (.func 87) #[] #[]), (9, .int .i64 t9)] 58 0
def K_prog_Room_spans_22 (r2 : Addr) (a4 : Addr) (b5 : Addr) (t9 : Int) : M Value := Cut Try.prog 83 (todoOf Try.f83 22) (T_prog_Room_spans_22 r2 a4 b5 t9)
def B_prog_Room_spans (r0_0 : Int) (r0_1 : Int) (r0_2 : Int) (r0_3 : Int) (k1 : Int) : M Value :=
  mNew #[.int .i64 r0_0, .int .i64 r0_1, .int .i64 r0_2, .int .i64 r0_3] 126 fun (x2 : Addr) =>
  mNew #[.int .i64 (0 : Int), .int .i64 (0 : Int)] 143 fun (x4 : Addr) =>
  mNew #[.int .i64 (0 : Int), .int .i64 (0 : Int)] 143 fun (x5 : Addr) =>
  mNew #[.int .i64 (0 : Int), .int .i64 (0 : Int)] 143 fun (x7 : Addr) =>
  mSt x7 (.int .i64 (0 : Int)) <|
  mSt (x7.add 1) (.int .i64 (255 : Int)) <|
  mIf (k1 == (1 : Int)) (
    mSt x4 (.int .i64 (1 : Int)) <|
    mSt (x4.add 1) (.int .i64 (1000 : Int)) <|
    mAnd (
      mLdI .i64 x4 fun (x56_13_0 : Int) =>
      mLdI .i64 (x4.add 1) fun (x56_13_1 : Int) =>
      mAnd (
        mLdI .i64 x5 fun (x57_19_0 : Int) =>
        mLdI .i64 (x5.add 1) fun (x57_19_1 : Int) =>
        mSt x4 (.int .i64 x56_13_0) <|
        mSt (x4.add 1) (.int .i64 x56_13_1) <|
        mSt x5 (.int .i64 x57_19_0) <|
        mSt (x5.add 1) (.int .i64 x57_19_1) <|
        mLdI .i64 x4 fun (q22_0 : Int) =>
        mLdI .i64 (x4.add 1) fun (q22_1 : Int) =>
        mLdI .i64 x5 fun (q23_0 : Int) =>
        mLdI .i64 (x5.add 1) fun (q23_1 : Int) =>
        mRet (.tuple #[.agg #[.int .i64 q22_0, .int .i64 q22_1], .agg #[.int .i64 q23_0, .int .i64 q23_1]])) (
        mSt x4 (.int .i64 x56_13_0) <|
        mSt (x4.add 1) (.int .i64 x56_13_1) <|
        mLdI .i64 x5 fun (x57_15_0 : Int) =>
        mLdI .i64 (x5.add 1) fun (x57_15_1 : Int) =>
        mSt x5 (.int .i64 x57_15_0) <|
        mSt (x5.add 1) (.int .i64 x57_15_1) <|
        mLdI .i64 x4 fun (q17_0 : Int) =>
        mLdI .i64 (x4.add 1) fun (q17_1 : Int) =>
        mLdI .i64 x5 fun (q18_0 : Int) =>
        mLdI .i64 (x5.add 1) fun (q18_1 : Int) =>
        mRet (.tuple #[.agg #[.int .i64 q17_0, .int .i64 q17_1], .agg #[.int .i64 q18_0, .int .i64 q18_1]]))) (
      mLdI .i64 x5 fun (x57_0 : Int) =>
      mLdI .i64 (x5.add 1) fun (x57_1 : Int) =>
      mLdI .i64 x4 fun (x56_0 : Int) =>
      mLdI .i64 (x4.add 1) fun (x56_1 : Int) =>
      mSt x4 (.int .i64 x56_0) <|
      mSt (x4.add 1) (.int .i64 x56_1) <|
      mSt x5 (.int .i64 x57_0) <|
      mSt (x5.add 1) (.int .i64 x57_1) <|
      mLdI .i64 x4 fun (q11_0 : Int) =>
      mLdI .i64 (x4.add 1) fun (q11_1 : Int) =>
      mLdI .i64 x5 fun (q12_0 : Int) =>
      mLdI .i64 (x5.add 1) fun (q12_1 : Int) =>
      mRet (.tuple #[.agg #[.int .i64 q11_0, .int .i64 q11_1], .agg #[.int .i64 q12_0, .int .i64 q12_1]]))) (
    mIf (k1 == (2 : Int)) (
      mSt x4 (.int .i64 (0 : Int)) <|
      mSt (x4.add 1) (.int .i64 (255 : Int)) <|
      mAnd (
        mLdI .i64 x4 fun (x56_31_0 : Int) =>
        mLdI .i64 (x4.add 1) fun (x56_31_1 : Int) =>
        mAnd (
          mLdI .i64 x5 fun (x57_37_0 : Int) =>
          mLdI .i64 (x5.add 1) fun (x57_37_1 : Int) =>
          mSt x4 (.int .i64 x56_31_0) <|
          mSt (x4.add 1) (.int .i64 x56_31_1) <|
          mSt x5 (.int .i64 x57_37_0) <|
          mSt (x5.add 1) (.int .i64 x57_37_1) <|
          mLdI .i64 x4 fun (q40_0 : Int) =>
          mLdI .i64 (x4.add 1) fun (q40_1 : Int) =>
          mLdI .i64 x5 fun (q41_0 : Int) =>
          mLdI .i64 (x5.add 1) fun (q41_1 : Int) =>
          mRet (.tuple #[.agg #[.int .i64 q40_0, .int .i64 q40_1], .agg #[.int .i64 q41_0, .int .i64 q41_1]])) (
          mSt x4 (.int .i64 x56_31_0) <|
          mSt (x4.add 1) (.int .i64 x56_31_1) <|
          mLdI .i64 x5 fun (x57_33_0 : Int) =>
          mLdI .i64 (x5.add 1) fun (x57_33_1 : Int) =>
          mSt x5 (.int .i64 x57_33_0) <|
          mSt (x5.add 1) (.int .i64 x57_33_1) <|
          mLdI .i64 x4 fun (q35_0 : Int) =>
          mLdI .i64 (x4.add 1) fun (q35_1 : Int) =>
          mLdI .i64 x5 fun (q36_0 : Int) =>
          mLdI .i64 (x5.add 1) fun (q36_1 : Int) =>
          mRet (.tuple #[.agg #[.int .i64 q35_0, .int .i64 q35_1], .agg #[.int .i64 q36_0, .int .i64 q36_1]]))) (
        mLdI .i64 x5 fun (x57_25_0 : Int) =>
        mLdI .i64 (x5.add 1) fun (x57_25_1 : Int) =>
        mLdI .i64 x4 fun (x56_26_0 : Int) =>
        mLdI .i64 (x4.add 1) fun (x56_26_1 : Int) =>
        mSt x4 (.int .i64 x56_26_0) <|
        mSt (x4.add 1) (.int .i64 x56_26_1) <|
        mSt x5 (.int .i64 x57_25_0) <|
        mSt (x5.add 1) (.int .i64 x57_25_1) <|
        mLdI .i64 x4 fun (q29_0 : Int) =>
        mLdI .i64 (x4.add 1) fun (q29_1 : Int) =>
        mLdI .i64 x5 fun (q30_0 : Int) =>
        mLdI .i64 (x5.add 1) fun (q30_1 : Int) =>
        mRet (.tuple #[.agg #[.int .i64 q29_0, .int .i64 q29_1], .agg #[.int .i64 q30_0, .int .i64 q30_1]]))) (
      mIf (k1 == (5 : Int)) (
        mIf (k1 == (5 : Int)) (
          mLdI .i64 (x2.add 3) fun (x21_43 : Int) =>
          mBind (N_prog_Room_spans_1 x21_43) fun r22 =>
          unA r22 fun x22l =>
          unC x22l fun x22v0 x22l0 =>
          unI .i64 x22v0 fun (x22_0 : Int) =>
          unC x22l0 fun x22v1 x22l1 =>
          unI .i64 x22v1 fun (x22_1 : Int) =>
          unE x22l1 <|
          mSt x4 (.int .i64 x22_0) <|
          mSt (x4.add 1) (.int .i64 x22_1) <|
          mAnd (
            mLdI .i64 x4 fun (x56_52_0 : Int) =>
            mLdI .i64 (x4.add 1) fun (x56_52_1 : Int) =>
            mAnd (
              mLdI .i64 x5 fun (x57_58_0 : Int) =>
              mLdI .i64 (x5.add 1) fun (x57_58_1 : Int) =>
              mSt x4 (.int .i64 x56_52_0) <|
              mSt (x4.add 1) (.int .i64 x56_52_1) <|
              mSt x5 (.int .i64 x57_58_0) <|
              mSt (x5.add 1) (.int .i64 x57_58_1) <|
              mLdI .i64 x4 fun (q61_0 : Int) =>
              mLdI .i64 (x4.add 1) fun (q61_1 : Int) =>
              mLdI .i64 x5 fun (q62_0 : Int) =>
              mLdI .i64 (x5.add 1) fun (q62_1 : Int) =>
              mRet (.tuple #[.agg #[.int .i64 q61_0, .int .i64 q61_1], .agg #[.int .i64 q62_0, .int .i64 q62_1]])) (
              mSt x4 (.int .i64 x56_52_0) <|
              mSt (x4.add 1) (.int .i64 x56_52_1) <|
              mLdI .i64 x5 fun (x57_54_0 : Int) =>
              mLdI .i64 (x5.add 1) fun (x57_54_1 : Int) =>
              mSt x5 (.int .i64 x57_54_0) <|
              mSt (x5.add 1) (.int .i64 x57_54_1) <|
              mLdI .i64 x4 fun (q56_0 : Int) =>
              mLdI .i64 (x4.add 1) fun (q56_1 : Int) =>
              mLdI .i64 x5 fun (q57_0 : Int) =>
              mLdI .i64 (x5.add 1) fun (q57_1 : Int) =>
              mRet (.tuple #[.agg #[.int .i64 q56_0, .int .i64 q56_1], .agg #[.int .i64 q57_0, .int .i64 q57_1]]))) (
            mLdI .i64 x5 fun (x57_46_0 : Int) =>
            mLdI .i64 (x5.add 1) fun (x57_46_1 : Int) =>
            mLdI .i64 x4 fun (x56_47_0 : Int) =>
            mLdI .i64 (x4.add 1) fun (x56_47_1 : Int) =>
            mSt x4 (.int .i64 x56_47_0) <|
            mSt (x4.add 1) (.int .i64 x56_47_1) <|
            mSt x5 (.int .i64 x57_46_0) <|
            mSt (x5.add 1) (.int .i64 x57_46_1) <|
            mLdI .i64 x4 fun (q50_0 : Int) =>
            mLdI .i64 (x4.add 1) fun (q50_1 : Int) =>
            mLdI .i64 x5 fun (q51_0 : Int) =>
            mLdI .i64 (x5.add 1) fun (q51_1 : Int) =>
            mRet (.tuple #[.agg #[.int .i64 q50_0, .int .i64 q50_1], .agg #[.int .i64 q51_0, .int .i64 q51_1]]))) (
          mIf (k1 == (7 : Int)) (
            mIf (k1 == (7 : Int)) (
              mSt x4 (.int .i64 (1 : Int)) <|
              mSt (x4.add 1) (.int .i64 (4096 : Int)) <|
              mAnd (
                mLdI .i64 x4 fun (x56_70_0 : Int) =>
                mLdI .i64 (x4.add 1) fun (x56_70_1 : Int) =>
                mAnd (
                  mLdI .i64 x5 fun (x57_76_0 : Int) =>
                  mLdI .i64 (x5.add 1) fun (x57_76_1 : Int) =>
                  mSt x4 (.int .i64 x56_70_0) <|
                  mSt (x4.add 1) (.int .i64 x56_70_1) <|
                  mSt x5 (.int .i64 x57_76_0) <|
                  mSt (x5.add 1) (.int .i64 x57_76_1) <|
                  mLdI .i64 x4 fun (q79_0 : Int) =>
                  mLdI .i64 (x4.add 1) fun (q79_1 : Int) =>
                  mLdI .i64 x5 fun (q80_0 : Int) =>
                  mLdI .i64 (x5.add 1) fun (q80_1 : Int) =>
                  mRet (.tuple #[.agg #[.int .i64 q79_0, .int .i64 q79_1], .agg #[.int .i64 q80_0, .int .i64 q80_1]])) (
                  mSt x4 (.int .i64 x56_70_0) <|
                  mSt (x4.add 1) (.int .i64 x56_70_1) <|
                  mLdI .i64 x5 fun (x57_72_0 : Int) =>
                  mLdI .i64 (x5.add 1) fun (x57_72_1 : Int) =>
                  mSt x5 (.int .i64 x57_72_0) <|
                  mSt (x5.add 1) (.int .i64 x57_72_1) <|
                  mLdI .i64 x4 fun (q74_0 : Int) =>
                  mLdI .i64 (x4.add 1) fun (q74_1 : Int) =>
                  mLdI .i64 x5 fun (q75_0 : Int) =>
                  mLdI .i64 (x5.add 1) fun (q75_1 : Int) =>
                  mRet (.tuple #[.agg #[.int .i64 q74_0, .int .i64 q74_1], .agg #[.int .i64 q75_0, .int .i64 q75_1]]))) (
                mLdI .i64 x5 fun (x57_64_0 : Int) =>
                mLdI .i64 (x5.add 1) fun (x57_64_1 : Int) =>
                mLdI .i64 x4 fun (x56_65_0 : Int) =>
                mLdI .i64 (x4.add 1) fun (x56_65_1 : Int) =>
                mSt x4 (.int .i64 x56_65_0) <|
                mSt (x4.add 1) (.int .i64 x56_65_1) <|
                mSt x5 (.int .i64 x57_64_0) <|
                mSt (x5.add 1) (.int .i64 x57_64_1) <|
                mLdI .i64 x4 fun (q68_0 : Int) =>
                mLdI .i64 (x4.add 1) fun (q68_1 : Int) =>
                mLdI .i64 x5 fun (q69_0 : Int) =>
                mLdI .i64 (x5.add 1) fun (q69_1 : Int) =>
                mRet (.tuple #[.agg #[.int .i64 q68_0, .int .i64 q68_1], .agg #[.int .i64 q69_0, .int .i64 q69_1]]))) (
              K_prog_Room_spans_14 x2 x4 x5 x7 k1)) (
            mIf (k1 == (8 : Int)) (
              mSt x4 (.int .i64 (1 : Int)) <|
              mSt (x4.add 1) (.int .i64 (4096 : Int)) <|
              mAnd (
                mLdI .i64 x4 fun (x56_88_0 : Int) =>
                mLdI .i64 (x4.add 1) fun (x56_88_1 : Int) =>
                mAnd (
                  mLdI .i64 x5 fun (x57_94_0 : Int) =>
                  mLdI .i64 (x5.add 1) fun (x57_94_1 : Int) =>
                  mSt x4 (.int .i64 x56_88_0) <|
                  mSt (x4.add 1) (.int .i64 x56_88_1) <|
                  mSt x5 (.int .i64 x57_94_0) <|
                  mSt (x5.add 1) (.int .i64 x57_94_1) <|
                  mLdI .i64 x4 fun (q97_0 : Int) =>
                  mLdI .i64 (x4.add 1) fun (q97_1 : Int) =>
                  mLdI .i64 x5 fun (q98_0 : Int) =>
                  mLdI .i64 (x5.add 1) fun (q98_1 : Int) =>
                  mRet (.tuple #[.agg #[.int .i64 q97_0, .int .i64 q97_1], .agg #[.int .i64 q98_0, .int .i64 q98_1]])) (
                  mSt x4 (.int .i64 x56_88_0) <|
                  mSt (x4.add 1) (.int .i64 x56_88_1) <|
                  mLdI .i64 x5 fun (x57_90_0 : Int) =>
                  mLdI .i64 (x5.add 1) fun (x57_90_1 : Int) =>
                  mSt x5 (.int .i64 x57_90_0) <|
                  mSt (x5.add 1) (.int .i64 x57_90_1) <|
                  mLdI .i64 x4 fun (q92_0 : Int) =>
                  mLdI .i64 (x4.add 1) fun (q92_1 : Int) =>
                  mLdI .i64 x5 fun (q93_0 : Int) =>
                  mLdI .i64 (x5.add 1) fun (q93_1 : Int) =>
                  mRet (.tuple #[.agg #[.int .i64 q92_0, .int .i64 q92_1], .agg #[.int .i64 q93_0, .int .i64 q93_1]]))) (
                mLdI .i64 x5 fun (x57_82_0 : Int) =>
                mLdI .i64 (x5.add 1) fun (x57_82_1 : Int) =>
                mLdI .i64 x4 fun (x56_83_0 : Int) =>
                mLdI .i64 (x4.add 1) fun (x56_83_1 : Int) =>
                mSt x4 (.int .i64 x56_83_0) <|
                mSt (x4.add 1) (.int .i64 x56_83_1) <|
                mSt x5 (.int .i64 x57_82_0) <|
                mSt (x5.add 1) (.int .i64 x57_82_1) <|
                mLdI .i64 x4 fun (q86_0 : Int) =>
                mLdI .i64 (x4.add 1) fun (q86_1 : Int) =>
                mLdI .i64 x5 fun (q87_0 : Int) =>
                mLdI .i64 (x5.add 1) fun (q87_1 : Int) =>
                mRet (.tuple #[.agg #[.int .i64 q86_0, .int .i64 q86_1], .agg #[.int .i64 q87_0, .int .i64 q87_1]]))) (
              K_prog_Room_spans_14 x2 x4 x5 x7 k1)))) (
        mIf (k1 == (6 : Int)) (
          mLdI .i64 (x2.add 3) fun (x21_100 : Int) =>
          mBind (N_prog_Room_spans_1 x21_100) fun r22_101 =>
          unA r22_101 fun x22_101l =>
          unC x22_101l fun x22_101v0 x22_101l0 =>
          unI .i64 x22_101v0 fun (x22_101_0 : Int) =>
          unC x22_101l0 fun x22_101v1 x22_101l1 =>
          unI .i64 x22_101v1 fun (x22_101_1 : Int) =>
          unE x22_101l1 <|
          mSt x4 (.int .i64 x22_101_0) <|
          mSt (x4.add 1) (.int .i64 x22_101_1) <|
          mAnd (
            mLdI .i64 x4 fun (x56_109_0 : Int) =>
            mLdI .i64 (x4.add 1) fun (x56_109_1 : Int) =>
            mAnd (
              mLdI .i64 x5 fun (x57_115_0 : Int) =>
              mLdI .i64 (x5.add 1) fun (x57_115_1 : Int) =>
              mSt x4 (.int .i64 x56_109_0) <|
              mSt (x4.add 1) (.int .i64 x56_109_1) <|
              mSt x5 (.int .i64 x57_115_0) <|
              mSt (x5.add 1) (.int .i64 x57_115_1) <|
              mLdI .i64 x4 fun (q118_0 : Int) =>
              mLdI .i64 (x4.add 1) fun (q118_1 : Int) =>
              mLdI .i64 x5 fun (q119_0 : Int) =>
              mLdI .i64 (x5.add 1) fun (q119_1 : Int) =>
              mRet (.tuple #[.agg #[.int .i64 q118_0, .int .i64 q118_1], .agg #[.int .i64 q119_0, .int .i64 q119_1]])) (
              mSt x4 (.int .i64 x56_109_0) <|
              mSt (x4.add 1) (.int .i64 x56_109_1) <|
              mLdI .i64 x5 fun (x57_111_0 : Int) =>
              mLdI .i64 (x5.add 1) fun (x57_111_1 : Int) =>
              mSt x5 (.int .i64 x57_111_0) <|
              mSt (x5.add 1) (.int .i64 x57_111_1) <|
              mLdI .i64 x4 fun (q113_0 : Int) =>
              mLdI .i64 (x4.add 1) fun (q113_1 : Int) =>
              mLdI .i64 x5 fun (q114_0 : Int) =>
              mLdI .i64 (x5.add 1) fun (q114_1 : Int) =>
              mRet (.tuple #[.agg #[.int .i64 q113_0, .int .i64 q113_1], .agg #[.int .i64 q114_0, .int .i64 q114_1]]))) (
            mLdI .i64 x5 fun (x57_103_0 : Int) =>
            mLdI .i64 (x5.add 1) fun (x57_103_1 : Int) =>
            mLdI .i64 x4 fun (x56_104_0 : Int) =>
            mLdI .i64 (x4.add 1) fun (x56_104_1 : Int) =>
            mSt x4 (.int .i64 x56_104_0) <|
            mSt (x4.add 1) (.int .i64 x56_104_1) <|
            mSt x5 (.int .i64 x57_103_0) <|
            mSt (x5.add 1) (.int .i64 x57_103_1) <|
            mLdI .i64 x4 fun (q107_0 : Int) =>
            mLdI .i64 (x4.add 1) fun (q107_1 : Int) =>
            mLdI .i64 x5 fun (q108_0 : Int) =>
            mLdI .i64 (x5.add 1) fun (q108_1 : Int) =>
            mRet (.tuple #[.agg #[.int .i64 q107_0, .int .i64 q107_1], .agg #[.int .i64 q108_0, .int .i64 q108_1]]))) (
          mIf (k1 == (7 : Int)) (
            mIf (k1 == (7 : Int)) (
              mSt x4 (.int .i64 (1 : Int)) <|
              mSt (x4.add 1) (.int .i64 (4096 : Int)) <|
              mAnd (
                mLdI .i64 x4 fun (x56_127_0 : Int) =>
                mLdI .i64 (x4.add 1) fun (x56_127_1 : Int) =>
                mAnd (
                  mLdI .i64 x5 fun (x57_133_0 : Int) =>
                  mLdI .i64 (x5.add 1) fun (x57_133_1 : Int) =>
                  mSt x4 (.int .i64 x56_127_0) <|
                  mSt (x4.add 1) (.int .i64 x56_127_1) <|
                  mSt x5 (.int .i64 x57_133_0) <|
                  mSt (x5.add 1) (.int .i64 x57_133_1) <|
                  mLdI .i64 x4 fun (q136_0 : Int) =>
                  mLdI .i64 (x4.add 1) fun (q136_1 : Int) =>
                  mLdI .i64 x5 fun (q137_0 : Int) =>
                  mLdI .i64 (x5.add 1) fun (q137_1 : Int) =>
                  mRet (.tuple #[.agg #[.int .i64 q136_0, .int .i64 q136_1], .agg #[.int .i64 q137_0, .int .i64 q137_1]])) (
                  mSt x4 (.int .i64 x56_127_0) <|
                  mSt (x4.add 1) (.int .i64 x56_127_1) <|
                  mLdI .i64 x5 fun (x57_129_0 : Int) =>
                  mLdI .i64 (x5.add 1) fun (x57_129_1 : Int) =>
                  mSt x5 (.int .i64 x57_129_0) <|
                  mSt (x5.add 1) (.int .i64 x57_129_1) <|
                  mLdI .i64 x4 fun (q131_0 : Int) =>
                  mLdI .i64 (x4.add 1) fun (q131_1 : Int) =>
                  mLdI .i64 x5 fun (q132_0 : Int) =>
                  mLdI .i64 (x5.add 1) fun (q132_1 : Int) =>
                  mRet (.tuple #[.agg #[.int .i64 q131_0, .int .i64 q131_1], .agg #[.int .i64 q132_0, .int .i64 q132_1]]))) (
                mLdI .i64 x5 fun (x57_121_0 : Int) =>
                mLdI .i64 (x5.add 1) fun (x57_121_1 : Int) =>
                mLdI .i64 x4 fun (x56_122_0 : Int) =>
                mLdI .i64 (x4.add 1) fun (x56_122_1 : Int) =>
                mSt x4 (.int .i64 x56_122_0) <|
                mSt (x4.add 1) (.int .i64 x56_122_1) <|
                mSt x5 (.int .i64 x57_121_0) <|
                mSt (x5.add 1) (.int .i64 x57_121_1) <|
                mLdI .i64 x4 fun (q125_0 : Int) =>
                mLdI .i64 (x4.add 1) fun (q125_1 : Int) =>
                mLdI .i64 x5 fun (q126_0 : Int) =>
                mLdI .i64 (x5.add 1) fun (q126_1 : Int) =>
                mRet (.tuple #[.agg #[.int .i64 q125_0, .int .i64 q125_1], .agg #[.int .i64 q126_0, .int .i64 q126_1]]))) (
              K_prog_Room_spans_14 x2 x4 x5 x7 k1)) (
            mIf (k1 == (8 : Int)) (
              mSt x4 (.int .i64 (1 : Int)) <|
              mSt (x4.add 1) (.int .i64 (4096 : Int)) <|
              mAnd (
                mLdI .i64 x4 fun (x56_145_0 : Int) =>
                mLdI .i64 (x4.add 1) fun (x56_145_1 : Int) =>
                mAnd (
                  mLdI .i64 x5 fun (x57_151_0 : Int) =>
                  mLdI .i64 (x5.add 1) fun (x57_151_1 : Int) =>
                  mSt x4 (.int .i64 x56_145_0) <|
                  mSt (x4.add 1) (.int .i64 x56_145_1) <|
                  mSt x5 (.int .i64 x57_151_0) <|
                  mSt (x5.add 1) (.int .i64 x57_151_1) <|
                  mLdI .i64 x4 fun (q154_0 : Int) =>
                  mLdI .i64 (x4.add 1) fun (q154_1 : Int) =>
                  mLdI .i64 x5 fun (q155_0 : Int) =>
                  mLdI .i64 (x5.add 1) fun (q155_1 : Int) =>
                  mRet (.tuple #[.agg #[.int .i64 q154_0, .int .i64 q154_1], .agg #[.int .i64 q155_0, .int .i64 q155_1]])) (
                  mSt x4 (.int .i64 x56_145_0) <|
                  mSt (x4.add 1) (.int .i64 x56_145_1) <|
                  mLdI .i64 x5 fun (x57_147_0 : Int) =>
                  mLdI .i64 (x5.add 1) fun (x57_147_1 : Int) =>
                  mSt x5 (.int .i64 x57_147_0) <|
                  mSt (x5.add 1) (.int .i64 x57_147_1) <|
                  mLdI .i64 x4 fun (q149_0 : Int) =>
                  mLdI .i64 (x4.add 1) fun (q149_1 : Int) =>
                  mLdI .i64 x5 fun (q150_0 : Int) =>
                  mLdI .i64 (x5.add 1) fun (q150_1 : Int) =>
                  mRet (.tuple #[.agg #[.int .i64 q149_0, .int .i64 q149_1], .agg #[.int .i64 q150_0, .int .i64 q150_1]]))) (
                mLdI .i64 x5 fun (x57_139_0 : Int) =>
                mLdI .i64 (x5.add 1) fun (x57_139_1 : Int) =>
                mLdI .i64 x4 fun (x56_140_0 : Int) =>
                mLdI .i64 (x4.add 1) fun (x56_140_1 : Int) =>
                mSt x4 (.int .i64 x56_140_0) <|
                mSt (x4.add 1) (.int .i64 x56_140_1) <|
                mSt x5 (.int .i64 x57_139_0) <|
                mSt (x5.add 1) (.int .i64 x57_139_1) <|
                mLdI .i64 x4 fun (q143_0 : Int) =>
                mLdI .i64 (x4.add 1) fun (q143_1 : Int) =>
                mLdI .i64 x5 fun (q144_0 : Int) =>
                mLdI .i64 (x5.add 1) fun (q144_1 : Int) =>
                mRet (.tuple #[.agg #[.int .i64 q143_0, .int .i64 q143_1], .agg #[.int .i64 q144_0, .int .i64 q144_1]]))) (
              K_prog_Room_spans_14 x2 x4 x5 x7 k1))))))
def B_prog_Room_spans_14 (r2 : Addr) (a4 : Addr) (b5 : Addr) (value7 : Addr) (t9 : Int) : M Value :=
  mIf (t9 == (9 : Int)) (
    mAnd (
      mLdI .i64 r2 fun (x31_179 : Int) =>
      mAnd (
        mBind (N_prog_Room_spans_1 x31_179) fun r32_201 =>
        unA r32_201 fun x32_201l =>
        unC x32_201l fun x32_201v0 x32_201l0 =>
        unI .i64 x32_201v0 fun (x32_201_0 : Int) =>
        unC x32_201l0 fun x32_201v1 x32_201l1 =>
        unI .i64 x32_201v1 fun (x32_201_1 : Int) =>
        unE x32_201l1 <|
        mAnd (
          mLdI .i64 value7 fun (x33_222_0 : Int) =>
          mLdI .i64 (value7.add 1) fun (x33_222_1 : Int) =>
          mSt a4 (.int .i64 x32_201_0) <|
          mSt (a4.add 1) (.int .i64 x32_201_1) <|
          mSt b5 (.int .i64 x33_222_0) <|
          mSt (b5.add 1) (.int .i64 x33_222_1) <|
          mAnd (
            mLdI .i64 a4 fun (x56_231_0 : Int) =>
            mLdI .i64 (a4.add 1) fun (x56_231_1 : Int) =>
            mAnd (
              mLdI .i64 b5 fun (x57_237_0 : Int) =>
              mLdI .i64 (b5.add 1) fun (x57_237_1 : Int) =>
              mSt a4 (.int .i64 x56_231_0) <|
              mSt (a4.add 1) (.int .i64 x56_231_1) <|
              mSt b5 (.int .i64 x57_237_0) <|
              mSt (b5.add 1) (.int .i64 x57_237_1) <|
              mLdI .i64 a4 fun (q240_0 : Int) =>
              mLdI .i64 (a4.add 1) fun (q240_1 : Int) =>
              mLdI .i64 b5 fun (q241_0 : Int) =>
              mLdI .i64 (b5.add 1) fun (q241_1 : Int) =>
              mRet (.tuple #[.agg #[.int .i64 q240_0, .int .i64 q240_1], .agg #[.int .i64 q241_0, .int .i64 q241_1]])) (
              mSt a4 (.int .i64 x56_231_0) <|
              mSt (a4.add 1) (.int .i64 x56_231_1) <|
              mLdI .i64 b5 fun (x57_233_0 : Int) =>
              mLdI .i64 (b5.add 1) fun (x57_233_1 : Int) =>
              mSt b5 (.int .i64 x57_233_0) <|
              mSt (b5.add 1) (.int .i64 x57_233_1) <|
              mLdI .i64 a4 fun (q235_0 : Int) =>
              mLdI .i64 (a4.add 1) fun (q235_1 : Int) =>
              mLdI .i64 b5 fun (q236_0 : Int) =>
              mLdI .i64 (b5.add 1) fun (q236_1 : Int) =>
              mRet (.tuple #[.agg #[.int .i64 q235_0, .int .i64 q235_1], .agg #[.int .i64 q236_0, .int .i64 q236_1]]))) (
            mLdI .i64 b5 fun (x57_225_0 : Int) =>
            mLdI .i64 (b5.add 1) fun (x57_225_1 : Int) =>
            mLdI .i64 a4 fun (x56_226_0 : Int) =>
            mLdI .i64 (a4.add 1) fun (x56_226_1 : Int) =>
            mSt a4 (.int .i64 x56_226_0) <|
            mSt (a4.add 1) (.int .i64 x56_226_1) <|
            mSt b5 (.int .i64 x57_225_0) <|
            mSt (b5.add 1) (.int .i64 x57_225_1) <|
            mLdI .i64 a4 fun (q229_0 : Int) =>
            mLdI .i64 (a4.add 1) fun (q229_1 : Int) =>
            mLdI .i64 b5 fun (q230_0 : Int) =>
            mLdI .i64 (b5.add 1) fun (q230_1 : Int) =>
            mRet (.tuple #[.agg #[.int .i64 q229_0, .int .i64 q229_1], .agg #[.int .i64 q230_0, .int .i64 q230_1]]))) (
          mSt a4 (.int .i64 x32_201_0) <|
          mSt (a4.add 1) (.int .i64 x32_201_1) <|
          mLdI .i64 value7 fun (x33_203_0 : Int) =>
          mLdI .i64 (value7.add 1) fun (x33_203_1 : Int) =>
          mSt b5 (.int .i64 x33_203_0) <|
          mSt (b5.add 1) (.int .i64 x33_203_1) <|
          mAnd (
            mLdI .i64 a4 fun (x56_211_0 : Int) =>
            mLdI .i64 (a4.add 1) fun (x56_211_1 : Int) =>
            mAnd (
              mLdI .i64 b5 fun (x57_217_0 : Int) =>
              mLdI .i64 (b5.add 1) fun (x57_217_1 : Int) =>
              mSt a4 (.int .i64 x56_211_0) <|
              mSt (a4.add 1) (.int .i64 x56_211_1) <|
              mSt b5 (.int .i64 x57_217_0) <|
              mSt (b5.add 1) (.int .i64 x57_217_1) <|
              mLdI .i64 a4 fun (q220_0 : Int) =>
              mLdI .i64 (a4.add 1) fun (q220_1 : Int) =>
              mLdI .i64 b5 fun (q221_0 : Int) =>
              mLdI .i64 (b5.add 1) fun (q221_1 : Int) =>
              mRet (.tuple #[.agg #[.int .i64 q220_0, .int .i64 q220_1], .agg #[.int .i64 q221_0, .int .i64 q221_1]])) (
              mSt a4 (.int .i64 x56_211_0) <|
              mSt (a4.add 1) (.int .i64 x56_211_1) <|
              mLdI .i64 b5 fun (x57_213_0 : Int) =>
              mLdI .i64 (b5.add 1) fun (x57_213_1 : Int) =>
              mSt b5 (.int .i64 x57_213_0) <|
              mSt (b5.add 1) (.int .i64 x57_213_1) <|
              mLdI .i64 a4 fun (q215_0 : Int) =>
              mLdI .i64 (a4.add 1) fun (q215_1 : Int) =>
              mLdI .i64 b5 fun (q216_0 : Int) =>
              mLdI .i64 (b5.add 1) fun (q216_1 : Int) =>
              mRet (.tuple #[.agg #[.int .i64 q215_0, .int .i64 q215_1], .agg #[.int .i64 q216_0, .int .i64 q216_1]]))) (
            mLdI .i64 b5 fun (x57_205_0 : Int) =>
            mLdI .i64 (b5.add 1) fun (x57_205_1 : Int) =>
            mLdI .i64 a4 fun (x56_206_0 : Int) =>
            mLdI .i64 (a4.add 1) fun (x56_206_1 : Int) =>
            mSt a4 (.int .i64 x56_206_0) <|
            mSt (a4.add 1) (.int .i64 x56_206_1) <|
            mSt b5 (.int .i64 x57_205_0) <|
            mSt (b5.add 1) (.int .i64 x57_205_1) <|
            mLdI .i64 a4 fun (q209_0 : Int) =>
            mLdI .i64 (a4.add 1) fun (q209_1 : Int) =>
            mLdI .i64 b5 fun (q210_0 : Int) =>
            mLdI .i64 (b5.add 1) fun (q210_1 : Int) =>
            mRet (.tuple #[.agg #[.int .i64 q209_0, .int .i64 q209_1], .agg #[.int .i64 q210_0, .int .i64 q210_1]])))) (
        mLdI .i64 value7 fun (x33_180_0 : Int) =>
        mLdI .i64 (value7.add 1) fun (x33_180_1 : Int) =>
        mBind (N_prog_Room_spans_1 x31_179) fun r32_181 =>
        unA r32_181 fun x32_181l =>
        unC x32_181l fun x32_181v0 x32_181l0 =>
        unI .i64 x32_181v0 fun (x32_181_0 : Int) =>
        unC x32_181l0 fun x32_181v1 x32_181l1 =>
        unI .i64 x32_181v1 fun (x32_181_1 : Int) =>
        unE x32_181l1 <|
        mSt a4 (.int .i64 x32_181_0) <|
        mSt (a4.add 1) (.int .i64 x32_181_1) <|
        mSt b5 (.int .i64 x33_180_0) <|
        mSt (b5.add 1) (.int .i64 x33_180_1) <|
        mAnd (
          mLdI .i64 a4 fun (x56_190_0 : Int) =>
          mLdI .i64 (a4.add 1) fun (x56_190_1 : Int) =>
          mAnd (
            mLdI .i64 b5 fun (x57_196_0 : Int) =>
            mLdI .i64 (b5.add 1) fun (x57_196_1 : Int) =>
            mSt a4 (.int .i64 x56_190_0) <|
            mSt (a4.add 1) (.int .i64 x56_190_1) <|
            mSt b5 (.int .i64 x57_196_0) <|
            mSt (b5.add 1) (.int .i64 x57_196_1) <|
            mLdI .i64 a4 fun (q199_0 : Int) =>
            mLdI .i64 (a4.add 1) fun (q199_1 : Int) =>
            mLdI .i64 b5 fun (q200_0 : Int) =>
            mLdI .i64 (b5.add 1) fun (q200_1 : Int) =>
            mRet (.tuple #[.agg #[.int .i64 q199_0, .int .i64 q199_1], .agg #[.int .i64 q200_0, .int .i64 q200_1]])) (
            mSt a4 (.int .i64 x56_190_0) <|
            mSt (a4.add 1) (.int .i64 x56_190_1) <|
            mLdI .i64 b5 fun (x57_192_0 : Int) =>
            mLdI .i64 (b5.add 1) fun (x57_192_1 : Int) =>
            mSt b5 (.int .i64 x57_192_0) <|
            mSt (b5.add 1) (.int .i64 x57_192_1) <|
            mLdI .i64 a4 fun (q194_0 : Int) =>
            mLdI .i64 (a4.add 1) fun (q194_1 : Int) =>
            mLdI .i64 b5 fun (q195_0 : Int) =>
            mLdI .i64 (b5.add 1) fun (q195_1 : Int) =>
            mRet (.tuple #[.agg #[.int .i64 q194_0, .int .i64 q194_1], .agg #[.int .i64 q195_0, .int .i64 q195_1]]))) (
          mLdI .i64 b5 fun (x57_184_0 : Int) =>
          mLdI .i64 (b5.add 1) fun (x57_184_1 : Int) =>
          mLdI .i64 a4 fun (x56_185_0 : Int) =>
          mLdI .i64 (a4.add 1) fun (x56_185_1 : Int) =>
          mSt a4 (.int .i64 x56_185_0) <|
          mSt (a4.add 1) (.int .i64 x56_185_1) <|
          mSt b5 (.int .i64 x57_184_0) <|
          mSt (b5.add 1) (.int .i64 x57_184_1) <|
          mLdI .i64 a4 fun (q188_0 : Int) =>
          mLdI .i64 (a4.add 1) fun (q188_1 : Int) =>
          mLdI .i64 b5 fun (q189_0 : Int) =>
          mLdI .i64 (b5.add 1) fun (q189_1 : Int) =>
          mRet (.tuple #[.agg #[.int .i64 q188_0, .int .i64 q188_1], .agg #[.int .i64 q189_0, .int .i64 q189_1]])))) (
      mLdI .i64 value7 fun (x33_0 : Int) =>
      mLdI .i64 (value7.add 1) fun (x33_1 : Int) =>
      mLdI .i64 r2 fun (x31 : Int) =>
      mBind (N_prog_Room_spans_1 x31) fun r32 =>
      unA r32 fun x32l =>
      unC x32l fun x32v0 x32l0 =>
      unI .i64 x32v0 fun (x32_0 : Int) =>
      unC x32l0 fun x32v1 x32l1 =>
      unI .i64 x32v1 fun (x32_1 : Int) =>
      unE x32l1 <|
      mSt a4 (.int .i64 x32_0) <|
      mSt (a4.add 1) (.int .i64 x32_1) <|
      mSt b5 (.int .i64 x33_0) <|
      mSt (b5.add 1) (.int .i64 x33_1) <|
      mAnd (
        mLdI .i64 a4 fun (x56_168_0 : Int) =>
        mLdI .i64 (a4.add 1) fun (x56_168_1 : Int) =>
        mAnd (
          mLdI .i64 b5 fun (x57_174_0 : Int) =>
          mLdI .i64 (b5.add 1) fun (x57_174_1 : Int) =>
          mSt a4 (.int .i64 x56_168_0) <|
          mSt (a4.add 1) (.int .i64 x56_168_1) <|
          mSt b5 (.int .i64 x57_174_0) <|
          mSt (b5.add 1) (.int .i64 x57_174_1) <|
          mLdI .i64 a4 fun (q177_0 : Int) =>
          mLdI .i64 (a4.add 1) fun (q177_1 : Int) =>
          mLdI .i64 b5 fun (q178_0 : Int) =>
          mLdI .i64 (b5.add 1) fun (q178_1 : Int) =>
          mRet (.tuple #[.agg #[.int .i64 q177_0, .int .i64 q177_1], .agg #[.int .i64 q178_0, .int .i64 q178_1]])) (
          mSt a4 (.int .i64 x56_168_0) <|
          mSt (a4.add 1) (.int .i64 x56_168_1) <|
          mLdI .i64 b5 fun (x57_170_0 : Int) =>
          mLdI .i64 (b5.add 1) fun (x57_170_1 : Int) =>
          mSt b5 (.int .i64 x57_170_0) <|
          mSt (b5.add 1) (.int .i64 x57_170_1) <|
          mLdI .i64 a4 fun (q172_0 : Int) =>
          mLdI .i64 (a4.add 1) fun (q172_1 : Int) =>
          mLdI .i64 b5 fun (q173_0 : Int) =>
          mLdI .i64 (b5.add 1) fun (q173_1 : Int) =>
          mRet (.tuple #[.agg #[.int .i64 q172_0, .int .i64 q172_1], .agg #[.int .i64 q173_0, .int .i64 q173_1]]))) (
        mLdI .i64 b5 fun (x57_0 : Int) =>
        mLdI .i64 (b5.add 1) fun (x57_1 : Int) =>
        mLdI .i64 a4 fun (x56_0 : Int) =>
        mLdI .i64 (a4.add 1) fun (x56_1 : Int) =>
        mSt a4 (.int .i64 x56_0) <|
        mSt (a4.add 1) (.int .i64 x56_1) <|
        mSt b5 (.int .i64 x57_0) <|
        mSt (b5.add 1) (.int .i64 x57_1) <|
        mLdI .i64 a4 fun (q166_0 : Int) =>
        mLdI .i64 (a4.add 1) fun (q166_1 : Int) =>
        mLdI .i64 b5 fun (q167_0 : Int) =>
        mLdI .i64 (b5.add 1) fun (q167_1 : Int) =>
        mRet (.tuple #[.agg #[.int .i64 q166_0, .int .i64 q166_1], .agg #[.int .i64 q167_0, .int .i64 q167_1]])))) (
    mIf (t9 == (10 : Int)) (
      mLdI .i64 r2 fun (x38 : Int) =>
      mBind (N_prog_Room_spans_1 x38) fun r39 =>
      unA r39 fun x39l =>
      unC x39l fun x39v0 x39l0 =>
      unI .i64 x39v0 fun (x39_0 : Int) =>
      unC x39l0 fun x39v1 x39l1 =>
      unI .i64 x39v1 fun (x39_1 : Int) =>
      unE x39l1 <|
      mSt a4 (.int .i64 x39_0) <|
      mSt (a4.add 1) (.int .i64 x39_1) <|
      mAnd (
        mLdI .i64 a4 fun (x56_252_0 : Int) =>
        mLdI .i64 (a4.add 1) fun (x56_252_1 : Int) =>
        mAnd (
          mLdI .i64 b5 fun (x57_258_0 : Int) =>
          mLdI .i64 (b5.add 1) fun (x57_258_1 : Int) =>
          mSt a4 (.int .i64 x56_252_0) <|
          mSt (a4.add 1) (.int .i64 x56_252_1) <|
          mSt b5 (.int .i64 x57_258_0) <|
          mSt (b5.add 1) (.int .i64 x57_258_1) <|
          mLdI .i64 a4 fun (q261_0 : Int) =>
          mLdI .i64 (a4.add 1) fun (q261_1 : Int) =>
          mLdI .i64 b5 fun (q262_0 : Int) =>
          mLdI .i64 (b5.add 1) fun (q262_1 : Int) =>
          mRet (.tuple #[.agg #[.int .i64 q261_0, .int .i64 q261_1], .agg #[.int .i64 q262_0, .int .i64 q262_1]])) (
          mSt a4 (.int .i64 x56_252_0) <|
          mSt (a4.add 1) (.int .i64 x56_252_1) <|
          mLdI .i64 b5 fun (x57_254_0 : Int) =>
          mLdI .i64 (b5.add 1) fun (x57_254_1 : Int) =>
          mSt b5 (.int .i64 x57_254_0) <|
          mSt (b5.add 1) (.int .i64 x57_254_1) <|
          mLdI .i64 a4 fun (q256_0 : Int) =>
          mLdI .i64 (a4.add 1) fun (q256_1 : Int) =>
          mLdI .i64 b5 fun (q257_0 : Int) =>
          mLdI .i64 (b5.add 1) fun (q257_1 : Int) =>
          mRet (.tuple #[.agg #[.int .i64 q256_0, .int .i64 q256_1], .agg #[.int .i64 q257_0, .int .i64 q257_1]]))) (
        mLdI .i64 b5 fun (x57_246_0 : Int) =>
        mLdI .i64 (b5.add 1) fun (x57_246_1 : Int) =>
        mLdI .i64 a4 fun (x56_247_0 : Int) =>
        mLdI .i64 (a4.add 1) fun (x56_247_1 : Int) =>
        mSt a4 (.int .i64 x56_247_0) <|
        mSt (a4.add 1) (.int .i64 x56_247_1) <|
        mSt b5 (.int .i64 x57_246_0) <|
        mSt (b5.add 1) (.int .i64 x57_246_1) <|
        mLdI .i64 a4 fun (q250_0 : Int) =>
        mLdI .i64 (a4.add 1) fun (q250_1 : Int) =>
        mLdI .i64 b5 fun (q251_0 : Int) =>
        mLdI .i64 (b5.add 1) fun (q251_1 : Int) =>
        mRet (.tuple #[.agg #[.int .i64 q250_0, .int .i64 q250_1], .agg #[.int .i64 q251_0, .int .i64 q251_1]]))) (
      mIf (t9 == (11 : Int)) (
        mIf (t9 == (11 : Int)) (
          mAnd (
            mLdI .i64 (r2.add 1) fun (x46_286 : Int) =>
            mAnd (
              mBind (N_prog_Room_spans_1 x46_286) fun r47_308 =>
              unA r47_308 fun x47_308l =>
              unC x47_308l fun x47_308v0 x47_308l0 =>
              unI .i64 x47_308v0 fun (x47_308_0 : Int) =>
              unC x47_308l0 fun x47_308v1 x47_308l1 =>
              unI .i64 x47_308v1 fun (x47_308_1 : Int) =>
              unE x47_308l1 <|
              mAnd (
                mLdI .i64 value7 fun (x48_329_0 : Int) =>
                mLdI .i64 (value7.add 1) fun (x48_329_1 : Int) =>
                mSt a4 (.int .i64 x47_308_0) <|
                mSt (a4.add 1) (.int .i64 x47_308_1) <|
                mSt b5 (.int .i64 x48_329_0) <|
                mSt (b5.add 1) (.int .i64 x48_329_1) <|
                mAnd (
                  mLdI .i64 a4 fun (x56_338_0 : Int) =>
                  mLdI .i64 (a4.add 1) fun (x56_338_1 : Int) =>
                  mAnd (
                    mLdI .i64 b5 fun (x57_344_0 : Int) =>
                    mLdI .i64 (b5.add 1) fun (x57_344_1 : Int) =>
                    mSt a4 (.int .i64 x56_338_0) <|
                    mSt (a4.add 1) (.int .i64 x56_338_1) <|
                    mSt b5 (.int .i64 x57_344_0) <|
                    mSt (b5.add 1) (.int .i64 x57_344_1) <|
                    mLdI .i64 a4 fun (q347_0 : Int) =>
                    mLdI .i64 (a4.add 1) fun (q347_1 : Int) =>
                    mLdI .i64 b5 fun (q348_0 : Int) =>
                    mLdI .i64 (b5.add 1) fun (q348_1 : Int) =>
                    mRet (.tuple #[.agg #[.int .i64 q347_0, .int .i64 q347_1], .agg #[.int .i64 q348_0, .int .i64 q348_1]])) (
                    mSt a4 (.int .i64 x56_338_0) <|
                    mSt (a4.add 1) (.int .i64 x56_338_1) <|
                    mLdI .i64 b5 fun (x57_340_0 : Int) =>
                    mLdI .i64 (b5.add 1) fun (x57_340_1 : Int) =>
                    mSt b5 (.int .i64 x57_340_0) <|
                    mSt (b5.add 1) (.int .i64 x57_340_1) <|
                    mLdI .i64 a4 fun (q342_0 : Int) =>
                    mLdI .i64 (a4.add 1) fun (q342_1 : Int) =>
                    mLdI .i64 b5 fun (q343_0 : Int) =>
                    mLdI .i64 (b5.add 1) fun (q343_1 : Int) =>
                    mRet (.tuple #[.agg #[.int .i64 q342_0, .int .i64 q342_1], .agg #[.int .i64 q343_0, .int .i64 q343_1]]))) (
                  mLdI .i64 b5 fun (x57_332_0 : Int) =>
                  mLdI .i64 (b5.add 1) fun (x57_332_1 : Int) =>
                  mLdI .i64 a4 fun (x56_333_0 : Int) =>
                  mLdI .i64 (a4.add 1) fun (x56_333_1 : Int) =>
                  mSt a4 (.int .i64 x56_333_0) <|
                  mSt (a4.add 1) (.int .i64 x56_333_1) <|
                  mSt b5 (.int .i64 x57_332_0) <|
                  mSt (b5.add 1) (.int .i64 x57_332_1) <|
                  mLdI .i64 a4 fun (q336_0 : Int) =>
                  mLdI .i64 (a4.add 1) fun (q336_1 : Int) =>
                  mLdI .i64 b5 fun (q337_0 : Int) =>
                  mLdI .i64 (b5.add 1) fun (q337_1 : Int) =>
                  mRet (.tuple #[.agg #[.int .i64 q336_0, .int .i64 q336_1], .agg #[.int .i64 q337_0, .int .i64 q337_1]]))) (
                mSt a4 (.int .i64 x47_308_0) <|
                mSt (a4.add 1) (.int .i64 x47_308_1) <|
                mLdI .i64 value7 fun (x48_310_0 : Int) =>
                mLdI .i64 (value7.add 1) fun (x48_310_1 : Int) =>
                mSt b5 (.int .i64 x48_310_0) <|
                mSt (b5.add 1) (.int .i64 x48_310_1) <|
                mAnd (
                  mLdI .i64 a4 fun (x56_318_0 : Int) =>
                  mLdI .i64 (a4.add 1) fun (x56_318_1 : Int) =>
                  mAnd (
                    mLdI .i64 b5 fun (x57_324_0 : Int) =>
                    mLdI .i64 (b5.add 1) fun (x57_324_1 : Int) =>
                    mSt a4 (.int .i64 x56_318_0) <|
                    mSt (a4.add 1) (.int .i64 x56_318_1) <|
                    mSt b5 (.int .i64 x57_324_0) <|
                    mSt (b5.add 1) (.int .i64 x57_324_1) <|
                    mLdI .i64 a4 fun (q327_0 : Int) =>
                    mLdI .i64 (a4.add 1) fun (q327_1 : Int) =>
                    mLdI .i64 b5 fun (q328_0 : Int) =>
                    mLdI .i64 (b5.add 1) fun (q328_1 : Int) =>
                    mRet (.tuple #[.agg #[.int .i64 q327_0, .int .i64 q327_1], .agg #[.int .i64 q328_0, .int .i64 q328_1]])) (
                    mSt a4 (.int .i64 x56_318_0) <|
                    mSt (a4.add 1) (.int .i64 x56_318_1) <|
                    mLdI .i64 b5 fun (x57_320_0 : Int) =>
                    mLdI .i64 (b5.add 1) fun (x57_320_1 : Int) =>
                    mSt b5 (.int .i64 x57_320_0) <|
                    mSt (b5.add 1) (.int .i64 x57_320_1) <|
                    mLdI .i64 a4 fun (q322_0 : Int) =>
                    mLdI .i64 (a4.add 1) fun (q322_1 : Int) =>
                    mLdI .i64 b5 fun (q323_0 : Int) =>
                    mLdI .i64 (b5.add 1) fun (q323_1 : Int) =>
                    mRet (.tuple #[.agg #[.int .i64 q322_0, .int .i64 q322_1], .agg #[.int .i64 q323_0, .int .i64 q323_1]]))) (
                  mLdI .i64 b5 fun (x57_312_0 : Int) =>
                  mLdI .i64 (b5.add 1) fun (x57_312_1 : Int) =>
                  mLdI .i64 a4 fun (x56_313_0 : Int) =>
                  mLdI .i64 (a4.add 1) fun (x56_313_1 : Int) =>
                  mSt a4 (.int .i64 x56_313_0) <|
                  mSt (a4.add 1) (.int .i64 x56_313_1) <|
                  mSt b5 (.int .i64 x57_312_0) <|
                  mSt (b5.add 1) (.int .i64 x57_312_1) <|
                  mLdI .i64 a4 fun (q316_0 : Int) =>
                  mLdI .i64 (a4.add 1) fun (q316_1 : Int) =>
                  mLdI .i64 b5 fun (q317_0 : Int) =>
                  mLdI .i64 (b5.add 1) fun (q317_1 : Int) =>
                  mRet (.tuple #[.agg #[.int .i64 q316_0, .int .i64 q316_1], .agg #[.int .i64 q317_0, .int .i64 q317_1]])))) (
              mLdI .i64 value7 fun (x48_287_0 : Int) =>
              mLdI .i64 (value7.add 1) fun (x48_287_1 : Int) =>
              mBind (N_prog_Room_spans_1 x46_286) fun r47_288 =>
              unA r47_288 fun x47_288l =>
              unC x47_288l fun x47_288v0 x47_288l0 =>
              unI .i64 x47_288v0 fun (x47_288_0 : Int) =>
              unC x47_288l0 fun x47_288v1 x47_288l1 =>
              unI .i64 x47_288v1 fun (x47_288_1 : Int) =>
              unE x47_288l1 <|
              mSt a4 (.int .i64 x47_288_0) <|
              mSt (a4.add 1) (.int .i64 x47_288_1) <|
              mSt b5 (.int .i64 x48_287_0) <|
              mSt (b5.add 1) (.int .i64 x48_287_1) <|
              mAnd (
                mLdI .i64 a4 fun (x56_297_0 : Int) =>
                mLdI .i64 (a4.add 1) fun (x56_297_1 : Int) =>
                mAnd (
                  mLdI .i64 b5 fun (x57_303_0 : Int) =>
                  mLdI .i64 (b5.add 1) fun (x57_303_1 : Int) =>
                  mSt a4 (.int .i64 x56_297_0) <|
                  mSt (a4.add 1) (.int .i64 x56_297_1) <|
                  mSt b5 (.int .i64 x57_303_0) <|
                  mSt (b5.add 1) (.int .i64 x57_303_1) <|
                  mLdI .i64 a4 fun (q306_0 : Int) =>
                  mLdI .i64 (a4.add 1) fun (q306_1 : Int) =>
                  mLdI .i64 b5 fun (q307_0 : Int) =>
                  mLdI .i64 (b5.add 1) fun (q307_1 : Int) =>
                  mRet (.tuple #[.agg #[.int .i64 q306_0, .int .i64 q306_1], .agg #[.int .i64 q307_0, .int .i64 q307_1]])) (
                  mSt a4 (.int .i64 x56_297_0) <|
                  mSt (a4.add 1) (.int .i64 x56_297_1) <|
                  mLdI .i64 b5 fun (x57_299_0 : Int) =>
                  mLdI .i64 (b5.add 1) fun (x57_299_1 : Int) =>
                  mSt b5 (.int .i64 x57_299_0) <|
                  mSt (b5.add 1) (.int .i64 x57_299_1) <|
                  mLdI .i64 a4 fun (q301_0 : Int) =>
                  mLdI .i64 (a4.add 1) fun (q301_1 : Int) =>
                  mLdI .i64 b5 fun (q302_0 : Int) =>
                  mLdI .i64 (b5.add 1) fun (q302_1 : Int) =>
                  mRet (.tuple #[.agg #[.int .i64 q301_0, .int .i64 q301_1], .agg #[.int .i64 q302_0, .int .i64 q302_1]]))) (
                mLdI .i64 b5 fun (x57_291_0 : Int) =>
                mLdI .i64 (b5.add 1) fun (x57_291_1 : Int) =>
                mLdI .i64 a4 fun (x56_292_0 : Int) =>
                mLdI .i64 (a4.add 1) fun (x56_292_1 : Int) =>
                mSt a4 (.int .i64 x56_292_0) <|
                mSt (a4.add 1) (.int .i64 x56_292_1) <|
                mSt b5 (.int .i64 x57_291_0) <|
                mSt (b5.add 1) (.int .i64 x57_291_1) <|
                mLdI .i64 a4 fun (q295_0 : Int) =>
                mLdI .i64 (a4.add 1) fun (q295_1 : Int) =>
                mLdI .i64 b5 fun (q296_0 : Int) =>
                mLdI .i64 (b5.add 1) fun (q296_1 : Int) =>
                mRet (.tuple #[.agg #[.int .i64 q295_0, .int .i64 q295_1], .agg #[.int .i64 q296_0, .int .i64 q296_1]])))) (
            mLdI .i64 value7 fun (x48_0 : Int) =>
            mLdI .i64 (value7.add 1) fun (x48_1 : Int) =>
            mLdI .i64 (r2.add 1) fun (x46 : Int) =>
            mBind (N_prog_Room_spans_1 x46) fun r47 =>
            unA r47 fun x47l =>
            unC x47l fun x47v0 x47l0 =>
            unI .i64 x47v0 fun (x47_0 : Int) =>
            unC x47l0 fun x47v1 x47l1 =>
            unI .i64 x47v1 fun (x47_1 : Int) =>
            unE x47l1 <|
            mSt a4 (.int .i64 x47_0) <|
            mSt (a4.add 1) (.int .i64 x47_1) <|
            mSt b5 (.int .i64 x48_0) <|
            mSt (b5.add 1) (.int .i64 x48_1) <|
            mAnd (
              mLdI .i64 a4 fun (x56_275_0 : Int) =>
              mLdI .i64 (a4.add 1) fun (x56_275_1 : Int) =>
              mAnd (
                mLdI .i64 b5 fun (x57_281_0 : Int) =>
                mLdI .i64 (b5.add 1) fun (x57_281_1 : Int) =>
                mSt a4 (.int .i64 x56_275_0) <|
                mSt (a4.add 1) (.int .i64 x56_275_1) <|
                mSt b5 (.int .i64 x57_281_0) <|
                mSt (b5.add 1) (.int .i64 x57_281_1) <|
                mLdI .i64 a4 fun (q284_0 : Int) =>
                mLdI .i64 (a4.add 1) fun (q284_1 : Int) =>
                mLdI .i64 b5 fun (q285_0 : Int) =>
                mLdI .i64 (b5.add 1) fun (q285_1 : Int) =>
                mRet (.tuple #[.agg #[.int .i64 q284_0, .int .i64 q284_1], .agg #[.int .i64 q285_0, .int .i64 q285_1]])) (
                mSt a4 (.int .i64 x56_275_0) <|
                mSt (a4.add 1) (.int .i64 x56_275_1) <|
                mLdI .i64 b5 fun (x57_277_0 : Int) =>
                mLdI .i64 (b5.add 1) fun (x57_277_1 : Int) =>
                mSt b5 (.int .i64 x57_277_0) <|
                mSt (b5.add 1) (.int .i64 x57_277_1) <|
                mLdI .i64 a4 fun (q279_0 : Int) =>
                mLdI .i64 (a4.add 1) fun (q279_1 : Int) =>
                mLdI .i64 b5 fun (q280_0 : Int) =>
                mLdI .i64 (b5.add 1) fun (q280_1 : Int) =>
                mRet (.tuple #[.agg #[.int .i64 q279_0, .int .i64 q279_1], .agg #[.int .i64 q280_0, .int .i64 q280_1]]))) (
              mLdI .i64 b5 fun (x57_269_0 : Int) =>
              mLdI .i64 (b5.add 1) fun (x57_269_1 : Int) =>
              mLdI .i64 a4 fun (x56_270_0 : Int) =>
              mLdI .i64 (a4.add 1) fun (x56_270_1 : Int) =>
              mSt a4 (.int .i64 x56_270_0) <|
              mSt (a4.add 1) (.int .i64 x56_270_1) <|
              mSt b5 (.int .i64 x57_269_0) <|
              mSt (b5.add 1) (.int .i64 x57_269_1) <|
              mLdI .i64 a4 fun (q273_0 : Int) =>
              mLdI .i64 (a4.add 1) fun (q273_1 : Int) =>
              mLdI .i64 b5 fun (q274_0 : Int) =>
              mLdI .i64 (b5.add 1) fun (q274_1 : Int) =>
              mRet (.tuple #[.agg #[.int .i64 q273_0, .int .i64 q273_1], .agg #[.int .i64 q274_0, .int .i64 q274_1]])))) (
          K_prog_Room_spans_22 r2 a4 b5 t9)) (
        mIf (t9 == (12 : Int)) (
          mIf (t9 == (12 : Int)) (
            mAnd (
              mLdI .i64 (r2.add 1) fun (x46_372 : Int) =>
              mAnd (
                mBind (N_prog_Room_spans_1 x46_372) fun r47_394 =>
                unA r47_394 fun x47_394l =>
                unC x47_394l fun x47_394v0 x47_394l0 =>
                unI .i64 x47_394v0 fun (x47_394_0 : Int) =>
                unC x47_394l0 fun x47_394v1 x47_394l1 =>
                unI .i64 x47_394v1 fun (x47_394_1 : Int) =>
                unE x47_394l1 <|
                mAnd (
                  mLdI .i64 value7 fun (x48_415_0 : Int) =>
                  mLdI .i64 (value7.add 1) fun (x48_415_1 : Int) =>
                  mSt a4 (.int .i64 x47_394_0) <|
                  mSt (a4.add 1) (.int .i64 x47_394_1) <|
                  mSt b5 (.int .i64 x48_415_0) <|
                  mSt (b5.add 1) (.int .i64 x48_415_1) <|
                  mAnd (
                    mLdI .i64 a4 fun (x56_424_0 : Int) =>
                    mLdI .i64 (a4.add 1) fun (x56_424_1 : Int) =>
                    mAnd (
                      mLdI .i64 b5 fun (x57_430_0 : Int) =>
                      mLdI .i64 (b5.add 1) fun (x57_430_1 : Int) =>
                      mSt a4 (.int .i64 x56_424_0) <|
                      mSt (a4.add 1) (.int .i64 x56_424_1) <|
                      mSt b5 (.int .i64 x57_430_0) <|
                      mSt (b5.add 1) (.int .i64 x57_430_1) <|
                      mLdI .i64 a4 fun (q433_0 : Int) =>
                      mLdI .i64 (a4.add 1) fun (q433_1 : Int) =>
                      mLdI .i64 b5 fun (q434_0 : Int) =>
                      mLdI .i64 (b5.add 1) fun (q434_1 : Int) =>
                      mRet (.tuple #[.agg #[.int .i64 q433_0, .int .i64 q433_1], .agg #[.int .i64 q434_0, .int .i64 q434_1]])) (
                      mSt a4 (.int .i64 x56_424_0) <|
                      mSt (a4.add 1) (.int .i64 x56_424_1) <|
                      mLdI .i64 b5 fun (x57_426_0 : Int) =>
                      mLdI .i64 (b5.add 1) fun (x57_426_1 : Int) =>
                      mSt b5 (.int .i64 x57_426_0) <|
                      mSt (b5.add 1) (.int .i64 x57_426_1) <|
                      mLdI .i64 a4 fun (q428_0 : Int) =>
                      mLdI .i64 (a4.add 1) fun (q428_1 : Int) =>
                      mLdI .i64 b5 fun (q429_0 : Int) =>
                      mLdI .i64 (b5.add 1) fun (q429_1 : Int) =>
                      mRet (.tuple #[.agg #[.int .i64 q428_0, .int .i64 q428_1], .agg #[.int .i64 q429_0, .int .i64 q429_1]]))) (
                    mLdI .i64 b5 fun (x57_418_0 : Int) =>
                    mLdI .i64 (b5.add 1) fun (x57_418_1 : Int) =>
                    mLdI .i64 a4 fun (x56_419_0 : Int) =>
                    mLdI .i64 (a4.add 1) fun (x56_419_1 : Int) =>
                    mSt a4 (.int .i64 x56_419_0) <|
                    mSt (a4.add 1) (.int .i64 x56_419_1) <|
                    mSt b5 (.int .i64 x57_418_0) <|
                    mSt (b5.add 1) (.int .i64 x57_418_1) <|
                    mLdI .i64 a4 fun (q422_0 : Int) =>
                    mLdI .i64 (a4.add 1) fun (q422_1 : Int) =>
                    mLdI .i64 b5 fun (q423_0 : Int) =>
                    mLdI .i64 (b5.add 1) fun (q423_1 : Int) =>
                    mRet (.tuple #[.agg #[.int .i64 q422_0, .int .i64 q422_1], .agg #[.int .i64 q423_0, .int .i64 q423_1]]))) (
                  mSt a4 (.int .i64 x47_394_0) <|
                  mSt (a4.add 1) (.int .i64 x47_394_1) <|
                  mLdI .i64 value7 fun (x48_396_0 : Int) =>
                  mLdI .i64 (value7.add 1) fun (x48_396_1 : Int) =>
                  mSt b5 (.int .i64 x48_396_0) <|
                  mSt (b5.add 1) (.int .i64 x48_396_1) <|
                  mAnd (
                    mLdI .i64 a4 fun (x56_404_0 : Int) =>
                    mLdI .i64 (a4.add 1) fun (x56_404_1 : Int) =>
                    mAnd (
                      mLdI .i64 b5 fun (x57_410_0 : Int) =>
                      mLdI .i64 (b5.add 1) fun (x57_410_1 : Int) =>
                      mSt a4 (.int .i64 x56_404_0) <|
                      mSt (a4.add 1) (.int .i64 x56_404_1) <|
                      mSt b5 (.int .i64 x57_410_0) <|
                      mSt (b5.add 1) (.int .i64 x57_410_1) <|
                      mLdI .i64 a4 fun (q413_0 : Int) =>
                      mLdI .i64 (a4.add 1) fun (q413_1 : Int) =>
                      mLdI .i64 b5 fun (q414_0 : Int) =>
                      mLdI .i64 (b5.add 1) fun (q414_1 : Int) =>
                      mRet (.tuple #[.agg #[.int .i64 q413_0, .int .i64 q413_1], .agg #[.int .i64 q414_0, .int .i64 q414_1]])) (
                      mSt a4 (.int .i64 x56_404_0) <|
                      mSt (a4.add 1) (.int .i64 x56_404_1) <|
                      mLdI .i64 b5 fun (x57_406_0 : Int) =>
                      mLdI .i64 (b5.add 1) fun (x57_406_1 : Int) =>
                      mSt b5 (.int .i64 x57_406_0) <|
                      mSt (b5.add 1) (.int .i64 x57_406_1) <|
                      mLdI .i64 a4 fun (q408_0 : Int) =>
                      mLdI .i64 (a4.add 1) fun (q408_1 : Int) =>
                      mLdI .i64 b5 fun (q409_0 : Int) =>
                      mLdI .i64 (b5.add 1) fun (q409_1 : Int) =>
                      mRet (.tuple #[.agg #[.int .i64 q408_0, .int .i64 q408_1], .agg #[.int .i64 q409_0, .int .i64 q409_1]]))) (
                    mLdI .i64 b5 fun (x57_398_0 : Int) =>
                    mLdI .i64 (b5.add 1) fun (x57_398_1 : Int) =>
                    mLdI .i64 a4 fun (x56_399_0 : Int) =>
                    mLdI .i64 (a4.add 1) fun (x56_399_1 : Int) =>
                    mSt a4 (.int .i64 x56_399_0) <|
                    mSt (a4.add 1) (.int .i64 x56_399_1) <|
                    mSt b5 (.int .i64 x57_398_0) <|
                    mSt (b5.add 1) (.int .i64 x57_398_1) <|
                    mLdI .i64 a4 fun (q402_0 : Int) =>
                    mLdI .i64 (a4.add 1) fun (q402_1 : Int) =>
                    mLdI .i64 b5 fun (q403_0 : Int) =>
                    mLdI .i64 (b5.add 1) fun (q403_1 : Int) =>
                    mRet (.tuple #[.agg #[.int .i64 q402_0, .int .i64 q402_1], .agg #[.int .i64 q403_0, .int .i64 q403_1]])))) (
                mLdI .i64 value7 fun (x48_373_0 : Int) =>
                mLdI .i64 (value7.add 1) fun (x48_373_1 : Int) =>
                mBind (N_prog_Room_spans_1 x46_372) fun r47_374 =>
                unA r47_374 fun x47_374l =>
                unC x47_374l fun x47_374v0 x47_374l0 =>
                unI .i64 x47_374v0 fun (x47_374_0 : Int) =>
                unC x47_374l0 fun x47_374v1 x47_374l1 =>
                unI .i64 x47_374v1 fun (x47_374_1 : Int) =>
                unE x47_374l1 <|
                mSt a4 (.int .i64 x47_374_0) <|
                mSt (a4.add 1) (.int .i64 x47_374_1) <|
                mSt b5 (.int .i64 x48_373_0) <|
                mSt (b5.add 1) (.int .i64 x48_373_1) <|
                mAnd (
                  mLdI .i64 a4 fun (x56_383_0 : Int) =>
                  mLdI .i64 (a4.add 1) fun (x56_383_1 : Int) =>
                  mAnd (
                    mLdI .i64 b5 fun (x57_389_0 : Int) =>
                    mLdI .i64 (b5.add 1) fun (x57_389_1 : Int) =>
                    mSt a4 (.int .i64 x56_383_0) <|
                    mSt (a4.add 1) (.int .i64 x56_383_1) <|
                    mSt b5 (.int .i64 x57_389_0) <|
                    mSt (b5.add 1) (.int .i64 x57_389_1) <|
                    mLdI .i64 a4 fun (q392_0 : Int) =>
                    mLdI .i64 (a4.add 1) fun (q392_1 : Int) =>
                    mLdI .i64 b5 fun (q393_0 : Int) =>
                    mLdI .i64 (b5.add 1) fun (q393_1 : Int) =>
                    mRet (.tuple #[.agg #[.int .i64 q392_0, .int .i64 q392_1], .agg #[.int .i64 q393_0, .int .i64 q393_1]])) (
                    mSt a4 (.int .i64 x56_383_0) <|
                    mSt (a4.add 1) (.int .i64 x56_383_1) <|
                    mLdI .i64 b5 fun (x57_385_0 : Int) =>
                    mLdI .i64 (b5.add 1) fun (x57_385_1 : Int) =>
                    mSt b5 (.int .i64 x57_385_0) <|
                    mSt (b5.add 1) (.int .i64 x57_385_1) <|
                    mLdI .i64 a4 fun (q387_0 : Int) =>
                    mLdI .i64 (a4.add 1) fun (q387_1 : Int) =>
                    mLdI .i64 b5 fun (q388_0 : Int) =>
                    mLdI .i64 (b5.add 1) fun (q388_1 : Int) =>
                    mRet (.tuple #[.agg #[.int .i64 q387_0, .int .i64 q387_1], .agg #[.int .i64 q388_0, .int .i64 q388_1]]))) (
                  mLdI .i64 b5 fun (x57_377_0 : Int) =>
                  mLdI .i64 (b5.add 1) fun (x57_377_1 : Int) =>
                  mLdI .i64 a4 fun (x56_378_0 : Int) =>
                  mLdI .i64 (a4.add 1) fun (x56_378_1 : Int) =>
                  mSt a4 (.int .i64 x56_378_0) <|
                  mSt (a4.add 1) (.int .i64 x56_378_1) <|
                  mSt b5 (.int .i64 x57_377_0) <|
                  mSt (b5.add 1) (.int .i64 x57_377_1) <|
                  mLdI .i64 a4 fun (q381_0 : Int) =>
                  mLdI .i64 (a4.add 1) fun (q381_1 : Int) =>
                  mLdI .i64 b5 fun (q382_0 : Int) =>
                  mLdI .i64 (b5.add 1) fun (q382_1 : Int) =>
                  mRet (.tuple #[.agg #[.int .i64 q381_0, .int .i64 q381_1], .agg #[.int .i64 q382_0, .int .i64 q382_1]])))) (
              mLdI .i64 value7 fun (x48_350_0 : Int) =>
              mLdI .i64 (value7.add 1) fun (x48_350_1 : Int) =>
              mLdI .i64 (r2.add 1) fun (x46_351 : Int) =>
              mBind (N_prog_Room_spans_1 x46_351) fun r47_352 =>
              unA r47_352 fun x47_352l =>
              unC x47_352l fun x47_352v0 x47_352l0 =>
              unI .i64 x47_352v0 fun (x47_352_0 : Int) =>
              unC x47_352l0 fun x47_352v1 x47_352l1 =>
              unI .i64 x47_352v1 fun (x47_352_1 : Int) =>
              unE x47_352l1 <|
              mSt a4 (.int .i64 x47_352_0) <|
              mSt (a4.add 1) (.int .i64 x47_352_1) <|
              mSt b5 (.int .i64 x48_350_0) <|
              mSt (b5.add 1) (.int .i64 x48_350_1) <|
              mAnd (
                mLdI .i64 a4 fun (x56_361_0 : Int) =>
                mLdI .i64 (a4.add 1) fun (x56_361_1 : Int) =>
                mAnd (
                  mLdI .i64 b5 fun (x57_367_0 : Int) =>
                  mLdI .i64 (b5.add 1) fun (x57_367_1 : Int) =>
                  mSt a4 (.int .i64 x56_361_0) <|
                  mSt (a4.add 1) (.int .i64 x56_361_1) <|
                  mSt b5 (.int .i64 x57_367_0) <|
                  mSt (b5.add 1) (.int .i64 x57_367_1) <|
                  mLdI .i64 a4 fun (q370_0 : Int) =>
                  mLdI .i64 (a4.add 1) fun (q370_1 : Int) =>
                  mLdI .i64 b5 fun (q371_0 : Int) =>
                  mLdI .i64 (b5.add 1) fun (q371_1 : Int) =>
                  mRet (.tuple #[.agg #[.int .i64 q370_0, .int .i64 q370_1], .agg #[.int .i64 q371_0, .int .i64 q371_1]])) (
                  mSt a4 (.int .i64 x56_361_0) <|
                  mSt (a4.add 1) (.int .i64 x56_361_1) <|
                  mLdI .i64 b5 fun (x57_363_0 : Int) =>
                  mLdI .i64 (b5.add 1) fun (x57_363_1 : Int) =>
                  mSt b5 (.int .i64 x57_363_0) <|
                  mSt (b5.add 1) (.int .i64 x57_363_1) <|
                  mLdI .i64 a4 fun (q365_0 : Int) =>
                  mLdI .i64 (a4.add 1) fun (q365_1 : Int) =>
                  mLdI .i64 b5 fun (q366_0 : Int) =>
                  mLdI .i64 (b5.add 1) fun (q366_1 : Int) =>
                  mRet (.tuple #[.agg #[.int .i64 q365_0, .int .i64 q365_1], .agg #[.int .i64 q366_0, .int .i64 q366_1]]))) (
                mLdI .i64 b5 fun (x57_355_0 : Int) =>
                mLdI .i64 (b5.add 1) fun (x57_355_1 : Int) =>
                mLdI .i64 a4 fun (x56_356_0 : Int) =>
                mLdI .i64 (a4.add 1) fun (x56_356_1 : Int) =>
                mSt a4 (.int .i64 x56_356_0) <|
                mSt (a4.add 1) (.int .i64 x56_356_1) <|
                mSt b5 (.int .i64 x57_355_0) <|
                mSt (b5.add 1) (.int .i64 x57_355_1) <|
                mLdI .i64 a4 fun (q359_0 : Int) =>
                mLdI .i64 (a4.add 1) fun (q359_1 : Int) =>
                mLdI .i64 b5 fun (q360_0 : Int) =>
                mLdI .i64 (b5.add 1) fun (q360_1 : Int) =>
                mRet (.tuple #[.agg #[.int .i64 q359_0, .int .i64 q359_1], .agg #[.int .i64 q360_0, .int .i64 q360_1]])))) (
            K_prog_Room_spans_22 r2 a4 b5 t9)) (
          mIf (t9 == (13 : Int)) (
            mAnd (
              mLdI .i64 (r2.add 1) fun (x46_458 : Int) =>
              mAnd (
                mBind (N_prog_Room_spans_1 x46_458) fun r47_480 =>
                unA r47_480 fun x47_480l =>
                unC x47_480l fun x47_480v0 x47_480l0 =>
                unI .i64 x47_480v0 fun (x47_480_0 : Int) =>
                unC x47_480l0 fun x47_480v1 x47_480l1 =>
                unI .i64 x47_480v1 fun (x47_480_1 : Int) =>
                unE x47_480l1 <|
                mAnd (
                  mLdI .i64 value7 fun (x48_501_0 : Int) =>
                  mLdI .i64 (value7.add 1) fun (x48_501_1 : Int) =>
                  mSt a4 (.int .i64 x47_480_0) <|
                  mSt (a4.add 1) (.int .i64 x47_480_1) <|
                  mSt b5 (.int .i64 x48_501_0) <|
                  mSt (b5.add 1) (.int .i64 x48_501_1) <|
                  mAnd (
                    mLdI .i64 a4 fun (x56_510_0 : Int) =>
                    mLdI .i64 (a4.add 1) fun (x56_510_1 : Int) =>
                    mAnd (
                      mLdI .i64 b5 fun (x57_516_0 : Int) =>
                      mLdI .i64 (b5.add 1) fun (x57_516_1 : Int) =>
                      mSt a4 (.int .i64 x56_510_0) <|
                      mSt (a4.add 1) (.int .i64 x56_510_1) <|
                      mSt b5 (.int .i64 x57_516_0) <|
                      mSt (b5.add 1) (.int .i64 x57_516_1) <|
                      mLdI .i64 a4 fun (q519_0 : Int) =>
                      mLdI .i64 (a4.add 1) fun (q519_1 : Int) =>
                      mLdI .i64 b5 fun (q520_0 : Int) =>
                      mLdI .i64 (b5.add 1) fun (q520_1 : Int) =>
                      mRet (.tuple #[.agg #[.int .i64 q519_0, .int .i64 q519_1], .agg #[.int .i64 q520_0, .int .i64 q520_1]])) (
                      mSt a4 (.int .i64 x56_510_0) <|
                      mSt (a4.add 1) (.int .i64 x56_510_1) <|
                      mLdI .i64 b5 fun (x57_512_0 : Int) =>
                      mLdI .i64 (b5.add 1) fun (x57_512_1 : Int) =>
                      mSt b5 (.int .i64 x57_512_0) <|
                      mSt (b5.add 1) (.int .i64 x57_512_1) <|
                      mLdI .i64 a4 fun (q514_0 : Int) =>
                      mLdI .i64 (a4.add 1) fun (q514_1 : Int) =>
                      mLdI .i64 b5 fun (q515_0 : Int) =>
                      mLdI .i64 (b5.add 1) fun (q515_1 : Int) =>
                      mRet (.tuple #[.agg #[.int .i64 q514_0, .int .i64 q514_1], .agg #[.int .i64 q515_0, .int .i64 q515_1]]))) (
                    mLdI .i64 b5 fun (x57_504_0 : Int) =>
                    mLdI .i64 (b5.add 1) fun (x57_504_1 : Int) =>
                    mLdI .i64 a4 fun (x56_505_0 : Int) =>
                    mLdI .i64 (a4.add 1) fun (x56_505_1 : Int) =>
                    mSt a4 (.int .i64 x56_505_0) <|
                    mSt (a4.add 1) (.int .i64 x56_505_1) <|
                    mSt b5 (.int .i64 x57_504_0) <|
                    mSt (b5.add 1) (.int .i64 x57_504_1) <|
                    mLdI .i64 a4 fun (q508_0 : Int) =>
                    mLdI .i64 (a4.add 1) fun (q508_1 : Int) =>
                    mLdI .i64 b5 fun (q509_0 : Int) =>
                    mLdI .i64 (b5.add 1) fun (q509_1 : Int) =>
                    mRet (.tuple #[.agg #[.int .i64 q508_0, .int .i64 q508_1], .agg #[.int .i64 q509_0, .int .i64 q509_1]]))) (
                  mSt a4 (.int .i64 x47_480_0) <|
                  mSt (a4.add 1) (.int .i64 x47_480_1) <|
                  mLdI .i64 value7 fun (x48_482_0 : Int) =>
                  mLdI .i64 (value7.add 1) fun (x48_482_1 : Int) =>
                  mSt b5 (.int .i64 x48_482_0) <|
                  mSt (b5.add 1) (.int .i64 x48_482_1) <|
                  mAnd (
                    mLdI .i64 a4 fun (x56_490_0 : Int) =>
                    mLdI .i64 (a4.add 1) fun (x56_490_1 : Int) =>
                    mAnd (
                      mLdI .i64 b5 fun (x57_496_0 : Int) =>
                      mLdI .i64 (b5.add 1) fun (x57_496_1 : Int) =>
                      mSt a4 (.int .i64 x56_490_0) <|
                      mSt (a4.add 1) (.int .i64 x56_490_1) <|
                      mSt b5 (.int .i64 x57_496_0) <|
                      mSt (b5.add 1) (.int .i64 x57_496_1) <|
                      mLdI .i64 a4 fun (q499_0 : Int) =>
                      mLdI .i64 (a4.add 1) fun (q499_1 : Int) =>
                      mLdI .i64 b5 fun (q500_0 : Int) =>
                      mLdI .i64 (b5.add 1) fun (q500_1 : Int) =>
                      mRet (.tuple #[.agg #[.int .i64 q499_0, .int .i64 q499_1], .agg #[.int .i64 q500_0, .int .i64 q500_1]])) (
                      mSt a4 (.int .i64 x56_490_0) <|
                      mSt (a4.add 1) (.int .i64 x56_490_1) <|
                      mLdI .i64 b5 fun (x57_492_0 : Int) =>
                      mLdI .i64 (b5.add 1) fun (x57_492_1 : Int) =>
                      mSt b5 (.int .i64 x57_492_0) <|
                      mSt (b5.add 1) (.int .i64 x57_492_1) <|
                      mLdI .i64 a4 fun (q494_0 : Int) =>
                      mLdI .i64 (a4.add 1) fun (q494_1 : Int) =>
                      mLdI .i64 b5 fun (q495_0 : Int) =>
                      mLdI .i64 (b5.add 1) fun (q495_1 : Int) =>
                      mRet (.tuple #[.agg #[.int .i64 q494_0, .int .i64 q494_1], .agg #[.int .i64 q495_0, .int .i64 q495_1]]))) (
                    mLdI .i64 b5 fun (x57_484_0 : Int) =>
                    mLdI .i64 (b5.add 1) fun (x57_484_1 : Int) =>
                    mLdI .i64 a4 fun (x56_485_0 : Int) =>
                    mLdI .i64 (a4.add 1) fun (x56_485_1 : Int) =>
                    mSt a4 (.int .i64 x56_485_0) <|
                    mSt (a4.add 1) (.int .i64 x56_485_1) <|
                    mSt b5 (.int .i64 x57_484_0) <|
                    mSt (b5.add 1) (.int .i64 x57_484_1) <|
                    mLdI .i64 a4 fun (q488_0 : Int) =>
                    mLdI .i64 (a4.add 1) fun (q488_1 : Int) =>
                    mLdI .i64 b5 fun (q489_0 : Int) =>
                    mLdI .i64 (b5.add 1) fun (q489_1 : Int) =>
                    mRet (.tuple #[.agg #[.int .i64 q488_0, .int .i64 q488_1], .agg #[.int .i64 q489_0, .int .i64 q489_1]])))) (
                mLdI .i64 value7 fun (x48_459_0 : Int) =>
                mLdI .i64 (value7.add 1) fun (x48_459_1 : Int) =>
                mBind (N_prog_Room_spans_1 x46_458) fun r47_460 =>
                unA r47_460 fun x47_460l =>
                unC x47_460l fun x47_460v0 x47_460l0 =>
                unI .i64 x47_460v0 fun (x47_460_0 : Int) =>
                unC x47_460l0 fun x47_460v1 x47_460l1 =>
                unI .i64 x47_460v1 fun (x47_460_1 : Int) =>
                unE x47_460l1 <|
                mSt a4 (.int .i64 x47_460_0) <|
                mSt (a4.add 1) (.int .i64 x47_460_1) <|
                mSt b5 (.int .i64 x48_459_0) <|
                mSt (b5.add 1) (.int .i64 x48_459_1) <|
                mAnd (
                  mLdI .i64 a4 fun (x56_469_0 : Int) =>
                  mLdI .i64 (a4.add 1) fun (x56_469_1 : Int) =>
                  mAnd (
                    mLdI .i64 b5 fun (x57_475_0 : Int) =>
                    mLdI .i64 (b5.add 1) fun (x57_475_1 : Int) =>
                    mSt a4 (.int .i64 x56_469_0) <|
                    mSt (a4.add 1) (.int .i64 x56_469_1) <|
                    mSt b5 (.int .i64 x57_475_0) <|
                    mSt (b5.add 1) (.int .i64 x57_475_1) <|
                    mLdI .i64 a4 fun (q478_0 : Int) =>
                    mLdI .i64 (a4.add 1) fun (q478_1 : Int) =>
                    mLdI .i64 b5 fun (q479_0 : Int) =>
                    mLdI .i64 (b5.add 1) fun (q479_1 : Int) =>
                    mRet (.tuple #[.agg #[.int .i64 q478_0, .int .i64 q478_1], .agg #[.int .i64 q479_0, .int .i64 q479_1]])) (
                    mSt a4 (.int .i64 x56_469_0) <|
                    mSt (a4.add 1) (.int .i64 x56_469_1) <|
                    mLdI .i64 b5 fun (x57_471_0 : Int) =>
                    mLdI .i64 (b5.add 1) fun (x57_471_1 : Int) =>
                    mSt b5 (.int .i64 x57_471_0) <|
                    mSt (b5.add 1) (.int .i64 x57_471_1) <|
                    mLdI .i64 a4 fun (q473_0 : Int) =>
                    mLdI .i64 (a4.add 1) fun (q473_1 : Int) =>
                    mLdI .i64 b5 fun (q474_0 : Int) =>
                    mLdI .i64 (b5.add 1) fun (q474_1 : Int) =>
                    mRet (.tuple #[.agg #[.int .i64 q473_0, .int .i64 q473_1], .agg #[.int .i64 q474_0, .int .i64 q474_1]]))) (
                  mLdI .i64 b5 fun (x57_463_0 : Int) =>
                  mLdI .i64 (b5.add 1) fun (x57_463_1 : Int) =>
                  mLdI .i64 a4 fun (x56_464_0 : Int) =>
                  mLdI .i64 (a4.add 1) fun (x56_464_1 : Int) =>
                  mSt a4 (.int .i64 x56_464_0) <|
                  mSt (a4.add 1) (.int .i64 x56_464_1) <|
                  mSt b5 (.int .i64 x57_463_0) <|
                  mSt (b5.add 1) (.int .i64 x57_463_1) <|
                  mLdI .i64 a4 fun (q467_0 : Int) =>
                  mLdI .i64 (a4.add 1) fun (q467_1 : Int) =>
                  mLdI .i64 b5 fun (q468_0 : Int) =>
                  mLdI .i64 (b5.add 1) fun (q468_1 : Int) =>
                  mRet (.tuple #[.agg #[.int .i64 q467_0, .int .i64 q467_1], .agg #[.int .i64 q468_0, .int .i64 q468_1]])))) (
              mLdI .i64 value7 fun (x48_436_0 : Int) =>
              mLdI .i64 (value7.add 1) fun (x48_436_1 : Int) =>
              mLdI .i64 (r2.add 1) fun (x46_437 : Int) =>
              mBind (N_prog_Room_spans_1 x46_437) fun r47_438 =>
              unA r47_438 fun x47_438l =>
              unC x47_438l fun x47_438v0 x47_438l0 =>
              unI .i64 x47_438v0 fun (x47_438_0 : Int) =>
              unC x47_438l0 fun x47_438v1 x47_438l1 =>
              unI .i64 x47_438v1 fun (x47_438_1 : Int) =>
              unE x47_438l1 <|
              mSt a4 (.int .i64 x47_438_0) <|
              mSt (a4.add 1) (.int .i64 x47_438_1) <|
              mSt b5 (.int .i64 x48_436_0) <|
              mSt (b5.add 1) (.int .i64 x48_436_1) <|
              mAnd (
                mLdI .i64 a4 fun (x56_447_0 : Int) =>
                mLdI .i64 (a4.add 1) fun (x56_447_1 : Int) =>
                mAnd (
                  mLdI .i64 b5 fun (x57_453_0 : Int) =>
                  mLdI .i64 (b5.add 1) fun (x57_453_1 : Int) =>
                  mSt a4 (.int .i64 x56_447_0) <|
                  mSt (a4.add 1) (.int .i64 x56_447_1) <|
                  mSt b5 (.int .i64 x57_453_0) <|
                  mSt (b5.add 1) (.int .i64 x57_453_1) <|
                  mLdI .i64 a4 fun (q456_0 : Int) =>
                  mLdI .i64 (a4.add 1) fun (q456_1 : Int) =>
                  mLdI .i64 b5 fun (q457_0 : Int) =>
                  mLdI .i64 (b5.add 1) fun (q457_1 : Int) =>
                  mRet (.tuple #[.agg #[.int .i64 q456_0, .int .i64 q456_1], .agg #[.int .i64 q457_0, .int .i64 q457_1]])) (
                  mSt a4 (.int .i64 x56_447_0) <|
                  mSt (a4.add 1) (.int .i64 x56_447_1) <|
                  mLdI .i64 b5 fun (x57_449_0 : Int) =>
                  mLdI .i64 (b5.add 1) fun (x57_449_1 : Int) =>
                  mSt b5 (.int .i64 x57_449_0) <|
                  mSt (b5.add 1) (.int .i64 x57_449_1) <|
                  mLdI .i64 a4 fun (q451_0 : Int) =>
                  mLdI .i64 (a4.add 1) fun (q451_1 : Int) =>
                  mLdI .i64 b5 fun (q452_0 : Int) =>
                  mLdI .i64 (b5.add 1) fun (q452_1 : Int) =>
                  mRet (.tuple #[.agg #[.int .i64 q451_0, .int .i64 q451_1], .agg #[.int .i64 q452_0, .int .i64 q452_1]]))) (
                mLdI .i64 b5 fun (x57_441_0 : Int) =>
                mLdI .i64 (b5.add 1) fun (x57_441_1 : Int) =>
                mLdI .i64 a4 fun (x56_442_0 : Int) =>
                mLdI .i64 (a4.add 1) fun (x56_442_1 : Int) =>
                mSt a4 (.int .i64 x56_442_0) <|
                mSt (a4.add 1) (.int .i64 x56_442_1) <|
                mSt b5 (.int .i64 x57_441_0) <|
                mSt (b5.add 1) (.int .i64 x57_441_1) <|
                mLdI .i64 a4 fun (q445_0 : Int) =>
                mLdI .i64 (a4.add 1) fun (q445_1 : Int) =>
                mLdI .i64 b5 fun (q446_0 : Int) =>
                mLdI .i64 (b5.add 1) fun (q446_1 : Int) =>
                mRet (.tuple #[.agg #[.int .i64 q445_0, .int .i64 q445_1], .agg #[.int .i64 q446_0, .int .i64 q446_1]])))) (
            K_prog_Room_spans_22 r2 a4 b5 t9)))))
def B_prog_Room_spans_22 (r2 : Addr) (a4 : Addr) (b5 : Addr) (t9 : Int) : M Value :=
  mIf (t9 == (14 : Int)) (
    mIf (t9 == (14 : Int)) (
      mLdI .i64 (r2.add 2) fun (x54 : Int) =>
      mBind (N_prog_Room_spans_1 x54) fun r55 =>
      unA r55 fun x55l =>
      unC x55l fun x55v0 x55l0 =>
      unI .i64 x55v0 fun (x55_0 : Int) =>
      unC x55l0 fun x55v1 x55l1 =>
      unI .i64 x55v1 fun (x55_1 : Int) =>
      unE x55l1 <|
      mSt a4 (.int .i64 x55_0) <|
      mSt (a4.add 1) (.int .i64 x55_1) <|
      mAnd (
        mLdI .i64 a4 fun (x56_531_0 : Int) =>
        mLdI .i64 (a4.add 1) fun (x56_531_1 : Int) =>
        mAnd (
          mLdI .i64 b5 fun (x57_537_0 : Int) =>
          mLdI .i64 (b5.add 1) fun (x57_537_1 : Int) =>
          mSt a4 (.int .i64 x56_531_0) <|
          mSt (a4.add 1) (.int .i64 x56_531_1) <|
          mSt b5 (.int .i64 x57_537_0) <|
          mSt (b5.add 1) (.int .i64 x57_537_1) <|
          mLdI .i64 a4 fun (q540_0 : Int) =>
          mLdI .i64 (a4.add 1) fun (q540_1 : Int) =>
          mLdI .i64 b5 fun (q541_0 : Int) =>
          mLdI .i64 (b5.add 1) fun (q541_1 : Int) =>
          mRet (.tuple #[.agg #[.int .i64 q540_0, .int .i64 q540_1], .agg #[.int .i64 q541_0, .int .i64 q541_1]])) (
          mSt a4 (.int .i64 x56_531_0) <|
          mSt (a4.add 1) (.int .i64 x56_531_1) <|
          mLdI .i64 b5 fun (x57_533_0 : Int) =>
          mLdI .i64 (b5.add 1) fun (x57_533_1 : Int) =>
          mSt b5 (.int .i64 x57_533_0) <|
          mSt (b5.add 1) (.int .i64 x57_533_1) <|
          mLdI .i64 a4 fun (q535_0 : Int) =>
          mLdI .i64 (a4.add 1) fun (q535_1 : Int) =>
          mLdI .i64 b5 fun (q536_0 : Int) =>
          mLdI .i64 (b5.add 1) fun (q536_1 : Int) =>
          mRet (.tuple #[.agg #[.int .i64 q535_0, .int .i64 q535_1], .agg #[.int .i64 q536_0, .int .i64 q536_1]]))) (
        mLdI .i64 b5 fun (x57_0 : Int) =>
        mLdI .i64 (b5.add 1) fun (x57_1 : Int) =>
        mLdI .i64 a4 fun (x56_0 : Int) =>
        mLdI .i64 (a4.add 1) fun (x56_1 : Int) =>
        mSt a4 (.int .i64 x56_0) <|
        mSt (a4.add 1) (.int .i64 x56_1) <|
        mSt b5 (.int .i64 x57_0) <|
        mSt (b5.add 1) (.int .i64 x57_1) <|
        mLdI .i64 a4 fun (q529_0 : Int) =>
        mLdI .i64 (a4.add 1) fun (q529_1 : Int) =>
        mLdI .i64 b5 fun (q530_0 : Int) =>
        mLdI .i64 (b5.add 1) fun (q530_1 : Int) =>
        mRet (.tuple #[.agg #[.int .i64 q529_0, .int .i64 q529_1], .agg #[.int .i64 q530_0, .int .i64 q530_1]]))) (
      mAnd (
        mLdI .i64 a4 fun (x56_548_0 : Int) =>
        mLdI .i64 (a4.add 1) fun (x56_548_1 : Int) =>
        mAnd (
          mLdI .i64 b5 fun (x57_554_0 : Int) =>
          mLdI .i64 (b5.add 1) fun (x57_554_1 : Int) =>
          mSt a4 (.int .i64 x56_548_0) <|
          mSt (a4.add 1) (.int .i64 x56_548_1) <|
          mSt b5 (.int .i64 x57_554_0) <|
          mSt (b5.add 1) (.int .i64 x57_554_1) <|
          mLdI .i64 a4 fun (q557_0 : Int) =>
          mLdI .i64 (a4.add 1) fun (q557_1 : Int) =>
          mLdI .i64 b5 fun (q558_0 : Int) =>
          mLdI .i64 (b5.add 1) fun (q558_1 : Int) =>
          mRet (.tuple #[.agg #[.int .i64 q557_0, .int .i64 q557_1], .agg #[.int .i64 q558_0, .int .i64 q558_1]])) (
          mSt a4 (.int .i64 x56_548_0) <|
          mSt (a4.add 1) (.int .i64 x56_548_1) <|
          mLdI .i64 b5 fun (x57_550_0 : Int) =>
          mLdI .i64 (b5.add 1) fun (x57_550_1 : Int) =>
          mSt b5 (.int .i64 x57_550_0) <|
          mSt (b5.add 1) (.int .i64 x57_550_1) <|
          mLdI .i64 a4 fun (q552_0 : Int) =>
          mLdI .i64 (a4.add 1) fun (q552_1 : Int) =>
          mLdI .i64 b5 fun (q553_0 : Int) =>
          mLdI .i64 (b5.add 1) fun (q553_1 : Int) =>
          mRet (.tuple #[.agg #[.int .i64 q552_0, .int .i64 q552_1], .agg #[.int .i64 q553_0, .int .i64 q553_1]]))) (
        mLdI .i64 b5 fun (x57_542_0 : Int) =>
        mLdI .i64 (b5.add 1) fun (x57_542_1 : Int) =>
        mLdI .i64 a4 fun (x56_543_0 : Int) =>
        mLdI .i64 (a4.add 1) fun (x56_543_1 : Int) =>
        mSt a4 (.int .i64 x56_543_0) <|
        mSt (a4.add 1) (.int .i64 x56_543_1) <|
        mSt b5 (.int .i64 x57_542_0) <|
        mSt (b5.add 1) (.int .i64 x57_542_1) <|
        mLdI .i64 a4 fun (q546_0 : Int) =>
        mLdI .i64 (a4.add 1) fun (q546_1 : Int) =>
        mLdI .i64 b5 fun (q547_0 : Int) =>
        mLdI .i64 (b5.add 1) fun (q547_1 : Int) =>
        mRet (.tuple #[.agg #[.int .i64 q546_0, .int .i64 q546_1], .agg #[.int .i64 q547_0, .int .i64 q547_1]])))) (
    mIf (t9 == (15 : Int)) (
      mLdI .i64 (r2.add 2) fun (x54_560 : Int) =>
      mBind (N_prog_Room_spans_1 x54_560) fun r55_561 =>
      unA r55_561 fun x55_561l =>
      unC x55_561l fun x55_561v0 x55_561l0 =>
      unI .i64 x55_561v0 fun (x55_561_0 : Int) =>
      unC x55_561l0 fun x55_561v1 x55_561l1 =>
      unI .i64 x55_561v1 fun (x55_561_1 : Int) =>
      unE x55_561l1 <|
      mSt a4 (.int .i64 x55_561_0) <|
      mSt (a4.add 1) (.int .i64 x55_561_1) <|
      mAnd (
        mLdI .i64 a4 fun (x56_569_0 : Int) =>
        mLdI .i64 (a4.add 1) fun (x56_569_1 : Int) =>
        mAnd (
          mLdI .i64 b5 fun (x57_575_0 : Int) =>
          mLdI .i64 (b5.add 1) fun (x57_575_1 : Int) =>
          mSt a4 (.int .i64 x56_569_0) <|
          mSt (a4.add 1) (.int .i64 x56_569_1) <|
          mSt b5 (.int .i64 x57_575_0) <|
          mSt (b5.add 1) (.int .i64 x57_575_1) <|
          mLdI .i64 a4 fun (q578_0 : Int) =>
          mLdI .i64 (a4.add 1) fun (q578_1 : Int) =>
          mLdI .i64 b5 fun (q579_0 : Int) =>
          mLdI .i64 (b5.add 1) fun (q579_1 : Int) =>
          mRet (.tuple #[.agg #[.int .i64 q578_0, .int .i64 q578_1], .agg #[.int .i64 q579_0, .int .i64 q579_1]])) (
          mSt a4 (.int .i64 x56_569_0) <|
          mSt (a4.add 1) (.int .i64 x56_569_1) <|
          mLdI .i64 b5 fun (x57_571_0 : Int) =>
          mLdI .i64 (b5.add 1) fun (x57_571_1 : Int) =>
          mSt b5 (.int .i64 x57_571_0) <|
          mSt (b5.add 1) (.int .i64 x57_571_1) <|
          mLdI .i64 a4 fun (q573_0 : Int) =>
          mLdI .i64 (a4.add 1) fun (q573_1 : Int) =>
          mLdI .i64 b5 fun (q574_0 : Int) =>
          mLdI .i64 (b5.add 1) fun (q574_1 : Int) =>
          mRet (.tuple #[.agg #[.int .i64 q573_0, .int .i64 q573_1], .agg #[.int .i64 q574_0, .int .i64 q574_1]]))) (
        mLdI .i64 b5 fun (x57_563_0 : Int) =>
        mLdI .i64 (b5.add 1) fun (x57_563_1 : Int) =>
        mLdI .i64 a4 fun (x56_564_0 : Int) =>
        mLdI .i64 (a4.add 1) fun (x56_564_1 : Int) =>
        mSt a4 (.int .i64 x56_564_0) <|
        mSt (a4.add 1) (.int .i64 x56_564_1) <|
        mSt b5 (.int .i64 x57_563_0) <|
        mSt (b5.add 1) (.int .i64 x57_563_1) <|
        mLdI .i64 a4 fun (q567_0 : Int) =>
        mLdI .i64 (a4.add 1) fun (q567_1 : Int) =>
        mLdI .i64 b5 fun (q568_0 : Int) =>
        mLdI .i64 (b5.add 1) fun (q568_1 : Int) =>
        mRet (.tuple #[.agg #[.int .i64 q567_0, .int .i64 q567_1], .agg #[.int .i64 q568_0, .int .i64 q568_1]]))) (
      mAnd (
        mLdI .i64 a4 fun (x56_586_0 : Int) =>
        mLdI .i64 (a4.add 1) fun (x56_586_1 : Int) =>
        mAnd (
          mLdI .i64 b5 fun (x57_592_0 : Int) =>
          mLdI .i64 (b5.add 1) fun (x57_592_1 : Int) =>
          mSt a4 (.int .i64 x56_586_0) <|
          mSt (a4.add 1) (.int .i64 x56_586_1) <|
          mSt b5 (.int .i64 x57_592_0) <|
          mSt (b5.add 1) (.int .i64 x57_592_1) <|
          mLdI .i64 a4 fun (q595_0 : Int) =>
          mLdI .i64 (a4.add 1) fun (q595_1 : Int) =>
          mLdI .i64 b5 fun (q596_0 : Int) =>
          mLdI .i64 (b5.add 1) fun (q596_1 : Int) =>
          mRet (.tuple #[.agg #[.int .i64 q595_0, .int .i64 q595_1], .agg #[.int .i64 q596_0, .int .i64 q596_1]])) (
          mSt a4 (.int .i64 x56_586_0) <|
          mSt (a4.add 1) (.int .i64 x56_586_1) <|
          mLdI .i64 b5 fun (x57_588_0 : Int) =>
          mLdI .i64 (b5.add 1) fun (x57_588_1 : Int) =>
          mSt b5 (.int .i64 x57_588_0) <|
          mSt (b5.add 1) (.int .i64 x57_588_1) <|
          mLdI .i64 a4 fun (q590_0 : Int) =>
          mLdI .i64 (a4.add 1) fun (q590_1 : Int) =>
          mLdI .i64 b5 fun (q591_0 : Int) =>
          mLdI .i64 (b5.add 1) fun (q591_1 : Int) =>
          mRet (.tuple #[.agg #[.int .i64 q590_0, .int .i64 q590_1], .agg #[.int .i64 q591_0, .int .i64 q591_1]]))) (
        mLdI .i64 b5 fun (x57_580_0 : Int) =>
        mLdI .i64 (b5.add 1) fun (x57_580_1 : Int) =>
        mLdI .i64 a4 fun (x56_581_0 : Int) =>
        mLdI .i64 (a4.add 1) fun (x56_581_1 : Int) =>
        mSt a4 (.int .i64 x56_581_0) <|
        mSt (a4.add 1) (.int .i64 x56_581_1) <|
        mSt b5 (.int .i64 x57_580_0) <|
        mSt (b5.add 1) (.int .i64 x57_580_1) <|
        mLdI .i64 a4 fun (q584_0 : Int) =>
        mLdI .i64 (a4.add 1) fun (q584_1 : Int) =>
        mLdI .i64 b5 fun (q585_0 : Int) =>
        mLdI .i64 (b5.add 1) fun (q585_1 : Int) =>
        mRet (.tuple #[.agg #[.int .i64 q584_0, .int .i64 q584_1], .agg #[.int .i64 q585_0, .int .i64 q585_1]]))))
theorem E_prog_Room_spans (r0_0 : Int) (r0_1 : Int) (r0_2 : Int) (r0_3 : Int) (k1 : Int) : ev Try.prog 83 Try.f83.results.toList C_prog_Room_spans D_prog_Room_spans 400 false [.code (bodyOf Try.f83)] (List.map some [.agg #[.int .i64 r0_0, .int .i64 r0_1, .int .i64 r0_2, .int .i64 r0_3], .int .i64 k1] ++ List.replicate (Try.f83.ntmps - List.length ([.agg #[.int .i64 r0_0, .int .i64 r0_1, .int .i64 r0_2, .int .i64 r0_3], .int .i64 k1] : List Value)) none) = B_prog_Room_spans r0_0 r0_1 r0_2 r0_3 k1 := by kernel_rfl
theorem S_prog_Room_spans (r0_0 : Int) (r0_1 : Int) (r0_2 : Int) (r0_3 : Int) (k1 : Int) {h : Hp} {Q : Value → Hp → Prop} (hb : B_prog_Room_spans r0_0 r0_1 r0_2 r0_3 k1 h Q) : N_prog_Room_spans r0_0 r0_1 r0_2 r0_3 k1 h Q :=
  Nf.of_ev Try.call83 Try.func83 (c := bodyOf Try.f83) rfl mixed C_prog_Room_spans D_prog_Room_spans 400 (args := [.agg #[.int .i64 r0_0, .int .i64 r0_1, .int .i64 r0_2, .int .i64 r0_3], .int .i64 k1]) (by rw [E_prog_Room_spans]; exact hb)
theorem E_prog_Room_spans_14 (r2 : Addr) (a4 : Addr) (b5 : Addr) (value7 : Addr) (t9 : Int) : ev Try.prog 83 Try.f83.results.toList C_prog_Room_spans D_prog_Room_spans 400 true (todoOf Try.f83 14) (T_prog_Room_spans_14 r2 a4 b5 value7 t9) = B_prog_Room_spans_14 r2 a4 b5 value7 t9 := by kernel_rfl
theorem S_prog_Room_spans_14 (r2 : Addr) (a4 : Addr) (b5 : Addr) (value7 : Addr) (t9 : Int) {h : Hp} {Q : Value → Hp → Prop} (hb : B_prog_Room_spans_14 r2 a4 b5 value7 t9 h Q) : K_prog_Room_spans_14 r2 a4 b5 value7 t9 h Q :=
  Cut.of_ev Try.func83 mixed C_prog_Room_spans D_prog_Room_spans 400 (by rw [E_prog_Room_spans_14]; exact hb)
theorem E_prog_Room_spans_22 (r2 : Addr) (a4 : Addr) (b5 : Addr) (t9 : Int) : ev Try.prog 83 Try.f83.results.toList C_prog_Room_spans D_prog_Room_spans 400 true (todoOf Try.f83 22) (T_prog_Room_spans_22 r2 a4 b5 t9) = B_prog_Room_spans_22 r2 a4 b5 t9 := by kernel_rfl
theorem S_prog_Room_spans_22 (r2 : Addr) (a4 : Addr) (b5 : Addr) (t9 : Int) {h : Hp} {Q : Value → Hp → Prop} (hb : B_prog_Room_spans_22 r2 a4 b5 t9 h Q) : K_prog_Room_spans_22 r2 a4 b5 t9 h Q :=
  Cut.of_ev Try.func83 mixed C_prog_Room_spans D_prog_Room_spans 400 (by rw [E_prog_Room_spans_22]; exact hb)
def C_prog_span_has : List (Nat × List Nat) := []
def D_prog_span_has : List (Nat × List Nat) := []
def B_prog_span_has (s0_0 : Int) (s0_1 : Int) (n1 : Int) : M Value :=
  mNew #[.int .i64 s0_0, .int .i64 s0_1] 143 fun (x2 : Addr) =>
  mLdI .i64 x2 fun (x7 : Int) =>
  mBind (mIf (decide (n1 ≥ x7)) (mLdI .i64 (x2.add 1) fun (x12 : Int) =>
    mRet (decide (n1 ≤ x12))) (mRet false)) fun (b6 : Bool) =>
  mRet (.bool b6)
theorem E_prog_span_has (s0_0 : Int) (s0_1 : Int) (n1 : Int) : ev Try.prog 84 Try.f84.results.toList C_prog_span_has D_prog_span_has 400 false [.code (bodyOf Try.f84)] (List.map some [.agg #[.int .i64 s0_0, .int .i64 s0_1], .int .i64 n1] ++ List.replicate (Try.f84.ntmps - List.length ([.agg #[.int .i64 s0_0, .int .i64 s0_1], .int .i64 n1] : List Value)) none) = B_prog_span_has s0_0 s0_1 n1 := by kernel_rfl
theorem S_prog_span_has (s0_0 : Int) (s0_1 : Int) (n1 : Int) {h : Hp} {Q : Value → Hp → Prop} (hb : B_prog_span_has s0_0 s0_1 n1 h Q) : N_prog_span_has s0_0 s0_1 n1 h Q :=
  Nf.of_ev Try.call84 Try.func84 (c := bodyOf Try.f84) rfl mixed C_prog_span_has D_prog_span_has 400 (args := [.agg #[.int .i64 s0_0, .int .i64 s0_1], .int .i64 n1]) (by rw [E_prog_span_has]; exact hb)
def C_slices_Contains_int_int : List (Nat × List Nat) := []
def D_slices_Contains_int_int : List (Nat × List Nat) := []
def B_slices_Contains_int_int (s0 : Sl) (v1 : Int) : M Value :=
  mBind (N_slices_Index_int_int s0 v1) fun r7 =>
  unI .i64 r7 fun (x7 : Int) =>
  mRet (.bool (decide (x7 ≥ (0 : Int))))
theorem E_slices_Contains_int_int (s0 : Sl) (v1 : Int) : ev Try.prog 85 Try.f85.results.toList C_slices_Contains_int_int D_slices_Contains_int_int 400 false [.code (bodyOf Try.f85)] (List.map some [.slice s0.p s0.n s0.c, .int .i64 v1] ++ List.replicate (Try.f85.ntmps - List.length ([.slice s0.p s0.n s0.c, .int .i64 v1] : List Value)) none) = B_slices_Contains_int_int s0 v1 := by kernel_rfl
theorem S_slices_Contains_int_int (s0 : Sl) (v1 : Int) {h : Hp} {Q : Value → Hp → Prop} (hb : B_slices_Contains_int_int s0 v1 h Q) : N_slices_Contains_int_int s0 v1 h Q :=
  Nf.of_ev Try.call85 Try.func85 (c := bodyOf Try.f85) rfl mixed C_slices_Contains_int_int D_slices_Contains_int_int 400 (args := [.slice s0.p s0.n s0.c, .int .i64 v1]) (by rw [E_slices_Contains_int_int]; exact hb)
def C_prog_kinds : List (Nat × List Nat) := []
def D_prog_kinds : List (Nat × List Nat) := []
def B_prog_kinds : M Value :=
  mNew #[.string (ByteArray.mk #[]), .int .i64 (-1 : Int), .string (ByteArray.mk #[99, 111, 109, 112, 117, 116, 101]), .int .i64 (1 : Int), .string (ByteArray.mk #[97, 99, 99, 101, 115, 115]), .int .i64 (1 : Int), .string (ByteArray.mk #[101, 110, 116, 101, 114]), .int .i64 (0 : Int), .string (ByteArray.mk #[101, 120, 105, 116]), .int .i64 (0 : Int), .string (ByteArray.mk #[108, 111, 99, 107]), .int .i64 (1 : Int), .string (ByteArray.mk #[117, 110, 108, 111, 99, 107]), .int .i64 (1 : Int), .string (ByteArray.mk #[112, 117, 115, 104]), .int .i64 (1 : Int), .string (ByteArray.mk #[112, 111, 112]), .int .i64 (1 : Int), .string (ByteArray.mk #[115, 101, 110, 100]), .int .i64 (2 : Int), .string (ByteArray.mk #[114, 101, 99, 118]), .int .i64 (1 : Int), .string (ByteArray.mk #[115, 101, 116]), .int .i64 (2 : Int), .string (ByteArray.mk #[99, 108, 101, 97, 114]), .int .i64 (2 : Int), .string (ByteArray.mk #[116, 101, 115, 116]), .int .i64 (2 : Int), .string (ByteArray.mk #[103, 105, 118, 101]), .int .i64 (1 : Int), .string (ByteArray.mk #[116, 97, 107, 101]), .int .i64 (1 : Int)] 150 fun (x17 : Addr) =>
  mRet (.slice (some x17) (16) (16))
theorem E_prog_kinds : ev Try.prog 86 Try.f86.results.toList C_prog_kinds D_prog_kinds 400 false [.code (bodyOf Try.f86)] (List.map some [] ++ List.replicate (Try.f86.ntmps - List.length ([] : List Value)) none) = B_prog_kinds := by kernel_rfl
theorem S_prog_kinds {h : Hp} {Q : Value → Hp → Prop} (hb : B_prog_kinds h Q) : N_prog_kinds h Q :=
  Nf.of_ev Try.call86 Try.func86 (c := bodyOf Try.f86) rfl mixed C_prog_kinds D_prog_kinds 400 (args := []) (by rw [E_prog_kinds]; exact hb)
def C_prog_Room_spans_1 : List (Nat × List Nat) := []
def D_prog_Room_spans_1 : List (Nat × List Nat) := []
def B_prog_Room_spans_1 (n0 : Int) : M Value :=
  mNew #[.int .i64 (0 : Int), .int .i64 (0 : Int)] 143 fun (x2 : Addr) =>
  mSt x2 (.int .i64 (0 : Int)) <|
  mSt (x2.add 1) (.int .i64 (IntKind.i64.wrap (n0 - (1 : Int)))) <|
  mLdI .i64 x2 fun (q3_0 : Int) =>
  mLdI .i64 (x2.add 1) fun (q3_1 : Int) =>
  mRet (.agg #[.int .i64 q3_0, .int .i64 q3_1])
theorem E_prog_Room_spans_1 (n0 : Int) : ev Try.prog 87 Try.f87.results.toList C_prog_Room_spans_1 D_prog_Room_spans_1 400 false [.code (bodyOf Try.f87)] (List.map some [.int .i64 n0] ++ List.replicate (Try.f87.ntmps - List.length ([.int .i64 n0] : List Value)) none) = B_prog_Room_spans_1 n0 := by kernel_rfl
theorem S_prog_Room_spans_1 (n0 : Int) {h : Hp} {Q : Value → Hp → Prop} (hb : B_prog_Room_spans_1 n0 h Q) : N_prog_Room_spans_1 n0 h Q :=
  Nf.of_ev Try.call87 Try.func87 (c := bodyOf Try.f87) rfl mixed C_prog_Room_spans_1 D_prog_Room_spans_1 400 (args := [.int .i64 n0]) (by rw [E_prog_Room_spans_1]; exact hb)
def C_slices_Index_int_int : List (Nat × List Nat) := [(2, [0, 1, 7, 8])]
def D_slices_Index_int_int : List (Nat × List Nat) := []
def T_slices_Index_int_int_2 (s0 : Sl) (v1 : Int) (t7 : Int) (t8 : Int) : Env := mkEnv [(0, .slice s0.p s0.n s0.c), (1, .int .i64 v1), (7, .int .i64 t7), (8, .int .i64 t8)] 19 0
def K_slices_Index_int_int_2 (s0 : Sl) (v1 : Int) (t7 : Int) (t8 : Int) : M Value := Cut Try.prog 88 (todoOf Try.f88 2) (T_slices_Index_int_int_2 s0 v1 t7 t8)
def B_slices_Index_int_int (s0 : Sl) (v1 : Int) : M Value :=
  K_slices_Index_int_int_2 s0 v1 (s0.n : Int) (0 : Int)
def B_slices_Index_int_int_2 (s0 : Sl) (v1 : Int) (t7 : Int) (t8 : Int) : M Value :=
  mIf (decide (t8 < t7)) (
    mIdx s0 t8 1 fun (x14 : Addr) =>
    mLdI .i64 x14 fun (x15 : Int) =>
    mIf (v1 == x15) (
      mRet (.int .i64 t8)) (
      K_slices_Index_int_int_2 s0 v1 t7 (IntKind.i64.wrap (t8 + (1 : Int))))) (
    mRet (.int .i64 (-1 : Int)))
theorem E_slices_Index_int_int (s0 : Sl) (v1 : Int) : ev Try.prog 88 Try.f88.results.toList C_slices_Index_int_int D_slices_Index_int_int 400 false [.code (bodyOf Try.f88)] (List.map some [.slice s0.p s0.n s0.c, .int .i64 v1] ++ List.replicate (Try.f88.ntmps - List.length ([.slice s0.p s0.n s0.c, .int .i64 v1] : List Value)) none) = B_slices_Index_int_int s0 v1 := by kernel_rfl
theorem S_slices_Index_int_int (s0 : Sl) (v1 : Int) {h : Hp} {Q : Value → Hp → Prop} (hb : B_slices_Index_int_int s0 v1 h Q) : N_slices_Index_int_int s0 v1 h Q :=
  Nf.of_ev Try.call88 Try.func88 (c := bodyOf Try.f88) rfl mixed C_slices_Index_int_int D_slices_Index_int_int 400 (args := [.slice s0.p s0.n s0.c, .int .i64 v1]) (by rw [E_slices_Index_int_int]; exact hb)
theorem E_slices_Index_int_int_2 (s0 : Sl) (v1 : Int) (t7 : Int) (t8 : Int) : ev Try.prog 88 Try.f88.results.toList C_slices_Index_int_int D_slices_Index_int_int 400 true (todoOf Try.f88 2) (T_slices_Index_int_int_2 s0 v1 t7 t8) = B_slices_Index_int_int_2 s0 v1 t7 t8 := by kernel_rfl
theorem S_slices_Index_int_int_2 (s0 : Sl) (v1 : Int) (t7 : Int) (t8 : Int) {h : Hp} {Q : Value → Hp → Prop} (hb : B_slices_Index_int_int_2 s0 v1 t7 t8 h Q) : K_slices_Index_int_int_2 s0 v1 t7 t8 h Q :=
  Cut.of_ev Try.func88 mixed C_slices_Index_int_int D_slices_Index_int_int 400 (by rw [E_slices_Index_int_int_2]; exact hb)
def C_signalboxref07_Few : List (Nat × List Nat) := [(2, [1, 6, 7, 8])]
def D_signalboxref07_Few : List (Nat × List Nat) := []
def T_signalboxref07_Few_2 (c1 : Addr) (t6 : Sl) (t7 : Int) (t8 : Int) : Env := mkEnv [(1, .pointer (some c1)), (6, .slice t6.p t6.n t6.c), (7, .int .i64 t7), (8, .int .i64 t8)] 45 0
def K_signalboxref07_Few_2 (c1 : Addr) (t6 : Sl) (t7 : Int) (t8 : Int) : M Value := Cut Try.prog 14 (todoOf Try.f14 2) (T_signalboxref07_Few_2 c1 t6 t7 t8)
def B_signalboxref07_Few (c0_0 : Int) (c0_1 : Int) (c0_2 : Int) (c0_3 : Int) (c0_4 : Sl) (c0_5 : Int) (c0_6 : Sl) (c0_7 : Sl) (c0_8 : Sl) (c0_9 : Sl) : M Value :=
  mNew #[.int .i64 c0_0, .int .i64 c0_1, .int .i64 c0_2, .int .i64 c0_3, .slice c0_4.p c0_4.n c0_4.c, .int .i64 c0_5, .slice c0_6.p c0_6.n c0_6.c, .slice c0_7.p c0_7.n c0_7.c, .slice c0_8.p c0_8.n c0_8.c, .slice c0_9.p c0_9.n c0_9.c] 34 fun (x1 : Addr) =>
  mLdL (x1.add 8) fun (x6 : Sl) =>
  K_signalboxref07_Few_2 x1 x6 (x6.n : Int) (0 : Int)
def B_signalboxref07_Few_2 (c1 : Addr) (t6 : Sl) (t7 : Int) (t8 : Int) : M Value :=
  mIf (decide (t8 < t7)) (
    mIdx t6 t8 7 fun (x10 : Addr) =>
    mLdI .i64 x10 fun (x11_0 : Int) =>
    mLdI .i64 (x10.add 1) fun (x11_1 : Int) =>
    mLdI .i64 (x10.add 2) fun (x11_2 : Int) =>
    mLdI .i64 (x10.add 3) fun (x11_3 : Int) =>
    mLdI .i64 (x10.add 4) fun (x11_4 : Int) =>
    mLdI .i64 (x10.add 5) fun (x11_5 : Int) =>
    mLdL (x10.add 6) fun (x11_6 : Sl) =>
    mNew #[.int .i64 (0 : Int), .int .i64 (0 : Int), .int .i64 (0 : Int), .int .i64 (0 : Int), .int .i64 (0 : Int), .int .i64 (0 : Int), .slice none (0) (0)] 67 fun (x4 : Addr) =>
    mSt x4 (.int .i64 x11_0) <|
    mSt (x4.add 1) (.int .i64 x11_1) <|
    mSt (x4.add 2) (.int .i64 x11_2) <|
    mSt (x4.add 3) (.int .i64 x11_3) <|
    mSt (x4.add 4) (.int .i64 x11_4) <|
    mSt (x4.add 5) (.int .i64 x11_5) <|
    mSt (x4.add 6) (.slice x11_6.p x11_6.n x11_6.c) <|
    mLdL (x4.add 6) fun (x13 : Sl) =>
    mIf (decide ((x13.n : Int) > (80 : Int))) (
      mRet (.bool false)) (
      K_signalboxref07_Few_2 c1 t6 t7 (IntKind.i64.wrap (t8 + (1 : Int))))) (
    mLdL (c1.add 4) fun (x18 : Sl) =>
    mBind (mIf (decide ((x18.n : Int) ≤ (20 : Int))) (mLdL (c1.add 6) fun (x23 : Sl) =>
      mRet (decide ((x23.n : Int) ≤ (20 : Int)))) (mRet false)) fun (b14 : Bool) =>
    mBind (mIf b14 (mLdL (c1.add 7) fun (x29 : Sl) =>
      mRet (decide ((x29.n : Int) ≤ (20 : Int)))) (mRet false)) fun (b17 : Bool) =>
    mBind (mIf b17 (mLdL (c1.add 8) fun (x35 : Sl) =>
      mRet (decide ((x35.n : Int) ≤ (20 : Int)))) (mRet false)) fun (b20 : Bool) =>
    mBind (mIf b20 (mLdL (c1.add 9) fun (x41 : Sl) =>
      mRet (decide ((x41.n : Int) ≤ (20 : Int)))) (mRet false)) fun (b23 : Bool) =>
    mRet (.bool b23))
theorem E_signalboxref07_Few (c0_0 : Int) (c0_1 : Int) (c0_2 : Int) (c0_3 : Int) (c0_4 : Sl) (c0_5 : Int) (c0_6 : Sl) (c0_7 : Sl) (c0_8 : Sl) (c0_9 : Sl) : ev Try.prog 14 Try.f14.results.toList C_signalboxref07_Few D_signalboxref07_Few 400 false [.code (bodyOf Try.f14)] (List.map some [.agg #[.int .i64 c0_0, .int .i64 c0_1, .int .i64 c0_2, .int .i64 c0_3, .slice c0_4.p c0_4.n c0_4.c, .int .i64 c0_5, .slice c0_6.p c0_6.n c0_6.c, .slice c0_7.p c0_7.n c0_7.c, .slice c0_8.p c0_8.n c0_8.c, .slice c0_9.p c0_9.n c0_9.c]] ++ List.replicate (Try.f14.ntmps - List.length ([.agg #[.int .i64 c0_0, .int .i64 c0_1, .int .i64 c0_2, .int .i64 c0_3, .slice c0_4.p c0_4.n c0_4.c, .int .i64 c0_5, .slice c0_6.p c0_6.n c0_6.c, .slice c0_7.p c0_7.n c0_7.c, .slice c0_8.p c0_8.n c0_8.c, .slice c0_9.p c0_9.n c0_9.c]] : List Value)) none) = B_signalboxref07_Few c0_0 c0_1 c0_2 c0_3 c0_4 c0_5 c0_6 c0_7 c0_8 c0_9 := by kernel_rfl
theorem S_signalboxref07_Few (c0_0 : Int) (c0_1 : Int) (c0_2 : Int) (c0_3 : Int) (c0_4 : Sl) (c0_5 : Int) (c0_6 : Sl) (c0_7 : Sl) (c0_8 : Sl) (c0_9 : Sl) {h : Hp} {Q : Value → Hp → Prop} (hb : B_signalboxref07_Few c0_0 c0_1 c0_2 c0_3 c0_4 c0_5 c0_6 c0_7 c0_8 c0_9 h Q) : N_signalboxref07_Few c0_0 c0_1 c0_2 c0_3 c0_4 c0_5 c0_6 c0_7 c0_8 c0_9 h Q :=
  Nf.of_ev Try.call14 Try.func14 (c := bodyOf Try.f14) rfl mixed C_signalboxref07_Few D_signalboxref07_Few 400 (args := [.agg #[.int .i64 c0_0, .int .i64 c0_1, .int .i64 c0_2, .int .i64 c0_3, .slice c0_4.p c0_4.n c0_4.c, .int .i64 c0_5, .slice c0_6.p c0_6.n c0_6.c, .slice c0_7.p c0_7.n c0_7.c, .slice c0_8.p c0_8.n c0_8.c, .slice c0_9.p c0_9.n c0_9.c]]) (by rw [E_signalboxref07_Few]; exact hb)
theorem E_signalboxref07_Few_2 (c1 : Addr) (t6 : Sl) (t7 : Int) (t8 : Int) : ev Try.prog 14 Try.f14.results.toList C_signalboxref07_Few D_signalboxref07_Few 400 true (todoOf Try.f14 2) (T_signalboxref07_Few_2 c1 t6 t7 t8) = B_signalboxref07_Few_2 c1 t6 t7 t8 := by kernel_rfl
theorem S_signalboxref07_Few_2 (c1 : Addr) (t6 : Sl) (t7 : Int) (t8 : Int) {h : Hp} {Q : Value → Hp → Prop} (hb : B_signalboxref07_Few_2 c1 t6 t7 t8 h Q) : K_signalboxref07_Few_2 c1 t6 t7 t8 h Q :=
  Cut.of_ev Try.func14 mixed C_signalboxref07_Few D_signalboxref07_Few 400 (by rw [E_signalboxref07_Few_2]; exact hb)
def C_signalboxref07_Order : List (Nat × List Nat) := [(3, [1, 3, 8, 9, 10]), (6, [1, 3, 4, 5, 6, 8, 9, 10])]
def D_signalboxref07_Order : List (Nat × List Nat) := [(8, [])]
def T_signalboxref07_Order_3 (c1 : Addr) (out3 : Sl) (t8 : Sl) (t9 : Int) (t10 : Int) : Env := mkEnv [(1, .pointer (some c1)), (3, .slice out3.p out3.n out3.c), (8, .slice t8.p t8.n t8.c), (9, .int .i64 t9), (10, .int .i64 t10)] 49 0
def K_signalboxref07_Order_3 (c1 : Addr) (out3 : Sl) (t8 : Sl) (t9 : Int) (t10 : Int) : M Value := Cut Try.prog 26 (todoOf Try.f26 3) (T_signalboxref07_Order_3 c1 out3 t8 t9 t10)
def T_signalboxref07_Order_6 (c1 : Addr) (out3 : Sl) (i4 : Int) (t5 : Addr) (at6 : Int) (t8 : Sl) (t9 : Int) (t10 : Int) : Env := mkEnv [(1, .pointer (some c1)), (3, .slice out3.p out3.n out3.c), (4, .int .i64 i4), (5, .pointer (some t5)), (6, .int .i64 at6), (8, .slice t8.p t8.n t8.c), (9, .int .i64 t9), (10, .int .i64 t10)] 49 0
def K_signalboxref07_Order_6 (c1 : Addr) (out3 : Sl) (i4 : Int) (t5 : Addr) (at6 : Int) (t8 : Sl) (t9 : Int) (t10 : Int) : M Value := Cut Try.prog 26 (todoOf Try.f26 6) (T_signalboxref07_Order_6 c1 out3 i4 t5 at6 t8 t9 t10)
def B_signalboxref07_Order (c0_0 : Int) (c0_1 : Int) (c0_2 : Int) (c0_3 : Int) (c0_4 : Sl) (c0_5 : Int) (c0_6 : Sl) (c0_7 : Sl) (c0_8 : Sl) (c0_9 : Sl) : M Value :=
  mNew #[.int .i64 c0_0, .int .i64 c0_1, .int .i64 c0_2, .int .i64 c0_3, .slice c0_4.p c0_4.n c0_4.c, .int .i64 c0_5, .slice c0_6.p c0_6.n c0_6.c, .slice c0_7.p c0_7.n c0_7.c, .slice c0_8.p c0_8.n c0_8.c, .slice c0_9.p c0_9.n c0_9.c] 34 fun (x1 : Addr) =>
  mLdL (x1.add 8) fun (x8 : Sl) =>
  K_signalboxref07_Order_3 x1 (Sl.mk none 0 0) x8 (x8.n : Int) (0 : Int)
def B_signalboxref07_Order_3 (c1 : Addr) (out3 : Sl) (t8 : Sl) (t9 : Int) (t10 : Int) : M Value :=
  mIf (decide (t10 < t9)) (
    mIdx t8 t10 7 fun (x13 : Addr) =>
    mLdI .i64 x13 fun (x14_0 : Int) =>
    mLdI .i64 (x13.add 1) fun (x14_1 : Int) =>
    mLdI .i64 (x13.add 2) fun (x14_2 : Int) =>
    mLdI .i64 (x13.add 3) fun (x14_3 : Int) =>
    mLdI .i64 (x13.add 4) fun (x14_4 : Int) =>
    mLdI .i64 (x13.add 5) fun (x14_5 : Int) =>
    mLdL (x13.add 6) fun (x14_6 : Sl) =>
    mNew #[.int .i64 (0 : Int), .int .i64 (0 : Int), .int .i64 (0 : Int), .int .i64 (0 : Int), .int .i64 (0 : Int), .int .i64 (0 : Int), .slice none (0) (0)] 67 fun (x5 : Addr) =>
    mSt x5 (.int .i64 x14_0) <|
    mSt (x5.add 1) (.int .i64 x14_1) <|
    mSt (x5.add 2) (.int .i64 x14_2) <|
    mSt (x5.add 3) (.int .i64 x14_3) <|
    mSt (x5.add 4) (.int .i64 x14_4) <|
    mSt (x5.add 5) (.int .i64 x14_5) <|
    mSt (x5.add 6) (.slice x14_6.p x14_6.n x14_6.c) <|
    K_signalboxref07_Order_6 c1 out3 t10 x5 (0 : Int) t8 t9 t10) (
    mRet (.slice out3.p out3.n out3.c))
def B_signalboxref07_Order_6 (c1 : Addr) (out3 : Sl) (i4 : Int) (t5 : Addr) (at6 : Int) (t8 : Sl) (t9 : Int) (t10 : Int) : M Value :=
  mBind (mIf (decide (at6 < (out3.n : Int))) (mLdL (c1.add 8) fun (x21 : Sl) =>
    mIdx out3 at6 1 fun (x24 : Addr) =>
    mLdI .i64 x24 fun (x25 : Int) =>
    mIdx x21 x25 7 fun (x26 : Addr) =>
    mLdI .i64 x26 fun (x28 : Int) =>
    mLdI .i64 t5 fun (x30 : Int) =>
    mRet (decide (x28 ≥ x30))) (mRet false)) fun (b17 : Bool) =>
  mIf b17 (
    K_signalboxref07_Order_6 c1 out3 i4 t5 (IntKind.i64.wrap (at6 + (1 : Int))) t8 t9 t10) (
    mSlc out3 1 (0 : Int) at6 (out3.c : Int) fun (x38 : Sl) =>
    mSlc out3 1 at6 (out3.n : Int) (out3.c : Int) fun (x45 : Sl) =>
    mAnd (
      mNew #[] 3 fun (x35_25 : Addr) =>
      mAnd (
        mApp 3 1 8 #[.int .i64 (0 : Int)] ⟨(some x35_25), 0, 0⟩ x38 fun (x39_30 : Sl) =>
        mNew #[.int .i64 i4] 3 fun (x41_31 : Addr) =>
        mApp 3 1 8 #[.int .i64 (0 : Int)] x39_30 ⟨(some x41_31), 1, 1⟩ fun (x42_32 : Sl) =>
        mApp 3 1 8 #[.int .i64 (0 : Int)] x42_32 x45 fun (x46_33 : Sl) =>
        K_signalboxref07_Order_3 c1 x46_33 t8 t9 (IntKind.i64.wrap (t10 + (1 : Int)))) (
        mNew #[.int .i64 i4] 3 fun (x41_26 : Addr) =>
        mApp 3 1 8 #[.int .i64 (0 : Int)] ⟨(some x35_25), 0, 0⟩ x38 fun (x39_27 : Sl) =>
        mApp 3 1 8 #[.int .i64 (0 : Int)] x39_27 ⟨(some x41_26), 1, 1⟩ fun (x42_28 : Sl) =>
        mApp 3 1 8 #[.int .i64 (0 : Int)] x42_28 x45 fun (x46_29 : Sl) =>
        K_signalboxref07_Order_3 c1 x46_29 t8 t9 (IntKind.i64.wrap (t10 + (1 : Int))))) (
      mNew #[.int .i64 i4] 3 fun (x41 : Addr) =>
      mNew #[] 3 fun (x35 : Addr) =>
      mApp 3 1 8 #[.int .i64 (0 : Int)] ⟨(some x35), 0, 0⟩ x38 fun (x39 : Sl) =>
      mApp 3 1 8 #[.int .i64 (0 : Int)] x39 ⟨(some x41), 1, 1⟩ fun (x42 : Sl) =>
      mApp 3 1 8 #[.int .i64 (0 : Int)] x42 x45 fun (x46 : Sl) =>
      K_signalboxref07_Order_3 c1 x46 t8 t9 (IntKind.i64.wrap (t10 + (1 : Int)))))
theorem E_signalboxref07_Order (c0_0 : Int) (c0_1 : Int) (c0_2 : Int) (c0_3 : Int) (c0_4 : Sl) (c0_5 : Int) (c0_6 : Sl) (c0_7 : Sl) (c0_8 : Sl) (c0_9 : Sl) : ev Try.prog 26 Try.f26.results.toList C_signalboxref07_Order D_signalboxref07_Order 400 false [.code (bodyOf Try.f26)] (List.map some [.agg #[.int .i64 c0_0, .int .i64 c0_1, .int .i64 c0_2, .int .i64 c0_3, .slice c0_4.p c0_4.n c0_4.c, .int .i64 c0_5, .slice c0_6.p c0_6.n c0_6.c, .slice c0_7.p c0_7.n c0_7.c, .slice c0_8.p c0_8.n c0_8.c, .slice c0_9.p c0_9.n c0_9.c]] ++ List.replicate (Try.f26.ntmps - List.length ([.agg #[.int .i64 c0_0, .int .i64 c0_1, .int .i64 c0_2, .int .i64 c0_3, .slice c0_4.p c0_4.n c0_4.c, .int .i64 c0_5, .slice c0_6.p c0_6.n c0_6.c, .slice c0_7.p c0_7.n c0_7.c, .slice c0_8.p c0_8.n c0_8.c, .slice c0_9.p c0_9.n c0_9.c]] : List Value)) none) = B_signalboxref07_Order c0_0 c0_1 c0_2 c0_3 c0_4 c0_5 c0_6 c0_7 c0_8 c0_9 := by kernel_rfl
theorem S_signalboxref07_Order (c0_0 : Int) (c0_1 : Int) (c0_2 : Int) (c0_3 : Int) (c0_4 : Sl) (c0_5 : Int) (c0_6 : Sl) (c0_7 : Sl) (c0_8 : Sl) (c0_9 : Sl) {h : Hp} {Q : Value → Hp → Prop} (hb : B_signalboxref07_Order c0_0 c0_1 c0_2 c0_3 c0_4 c0_5 c0_6 c0_7 c0_8 c0_9 h Q) : N_signalboxref07_Order c0_0 c0_1 c0_2 c0_3 c0_4 c0_5 c0_6 c0_7 c0_8 c0_9 h Q :=
  Nf.of_ev Try.call26 Try.func26 (c := bodyOf Try.f26) rfl mixed C_signalboxref07_Order D_signalboxref07_Order 400 (args := [.agg #[.int .i64 c0_0, .int .i64 c0_1, .int .i64 c0_2, .int .i64 c0_3, .slice c0_4.p c0_4.n c0_4.c, .int .i64 c0_5, .slice c0_6.p c0_6.n c0_6.c, .slice c0_7.p c0_7.n c0_7.c, .slice c0_8.p c0_8.n c0_8.c, .slice c0_9.p c0_9.n c0_9.c]]) (by rw [E_signalboxref07_Order]; exact hb)
theorem E_signalboxref07_Order_3 (c1 : Addr) (out3 : Sl) (t8 : Sl) (t9 : Int) (t10 : Int) : ev Try.prog 26 Try.f26.results.toList C_signalboxref07_Order D_signalboxref07_Order 400 true (todoOf Try.f26 3) (T_signalboxref07_Order_3 c1 out3 t8 t9 t10) = B_signalboxref07_Order_3 c1 out3 t8 t9 t10 := by kernel_rfl
theorem S_signalboxref07_Order_3 (c1 : Addr) (out3 : Sl) (t8 : Sl) (t9 : Int) (t10 : Int) {h : Hp} {Q : Value → Hp → Prop} (hb : B_signalboxref07_Order_3 c1 out3 t8 t9 t10 h Q) : K_signalboxref07_Order_3 c1 out3 t8 t9 t10 h Q :=
  Cut.of_ev Try.func26 mixed C_signalboxref07_Order D_signalboxref07_Order 400 (by rw [E_signalboxref07_Order_3]; exact hb)
theorem E_signalboxref07_Order_6 (c1 : Addr) (out3 : Sl) (i4 : Int) (t5 : Addr) (at6 : Int) (t8 : Sl) (t9 : Int) (t10 : Int) : ev Try.prog 26 Try.f26.results.toList C_signalboxref07_Order D_signalboxref07_Order 400 true (todoOf Try.f26 6) (T_signalboxref07_Order_6 c1 out3 i4 t5 at6 t8 t9 t10) = B_signalboxref07_Order_6 c1 out3 i4 t5 at6 t8 t9 t10 := by kernel_rfl
theorem S_signalboxref07_Order_6 (c1 : Addr) (out3 : Sl) (i4 : Int) (t5 : Addr) (at6 : Int) (t8 : Sl) (t9 : Int) (t10 : Int) {h : Hp} {Q : Value → Hp → Prop} (hb : B_signalboxref07_Order_6 c1 out3 i4 t5 at6 t8 t9 t10 h Q) : K_signalboxref07_Order_6 c1 out3 i4 t5 at6 t8 t9 t10 h Q :=
  Cut.of_ev Try.func26 mixed C_signalboxref07_Order D_signalboxref07_Order 400 (by rw [E_signalboxref07_Order_6]; exact hb)
end Go.Proofs.Ytimpaammdmeocaa
