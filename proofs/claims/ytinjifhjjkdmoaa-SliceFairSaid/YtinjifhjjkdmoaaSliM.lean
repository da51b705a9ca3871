/- What the functions of this layer come to, as forms of the small logic; written by program. Conditions: none. -/
import Derived.Test.YtinjifhjjkdmoaaSbU
import Derived.Test.YtinjifhjjkdmoaaChecked
import Derived.KernelRfl
set_option maxRecDepth 100000
namespace Go.Proofs.Ytinjifhjjkdmoaa
open Go Go.Sb
theorem mixed : Try.prog.follows .mixedOrders = true := by kernel_rfl
def N_signalboxlaw41_fixed : M Value := Nf Try.prog 14 #[]
def N_signalboxlaw41_works (l0 : Sl) : M Value := Nf Try.prog 15 #[.slice l0.p l0.n l0.c]
def N_slice_Shared (l0 : Sl) : M Value := Nf Try.prog 16 #[.slice l0.p l0.n l0.c]
def N_signalboxref41_Shared (l0 : Sl) (i1 : Int) : M Value := Nf Try.prog 17 #[.slice l0.p l0.n l0.c, .int .i64 i1]
def N_slice_Run (l0 : Sl) (quantum1 : Int) : M Value := Nf Try.prog 18 #[.slice l0.p l0.n l0.c, .int .i64 quantum1]
def N_slice_Ends (l0 : Sl) (quantum1 : Int) : M Value := Nf Try.prog 19 #[.slice l0.p l0.n l0.c, .int .i64 quantum1]
def N_slice_Fair (l0 : Sl) (quantum1 : Int) : M Value := Nf Try.prog 20 #[.slice l0.p l0.n l0.c, .int .i64 quantum1]
def N_signalboxref41_Ticks (l0 : Sl) (quantum1 : Int) : M Value := Nf Try.prog 21 #[.slice l0.p l0.n l0.c, .int .i64 quantum1]
def N_signalboxref41_Clamp (n0 : Int) : M Value := Nf Try.prog 61 #[.int .i64 n0]
def N_slice_clamp (n0 : Int) : M Value := Nf Try.prog 62 #[.int .i64 n0]
def N_slice_right (quantum0 : Int) : M Value := Nf Try.prog 63 #[.int .i64 quantum0]
def N_slice_had (l0 : Sl) (quantum1 : Int) (see2g : Nat) (see2f : Array Value) (see2c : Array Value) : M Value := Nf Try.prog 64 #[.slice l0.p l0.n l0.c, .int .i64 quantum1, .func (.func see2g) see2f see2c]
def N_slice_Ends_1 (t0_0 : Int) (t0_1 : Int) (t0_2 : Int) (so1 : Sl) (fv2 : Option Addr) (fv3 : Option Addr) : M Value := Nf Try.prog 65 #[.agg #[.int .i64 t0_0, .int .i64 t0_1, .int .i64 t0_2], .slice so1.p so1.n so1.c, .pointer fv2, .pointer fv3]
def N_slice_Fair_1 (t0_0 : Int) (t0_1 : Int) (t0_2 : Int) (so1 : Sl) (fv2 : Option Addr) (fv3 : Option Addr) : M Value := Nf Try.prog 66 #[.agg #[.int .i64 t0_0, .int .i64 t0_1, .int .i64 t0_2], .slice so1.p so1.n so1.c, .pointer fv2, .pointer fv3]
def N_signalboxlaw41_SliceRuns (l0 : Sl) (quantum1 : Int) : M Value := Nf Try.prog 3 #[.slice l0.p l0.n l0.c, .int .i64 quantum1]
def N_signalboxlaw41_SliceFair (l0 : Sl) (quantum1 : Int) : M Value := Nf Try.prog 4 #[.slice l0.p l0.n l0.c, .int .i64 quantum1]
def C_signalboxlaw41_fixed : List (Nat × List Nat) := []
def D_signalboxlaw41_fixed : List (Nat × List Nat) := []
def B_signalboxlaw41_fixed : M Value :=
  mNew #[.int .i64 (3 : Int), .int .i64 (2 : Int)] 3 fun (x4 : Addr) =>
  mBind (N_slice_Run (Sl.mk (some x4) 2 2) (2 : Int)) fun r5 =>
  unL r5 fun (x5 : Sl) =>
  mNew #[.int .i64 (3 : Int), .int .i64 (2 : Int)] 3 fun (x6 : Addr) =>
  mBind (N_slice_Ends (Sl.mk (some x6) 2 2) (2 : Int)) fun r7 =>
  unL r7 fun (x7 : Sl) =>
  mNew #[.int .i64 (3 : Int), .int .i64 (2 : Int)] 3 fun (x8 : Addr) =>
  mBind (N_slice_Shared (Sl.mk (some x8) 2 2)) fun r9 =>
  unL r9 fun (x9 : Sl) =>
  mBind (mIf ((x5.n : Int) == (3 : Int)) (mIdx x5 (1 : Int) 3 fun (x15 : Addr) =>
    mLdI .i64 x15 fun (x16_0 : Int) =>
    mLdI .i64 (x15.add 1) fun (x16_1 : Int) =>
    mLdI .i64 (x15.add 2) fun (x16_2 : Int) =>
    mRet ((x16_0 == (1 : Int)) && ((x16_1 == (2 : Int)) && ((x16_2 == (4 : Int)) && true)))) (mRet false)) fun (b9 : Bool) =>
  mBind (mIf b9 (mIdx x5 (2 : Int) 3 fun (x22 : Addr) =>
    mLdI .i64 x22 fun (x23_0 : Int) =>
    mLdI .i64 (x22.add 1) fun (x23_1 : Int) =>
    mLdI .i64 (x22.add 2) fun (x23_2 : Int) =>
    mRet ((x23_0 == (0 : Int)) && ((x23_1 == (4 : Int)) && ((x23_2 == (5 : Int)) && true)))) (mRet false)) fun (b12 : Bool) =>
  mBind (mIf b12 (mIdx x7 (0 : Int) 1 fun (x29 : Addr) =>
    mLdI .i64 x29 fun (x30 : Int) =>
    mRet (x30 == (5 : Int))) (mRet false)) fun (b15 : Bool) =>
  mBind (mIf b15 (mIdx x7 (1 : Int) 1 fun (x35 : Addr) =>
    mLdI .i64 x35 fun (x36 : Int) =>
    mRet (x36 == (4 : Int))) (mRet false)) fun (b18 : Bool) =>
  mBind (mIf b18 (mIdx x9 (0 : Int) 1 fun (x41 : Addr) =>
    mLdI .i64 x41 fun (x42 : Int) =>
    mRet (x42 == (5 : Int))) (mRet false)) fun (b21 : Bool) =>
  mBind (mIf b21 (mIdx x9 (1 : Int) 1 fun (x47 : Addr) =>
    mLdI .i64 x47 fun (x48 : Int) =>
    mRet (x48 == (4 : Int))) (mRet false)) fun (b24 : Bool) =>
  mBind (mIf b24 (mNew #[.int .i64 (3 : Int), .int .i64 (2 : Int)] 3 fun (x52 : Addr) =>
    mBind (N_slice_Fair (Sl.mk (some x52) 2 2) (2 : Int)) fun r53 =>
    unI .i64 r53 fun (x53 : Int) =>
    mRet (x53 == (2 : Int))) (mRet false)) fun (b27 : Bool) =>
  mBind (mIf b27 (mBind (N_slice_Run (Sl.mk none 0 0) (0 : Int)) fun r57 =>
    unL r57 fun (x57 : Sl) =>
    mRet ((x57.n : Int) == (0 : Int))) (mRet false)) fun (b29 : Bool) =>
  mRet (.bool b29)
theorem E_signalboxlaw41_fixed : ev Try.prog 14 Try.f14.results.toList C_signalboxlaw41_fixed D_signalboxlaw41_fixed 400 false [.code (bodyOf Try.f14)] (List.map some [] ++ List.replicate (Try.f14.ntmps - List.length ([] : List Value)) none) = B_signalboxlaw41_fixed := by kernel_rfl
theorem S_signalboxlaw41_fixed {h : Hp} {Q : Value → Hp → Prop} (hb : B_signalboxlaw41_fixed h Q) : N_signalboxlaw41_fixed h Q :=
  Nf.of_ev Try.call14 Try.func14 (c := bodyOf Try.f14) rfl mixed C_signalboxlaw41_fixed D_signalboxlaw41_fixed 400 (args := []) (by rw [E_signalboxlaw41_fixed]; exact hb)
def C_signalboxlaw41_works : List (Nat × List Nat) := [(4, [0, 4, 5, 8, 9, 10])]
def D_signalboxlaw41_works : List (Nat × List Nat) := []
def T_signalboxlaw41_works_4 (l0 : Sl) (out4 : Sl) (n5 : Int) (t8 : Sl) (t9 : Int) (t10 : Int) : Env := mkEnv [(0, .slice l0.p l0.n l0.c), (4, .slice out4.p out4.n out4.c), (5, .int .i64 n5), (8, .slice t8.p t8.n t8.c), (9, .int .i64 t9), (10, .int .i64 t10)] 30 0
def K_signalboxlaw41_works_4 (l0 : Sl) (out4 : Sl) (n5 : Int) (t8 : Sl) (t9 : Int) (t10 : Int) : M Value := Cut Try.prog 15 (todoOf Try.f15 4) (T_signalboxlaw41_works_4 l0 out4 n5 t8 t9 t10)
def B_signalboxlaw41_works (l0 : Sl) : M Value :=
  K_signalboxlaw41_works_4 l0 (Sl.mk none 0 0) (0 : Int) l0 (l0.n : Int) (0 : Int)
def B_signalboxlaw41_works_4 (l0 : Sl) (out4 : Sl) (n5 : Int) (t8 : Sl) (t9 : Int) (t10 : Int) : M Value :=
  mIf (decide (t10 < t9)) (
    mIdx t8 t10 1 fun (x12 : Addr) =>
    mLdI .i64 x12 fun (x13 : Int) =>
    mBind (N_signalboxref41_Clamp x13) fun r16 =>
    unI .i64 r16 fun (x16 : Int) =>
    mNew #[.int .i64 x16] 3 fun (x17 : Addr) =>
    mApp 3 1 8 #[.int .i64 (0 : Int)] out4 ⟨(some x17), 1, 1⟩ fun (x18 : Sl) =>
    mBind (N_signalboxref41_Clamp x13) fun r21 =>
    unI .i64 r21 fun (x21 : Int) =>
    mIf (decide ((IntKind.i64.wrap (n5 + x21)) > (1500 : Int))) (
      mRet (.tuple #[.slice none (0) (0), .bool false])) (
      K_signalboxlaw41_works_4 l0 x18 (IntKind.i64.wrap (n5 + x21)) t8 t9 (IntKind.i64.wrap (t10 + (1 : Int))))) (
    mRet (.tuple #[.slice out4.p out4.n out4.c, .bool (decide ((l0.n : Int) ≤ (30 : Int)))]))
theorem E_signalboxlaw41_works (l0 : Sl) : ev Try.prog 15 Try.f15.results.toList C_signalboxlaw41_works D_signalboxlaw41_works 400 false [.code (bodyOf Try.f15)] (List.map some [.slice l0.p l0.n l0.c] ++ List.replicate (Try.f15.ntmps - List.length ([.slice l0.p l0.n l0.c] : List Value)) none) = B_signalboxlaw41_works l0 := by kernel_rfl
theorem S_signalboxlaw41_works (l0 : Sl) {h : Hp} {Q : Value → Hp → Prop} (hb : B_signalboxlaw41_works l0 h Q) : N_signalboxlaw41_works l0 h Q :=
  Nf.of_ev Try.call15 Try.func15 (c := bodyOf Try.f15) rfl mixed C_signalboxlaw41_works D_signalboxlaw41_works 400 (args := [.slice l0.p l0.n l0.c]) (by rw [E_signalboxlaw41_works]; exact hb)
theorem E_signalboxlaw41_works_4 (l0 : Sl) (out4 : Sl) (n5 : Int) (t8 : Sl) (t9 : Int) (t10 : Int) : ev Try.prog 15 Try.f15.results.toList C_signalboxlaw41_works D_signalboxlaw41_works 400 true (todoOf Try.f15 4) (T_signalboxlaw41_works_4 l0 out4 n5 t8 t9 t10) = B_signalboxlaw41_works_4 l0 out4 n5 t8 t9 t10 := by kernel_rfl
theorem S_signalboxlaw41_works_4 (l0 : Sl) (out4 : Sl) (n5 : Int) (t8 : Sl) (t9 : Int) (t10 : Int) {h : Hp} {Q : Value → Hp → Prop} (hb : B_signalboxlaw41_works_4 l0 out4 n5 t8 t9 t10 h Q) : K_signalboxlaw41_works_4 l0 out4 n5 t8 t9 t10 h Q :=
  Cut.of_ev Try.func15 mixed C_signalboxlaw41_works D_signalboxlaw41_works 400 (by rw [E_signalboxlaw41_works_4]; exact hb)
def C_slice_Shared : List (Nat × List Nat) := [(3, [0, 3, 9, 10, 11]), (7, [0, 3, 5, 6, 9, 10, 11, 15, 16, 17])]
def D_slice_Shared : List (Nat × List Nat) := []
def T_slice_Shared_3 (l0 : Sl) (out3 : Sl) (t9 : Sl) (t10 : Int) (t11 : Int) : Env := mkEnv [(0, .slice l0.p l0.n l0.c), (3, .slice out3.p out3.n out3.c), (9, .slice t9.p t9.n t9.c), (10, .int .i64 t10), (11, .int .i64 t11)] 35 0
def K_slice_Shared_3 (l0 : Sl) (out3 : Sl) (t9 : Sl) (t10 : Int) (t11 : Int) : M Value := Cut Try.prog 16 (todoOf Try.f16 3) (T_slice_Shared_3 l0 out3 t9 t10 t11)
def T_slice_Shared_7 (l0 : Sl) (out3 : Sl) (n5 : Int) (sum6 : Int) (t9 : Sl) (t10 : Int) (t11 : Int) (t15 : Sl) (t16 : Int) (t17 : Int) : Env := mkEnv [(0, .slice l0.p l0.n l0.c), (3, .slice out3.p out3.n out3.c), (5, .int .i64 n5), (6, .int .i64 sum6), (9, .slice t9.p t9.n t9.c), (10, .int .i64 t10), (11, .int .i64 t11), (15, .slice t15.p t15.n t15.c), (16, .int .i64 t16), (17, .int .i64 t17)] 35 0
def K_slice_Shared_7 (l0 : Sl) (out3 : Sl) (n5 : Int) (sum6 : Int) (t9 : Sl) (t10 : Int) (t11 : Int) (t15 : Sl) (t16 : Int) (t17 : Int) : M Value := Cut Try.prog 16 (todoOf Try.f16 7) (T_slice_Shared_7 l0 out3 n5 sum6 t9 t10 t11 t15 t16 t17)
def B_slice_Shared (l0 : Sl) : M Value :=
  K_slice_Shared_3 l0 (Sl.mk none 0 0) l0 (l0.n : Int) (0 : Int)
def B_slice_Shared_3 (l0 : Sl) (out3 : Sl) (t9 : Sl) (t10 : Int) (t11 : Int) : M Value :=
  mIf (decide (t11 < t10)) (
    mIdx t9 t11 1 fun (x13 : Addr) =>
    mLdI .i64 x13 fun (x14 : Int) =>
    K_slice_Shared_7 l0 out3 x14 (0 : Int) t9 t10 t11 l0 (l0.n : Int) (0 : Int)) (
    mRet (.slice out3.p out3.n out3.c))
def B_slice_Shared_7 (l0 : Sl) (out3 : Sl) (n5 : Int) (sum6 : Int) (t9 : Sl) (t10 : Int) (t11 : Int) (t15 : Sl) (t16 : Int) (t17 : Int) : M Value :=
  mIf (decide (t17 < t16)) (
    mIdx t15 t17 1 fun (x19 : Addr) =>
    mLdI .i64 x19 fun (x20 : Int) =>
    mBind (N_slice_clamp x20) fun r23 =>
    unI .i64 r23 fun (x23 : Int) =>
    mBind (N_slice_clamp n5) fun r25 =>
    unI .i64 r25 fun (x25 : Int) =>
    K_slice_Shared_7 l0 out3 n5 (IntKind.i64.wrap (sum6 + (if x25 < x23 then x25 else x23))) t9 t10 t11 t15 t16 (IntKind.i64.wrap (t17 + (1 : Int)))) (
    mNew #[.int .i64 sum6] 3 fun (x31 : Addr) =>
    mApp 3 1 8 #[.int .i64 (0 : Int)] out3 ⟨(some x31), 1, 1⟩ fun (x32 : Sl) =>
    K_slice_Shared_3 l0 x32 t9 t10 (IntKind.i64.wrap (t11 + (1 : Int))))
theorem E_slice_Shared (l0 : Sl) : ev Try.prog 16 Try.f16.results.toList C_slice_Shared D_slice_Shared 400 false [.code (bodyOf Try.f16)] (List.map some [.slice l0.p l0.n l0.c] ++ List.replicate (Try.f16.ntmps - List.length ([.slice l0.p l0.n l0.c] : List Value)) none) = B_slice_Shared l0 := by kernel_rfl
theorem S_slice_Shared (l0 : Sl) {h : Hp} {Q : Value → Hp → Prop} (hb : B_slice_Shared l0 h Q) : N_slice_Shared l0 h Q :=
  Nf.of_ev Try.call16 Try.func16 (c := bodyOf Try.f16) rfl mixed C_slice_Shared D_slice_Shared 400 (args := [.slice l0.p l0.n l0.c]) (by rw [E_slice_Shared]; exact hb)
theorem E_slice_Shared_3 (l0 : Sl) (out3 : Sl) (t9 : Sl) (t10 : Int) (t11 : Int) : ev Try.prog 16 Try.f16.results.toList C_slice_Shared D_slice_Shared 400 true (todoOf Try.f16 3) (T_slice_Shared_3 l0 out3 t9 t10 t11) = B_slice_Shared_3 l0 out3 t9 t10 t11 := by kernel_rfl
theorem S_slice_Shared_3 (l0 : Sl) (out3 : Sl) (t9 : Sl) (t10 : Int) (t11 : Int) {h : Hp} {Q : Value → Hp → Prop} (hb : B_slice_Shared_3 l0 out3 t9 t10 t11 h Q) : K_slice_Shared_3 l0 out3 t9 t10 t11 h Q :=
  Cut.of_ev Try.func16 mixed C_slice_Shared D_slice_Shared 400 (by rw [E_slice_Shared_3]; exact hb)
theorem E_slice_Shared_7 (l0 : Sl) (out3 : Sl) (n5 : Int) (sum6 : Int) (t9 : Sl) (t10 : Int) (t11 : Int) (t15 : Sl) (t16 : Int) (t17 : Int) : ev Try.prog 16 Try.f16.results.toList C_slice_Shared D_slice_Shared 400 true (todoOf Try.f16 7) (T_slice_Shared_7 l0 out3 n5 sum6 t9 t10 t11 t15 t16 t17) = B_slice_Shared_7 l0 out3 n5 sum6 t9 t10 t11 t15 t16 t17 := by kernel_rfl
theorem S_slice_Shared_7 (l0 : Sl) (out3 : Sl) (n5 : Int) (sum6 : Int) (t9 : Sl) (t10 : Int) (t11 : Int) (t15 : Sl) (t16 : Int) (t17 : Int) {h : Hp} {Q : Value → Hp → Prop} (hb : B_slice_Shared_7 l0 out3 n5 sum6 t9 t10 t11 t15 t16 t17 h Q) : K_slice_Shared_7 l0 out3 n5 sum6 t9 t10 t11 t15 t16 t17 h Q :=
  Cut.of_ev Try.func16 mixed C_slice_Shared D_slice_Shared 400 (by rw [E_slice_Shared_7]; exact hb)
def C_signalboxref41_Shared : List (Nat × List Nat) := [(3, [0, 1, 5, 8, 9, 10])]
def D_signalboxref41_Shared : List (Nat × List Nat) := []
def T_signalboxref41_Shared_3 (l0 : Sl) (i1 : Int) (n5 : Int) (t8 : Sl) (t9 : Int) (t10 : Int) : Env := mkEnv [(0, .slice l0.p l0.n l0.c), (1, .int .i64 i1), (5, .int .i64 n5), (8, .slice t8.p t8.n t8.c), (9, .int .i64 t9), (10, .int .i64 t10)] 24 0
def K_signalboxref41_Shared_3 (l0 : Sl) (i1 : Int) (n5 : Int) (t8 : Sl) (t9 : Int) (t10 : Int) : M Value := Cut Try.prog 17 (todoOf Try.f17 3) (T_signalboxref41_Shared_3 l0 i1 n5 t8 t9 t10)
def B_signalboxref41_Shared (l0 : Sl) (i1 : Int) : M Value :=
  K_signalboxref41_Shared_3 l0 i1 (0 : Int) l0 (l0.n : Int) (0 : Int)
def B_signalboxref41_Shared_3 (l0 : Sl) (i1 : Int) (n5 : Int) (t8 : Sl) (t9 : Int) (t10 : Int) : M Value :=
  mIf (decide (t10 < t9)) (
    mIdx t8 t10 1 fun (x12 : Addr) =>
    mLdI .i64 x12 fun (x13 : Int) =>
    mIdx l0 i1 1 fun (x18 : Addr) =>
    mLdI .i64 x18 fun (x19 : Int) =>
    K_signalboxref41_Shared_3 l0 i1 (IntKind.i64.wrap (n5 + (if x19 < x13 then x19 else x13))) t8 t9 (IntKind.i64.wrap (t10 + (1 : Int)))) (
    mRet (.int .i64 n5))
theorem E_signalboxref41_Shared (l0 : Sl) (i1 : Int) : ev Try.prog 17 Try.f17.results.toList C_signalboxref41_Shared D_signalboxref41_Shared 400 false [.code (bodyOf Try.f17)] (List.map some [.slice l0.p l0.n l0.c, .int .i64 i1] ++ List.replicate (Try.f17.ntmps - List.length ([.slice l0.p l0.n l0.c, .int .i64 i1] : List Value)) none) = B_signalboxref41_Shared l0 i1 := by kernel_rfl
theorem S_signalboxref41_Shared (l0 : Sl) (i1 : Int) {h : Hp} {Q : Value → Hp → Prop} (hb : B_signalboxref41_Shared l0 i1 h Q) : N_signalboxref41_Shared l0 i1 h Q :=
  Nf.of_ev Try.call17 Try.func17 (c := bodyOf Try.f17) rfl mixed C_signalboxref41_Shared D_signalboxref41_Shared 400 (args := [.slice l0.p l0.n l0.c, .int .i64 i1]) (by rw [E_signalboxref41_Shared]; exact hb)
theorem E_signalboxref41_Shared_3 (l0 : Sl) (i1 : Int) (n5 : Int) (t8 : Sl) (t9 : Int) (t10 : Int) : ev Try.prog 17 Try.f17.results.toList C_signalboxref41_Shared D_signalboxref41_Shared 400 true (todoOf Try.f17 3) (T_signalboxref41_Shared_3 l0 i1 n5 t8 t9 t10) = B_signalboxref41_Shared_3 l0 i1 n5 t8 t9 t10 := by kernel_rfl
theorem S_signalboxref41_Shared_3 (l0 : Sl) (i1 : Int) (n5 : Int) (t8 : Sl) (t9 : Int) (t10 : Int) {h : Hp} {Q : Value → Hp → Prop} (hb : B_signalboxref41_Shared_3 l0 i1 n5 t8 t9 t10 h Q) : K_signalboxref41_Shared_3 l0 i1 n5 t8 t9 t10 h Q :=
  Cut.of_ev Try.func17 mixed C_signalboxref41_Shared D_signalboxref41_Shared 400 (by rw [E_signalboxref41_Shared_3]; exact hb)
def C_slice_Run : List (Nat × List Nat) := [(6, [1, 5, 6, 19, 20, 21]), (14, [1, 5, 6, 9, 10])]
def D_slice_Run : List (Nat × List Nat) := []
def T_slice_Run_6 (quantum1 : Int) (left5 : Sl) (row6 : Sl) (t19 : Sl) (t20 : Int) (t21 : Int) : Env := mkEnv [(1, .int .i64 quantum1), (5, .slice left5.p left5.n left5.c), (6, .slice row6.p row6.n row6.c), (19, .slice t19.p t19.n t19.c), (20, .int .i64 t20), (21, .int .i64 t21)] 89 0
def K_slice_Run_6 (quantum1 : Int) (left5 : Sl) (row6 : Sl) (t19 : Sl) (t20 : Int) (t21 : Int) : M Value := Cut Try.prog 18 (todoOf Try.f18 6) (T_slice_Run_6 quantum1 left5 row6 t19 t20 t21)
def T_slice_Run_14 (quantum1 : Int) (left5 : Sl) (row6 : Sl) (out9 : Sl) (now10 : Int) : Env := mkEnv [(1, .int .i64 quantum1), (5, .slice left5.p left5.n left5.c), (6, .slice row6.p row6.n row6.c), (9, .slice out9.p out9.n out9.c), (10, .int .i64 now10)] 89 0
def K_slice_Run_14 (quantum1 : Int) (left5 : Sl) (row6 : Sl) (out9 : Sl) (now10 : Int) : M Value := Cut Try.prog 18 (todoOf Try.f18 14) (T_slice_Run_14 quantum1 left5 row6 out9 now10)
def B_slice_Run (l0 : Sl) (quantum1 : Int) : M Value :=
  mBind (N_slice_right quantum1) fun r14 =>
  unB r14 fun (x14 : Bool) =>
  mIf (!x14) (
    mRet (.slice none (0) (0))) (
    mMake 3 8 #[.int .i64 (0 : Int)] (l0.n : Int) (l0.n : Int) fun (x18 : Sl) =>
    K_slice_Run_6 quantum1 x18 (Sl.mk none 0 0) l0 (l0.n : Int) (0 : Int))
def B_slice_Run_6 (quantum1 : Int) (left5 : Sl) (row6 : Sl) (t19 : Sl) (t20 : Int) (t21 : Int) : M Value :=
  mIf (decide (t21 < t20)) (
    mIdx t19 t21 1 fun (x24 : Addr) =>
    mLdI .i64 x24 fun (x25 : Int) =>
    mBind (N_slice_clamp x25) fun r29 =>
    unI .i64 r29 fun (x29 : Int) =>
    mIdx left5 t21 1 fun (x30 : Addr) =>
    mSt x30 (.int .i64 x29) <|
    mIdx left5 t21 1 fun (x33 : Addr) =>
    mLdI .i64 x33 fun (x34 : Int) =>
    mIf (decide (x34 > (0 : Int))) (
      mNew #[.int .i64 t21] 3 fun (x38 : Addr) =>
      mApp 3 1 8 #[.int .i64 (0 : Int)] row6 ⟨(some x38), 1, 1⟩ fun (x39 : Sl) =>
      K_slice_Run_6 quantum1 left5 x39 t19 t20 (IntKind.i64.wrap (t21 + (1 : Int)))) (
      K_slice_Run_6 quantum1 left5 row6 t19 t20 (IntKind.i64.wrap (t21 + (1 : Int))))) (
    K_slice_Run_14 quantum1 left5 row6 (Sl.mk none 0 0) (0 : Int))
def B_slice_Run_14 (quantum1 : Int) (left5 : Sl) (row6 : Sl) (out9 : Sl) (now10 : Int) : M Value :=
  mIf ((decide ((row6.n : Int) > (0 : Int))) && (decide ((out9.n : Int) < (4096 : Int)))) (
    mIdx row6 (0 : Int) 1 fun (x50 : Addr) =>
    mLdI .i64 x50 fun (x51 : Int) =>
    mSlc row6 1 (1 : Int) (row6.n : Int) (row6.c : Int) fun (x53 : Sl) =>
    mIdx left5 x51 1 fun (x56 : Addr) =>
    mLdI .i64 x56 fun (x57 : Int) =>
    mIdx left5 x51 1 fun (x62 : Addr) =>
    mLdI .i64 x62 fun (x63 : Int) =>
    mIdx left5 x51 1 fun (x66 : Addr) =>
    mSt x66 (.int .i64 (IntKind.i64.wrap (x63 - (if quantum1 < x57 then quantum1 else x57)))) <|
    mNew #[.int .i64 x51, .int .i64 now10, .int .i64 (IntKind.i64.wrap (now10 + (if quantum1 < x57 then quantum1 else x57)))] 32 fun (x74 : Addr) =>
    mApp 32 3 24 #[.int .i64 (0 : Int), .int .i64 (0 : Int), .int .i64 (0 : Int)] out9 ⟨(some x74), 1, 1⟩ fun (x75 : Sl) =>
    mIdx left5 x51 1 fun (x81 : Addr) =>
    mLdI .i64 x81 fun (x82 : Int) =>
    mIf (decide (x82 > (0 : Int))) (
      mNew #[.int .i64 x51] 3 fun (x86 : Addr) =>
      mApp 3 1 8 #[.int .i64 (0 : Int)] x53 ⟨(some x86), 1, 1⟩ fun (x87 : Sl) =>
      K_slice_Run_14 quantum1 left5 x87 x75 (IntKind.i64.wrap (now10 + (if quantum1 < x57 then quantum1 else x57)))) (
      K_slice_Run_14 quantum1 left5 x53 x75 (IntKind.i64.wrap (now10 + (if quantum1 < x57 then quantum1 else x57))))) (
    mRet (.slice out9.p out9.n out9.c))
theorem E_slice_Run (l0 : Sl) (quantum1 : Int) : ev Try.prog 18 Try.f18.results.toList C_slice_Run D_slice_Run 400 false [.code (bodyOf Try.f18)] (List.map some [.slice l0.p l0.n l0.c, .int .i64 quantum1] ++ List.replicate (Try.f18.ntmps - List.length ([.slice l0.p l0.n l0.c, .int .i64 quantum1] : List Value)) none) = B_slice_Run l0 quantum1 := by kernel_rfl
theorem S_slice_Run (l0 : Sl) (quantum1 : Int) {h : Hp} {Q : Value → Hp → Prop} (hb : B_slice_Run l0 quantum1 h Q) : N_slice_Run l0 quantum1 h Q :=
  Nf.of_ev Try.call18 Try.func18 (c := bodyOf Try.f18) rfl mixed C_slice_Run D_slice_Run 400 (args := [.slice l0.p l0.n l0.c, .int .i64 quantum1]) (by rw [E_slice_Run]; exact hb)
theorem E_slice_Run_6 (quantum1 : Int) (left5 : Sl) (row6 : Sl) (t19 : Sl) (t20 : Int) (t21 : Int) : ev Try.prog 18 Try.f18.results.toList C_slice_Run D_slice_Run 400 true (todoOf Try.f18 6) (T_slice_Run_6 quantum1 left5 row6 t19 t20 t21) = B_slice_Run_6 quantum1 left5 row6 t19 t20 t21 := by kernel_rfl
theorem S_slice_Run_6 (quantum1 : Int) (left5 : Sl) (row6 : Sl) (t19 : Sl) (t20 : Int) (t21 : Int) {h : Hp} {Q : Value → Hp → Prop} (hb : B_slice_Run_6 quantum1 left5 row6 t19 t20 t21 h Q) : K_slice_Run_6 quantum1 left5 row6 t19 t20 t21 h Q :=
  Cut.of_ev Try.func18 mixed C_slice_Run D_slice_Run 400 (by rw [E_slice_Run_6]; exact hb)
theorem E_slice_Run_14 (quantum1 : Int) (left5 : Sl) (row6 : Sl) (out9 : Sl) (now10 : Int) : ev Try.prog 18 Try.f18.results.toList C_slice_Run D_slice_Run 400 true (todoOf Try.f18 14) (T_slice_Run_14 quantum1 left5 row6 out9 now10) = B_slice_Run_14 quantum1 left5 row6 out9 now10 := by kernel_rfl
theorem S_slice_Run_14 (quantum1 : Int) (left5 : Sl) (row6 : Sl) (out9 : Sl) (now10 : Int) {h : Hp} {Q : Value → Hp → Prop} (hb : B_slice_Run_14 quantum1 left5 row6 out9 now10 h Q) : K_slice_Run_14 quantum1 left5 row6 out9 now10 h Q :=
  Cut.of_ev Try.func18 mixed C_slice_Run D_slice_Run 400 (by rw [E_slice_Run_14]; exact hb)
def C_slice_Ends : List (Nat × List Nat) := []
def D_slice_Ends : List (Nat × List Nat) := []
def B_slice_Ends (l0 : Sl) (quantum1 : Int) : M Value :=
  mNew #[.slice l0.p l0.n l0.c] 22 fun (x2 : Addr) =>
  mBind (N_slice_right quantum1) fun r7 =>
  unB r7 fun (x7 : Bool) =>
  mIf (!x7) (
    mRet (.slice none (0) (0))) (
    mLdL x2 fun (x9 : Sl) =>
    mMake 3 8 #[.int .i64 (0 : Int)] (x9.n : Int) (x9.n : Int) fun (x11 : Sl) =>
    mNew #[.slice none (0) (0)] 22 fun (x5 : Addr) =>
    mSt x5 (.slice x11.p x11.n x11.c) <|
    mLdL x2 fun (x12 : Sl) =>
    mBind (N_slice_had x12 quantum1 (65) (#[]) (#[.pointer (some x2), .pointer (some x5)])) fun _r15 =>
    mLdL x5 fun (x16 : Sl) =>
    mRet (.slice x16.p x16.n x16.c))
theorem E_slice_Ends (l0 : Sl) (quantum1 : Int) : ev Try.prog 19 Try.f19.results.toList C_slice_Ends D_slice_Ends 400 false [.code (bodyOf Try.f19)] (List.map some [.slice l0.p l0.n l0.c, .int .i64 quantum1] ++ List.replicate (Try.f19.ntmps - List.length ([.slice l0.p l0.n l0.c, .int .i64 quantum1] : List Value)) none) = B_slice_Ends l0 quantum1 := by kernel_rfl
theorem S_slice_Ends (l0 : Sl) (quantum1 : Int) {h : Hp} {Q : Value → Hp → Prop} (hb : B_slice_Ends l0 quantum1 h Q) : N_slice_Ends l0 quantum1 h Q :=
  Nf.of_ev Try.call19 Try.func19 (c := bodyOf Try.f19) rfl mixed C_slice_Ends D_slice_Ends 400 (args := [.slice l0.p l0.n l0.c, .int .i64 quantum1]) (by rw [E_slice_Ends]; exact hb)
def C_slice_Fair : List (Nat × List Nat) := []
def D_slice_Fair : List (Nat × List Nat) := []
def B_slice_Fair (l0 : Sl) (quantum1 : Int) : M Value :=
  mNew #[.slice l0.p l0.n l0.c] 22 fun (x2 : Addr) =>
  mNew #[.int .i64 (0 : Int)] 3 fun (x5 : Addr) =>
  mSt x5 (.int .i64 (0 : Int)) <|
  mLdL x2 fun (x6 : Sl) =>
  mBind (N_slice_had x6 quantum1 (66) (#[]) (#[.pointer (some x2), .pointer (some x5)])) fun _r9 =>
  mLdI .i64 x5 fun (x10 : Int) =>
  mRet (.int .i64 x10)
theorem E_slice_Fair (l0 : Sl) (quantum1 : Int) : ev Try.prog 20 Try.f20.results.toList C_slice_Fair D_slice_Fair 400 false [.code (bodyOf Try.f20)] (List.map some [.slice l0.p l0.n l0.c, .int .i64 quantum1] ++ List.replicate (Try.f20.ntmps - List.length ([.slice l0.p l0.n l0.c, .int .i64 quantum1] : List Value)) none) = B_slice_Fair l0 quantum1 := by kernel_rfl
theorem S_slice_Fair (l0 : Sl) (quantum1 : Int) {h : Hp} {Q : Value → Hp → Prop} (hb : B_slice_Fair l0 quantum1 h Q) : N_slice_Fair l0 quantum1 h Q :=
  Nf.of_ev Try.call20 Try.func20 (c := bodyOf Try.f20) rfl mixed C_slice_Fair D_slice_Fair 400 (args := [.slice l0.p l0.n l0.c, .int .i64 quantum1]) (by rw [E_slice_Fair]; exact hb)
def C_signalboxref41_Ticks : List (Nat × List Nat) := [(4, [1, 5, 6, 15, 16, 17]), (10, [1, 5, 6, 9]), (14, [1, 5, 6, 9, 10, 11])]
def D_signalboxref41_Ticks : List (Nat × List Nat) := []
def T_signalboxref41_Ticks_4 (quantum1 : Int) (left5 : Sl) (row6 : Sl) (t15 : Sl) (t16 : Int) (t17 : Int) : Env := mkEnv [(1, .int .i64 quantum1), (5, .slice left5.p left5.n left5.c), (6, .slice row6.p row6.n row6.c), (15, .slice t15.p t15.n t15.c), (16, .int .i64 t16), (17, .int .i64 t17)] 73 0
def K_signalboxref41_Ticks_4 (quantum1 : Int) (left5 : Sl) (row6 : Sl) (t15 : Sl) (t16 : Int) (t17 : Int) : M Value := Cut Try.prog 21 (todoOf Try.f21 4) (T_signalboxref41_Ticks_4 quantum1 left5 row6 t15 t16 t17)
def T_signalboxref41_Ticks_10 (quantum1 : Int) (left5 : Sl) (row6 : Sl) (out9 : Sl) : Env := mkEnv [(1, .int .i64 quantum1), (5, .slice left5.p left5.n left5.c), (6, .slice row6.p row6.n row6.c), (9, .slice out9.p out9.n out9.c)] 73 0
def K_signalboxref41_Ticks_10 (quantum1 : Int) (left5 : Sl) (row6 : Sl) (out9 : Sl) : M Value := Cut Try.prog 21 (todoOf Try.f21 10) (T_signalboxref41_Ticks_10 quantum1 left5 row6 out9)
def T_signalboxref41_Ticks_14 (quantum1 : Int) (left5 : Sl) (row6 : Sl) (out9 : Sl) (i10 : Int) (n11 : Int) : Env := mkEnv [(1, .int .i64 quantum1), (5, .slice left5.p left5.n left5.c), (6, .slice row6.p row6.n row6.c), (9, .slice out9.p out9.n out9.c), (10, .int .i64 i10), (11, .int .i64 n11)] 73 0
def K_signalboxref41_Ticks_14 (quantum1 : Int) (left5 : Sl) (row6 : Sl) (out9 : Sl) (i10 : Int) (n11 : Int) : M Value := Cut Try.prog 21 (todoOf Try.f21 14) (T_signalboxref41_Ticks_14 quantum1 left5 row6 out9 i10 n11)
def B_signalboxref41_Ticks (l0 : Sl) (quantum1 : Int) : M Value :=
  mNew #[] 3 fun (x12 : Addr) =>
  mApp 3 1 8 #[.int .i64 (0 : Int)] ⟨(some x12), 0, 0⟩ l0 fun (x14 : Sl) =>
  K_signalboxref41_Ticks_4 quantum1 x14 (Sl.mk none 0 0) l0 (l0.n : Int) (0 : Int)
def B_signalboxref41_Ticks_4 (quantum1 : Int) (left5 : Sl) (row6 : Sl) (t15 : Sl) (t16 : Int) (t17 : Int) : M Value :=
  mIf (decide (t17 < t16)) (
    mIdx t15 t17 1 fun (x20 : Addr) =>
    mLdI .i64 x20 fun (x21 : Int) =>
    mIf (decide (x21 > (0 : Int))) (
      mNew #[.int .i64 t17] 3 fun (x26 : Addr) =>
      mApp 3 1 8 #[.int .i64 (0 : Int)] row6 ⟨(some x26), 1, 1⟩ fun (x27 : Sl) =>
      K_signalboxref41_Ticks_4 quantum1 left5 x27 t15 t16 (IntKind.i64.wrap (t17 + (1 : Int)))) (
      K_signalboxref41_Ticks_4 quantum1 left5 row6 t15 t16 (IntKind.i64.wrap (t17 + (1 : Int))))) (
    K_signalboxref41_Ticks_10 quantum1 left5 row6 (Sl.mk none 0 0))
def B_signalboxref41_Ticks_10 (quantum1 : Int) (left5 : Sl) (row6 : Sl) (out9 : Sl) : M Value :=
  mIf (decide ((row6.n : Int) > (0 : Int))) (
    mIdx row6 (0 : Int) 1 fun (x33 : Addr) =>
    mLdI .i64 x33 fun (x34 : Int) =>
    mNew #[] 3 fun (x35 : Addr) =>
    mSlc row6 1 (1 : Int) (row6.n : Int) (row6.c : Int) fun (x37 : Sl) =>
    mApp 3 1 8 #[.int .i64 (0 : Int)] ⟨(some x35), 0, 0⟩ x37 fun (x38 : Sl) =>
    K_signalboxref41_Ticks_14 quantum1 left5 x38 out9 x34 (0 : Int)) (
    mRet (.slice out9.p out9.n out9.c))
def B_signalboxref41_Ticks_14 (quantum1 : Int) (left5 : Sl) (row6 : Sl) (out9 : Sl) (i10 : Int) (n11 : Int) : M Value :=
  mBind (mIf (decide (n11 < quantum1)) (mIdx left5 i10 1 fun (x45 : Addr) =>
    mLdI .i64 x45 fun (x46 : Int) =>
    mRet (decide (x46 > (0 : Int)))) (mRet false)) fun (b14 : Bool) =>
  mIf b14 (
    mIdx left5 i10 1 fun (x55 : Addr) =>
    mLdI .i64 x55 fun (x56 : Int) =>
    mIdx left5 i10 1 fun (x58 : Addr) =>
    mSt x58 (.int .i64 (IntKind.i64.wrap (x56 - (1 : Int)))) <|
    mNew #[.int .i64 i10] 3 fun (x61 : Addr) =>
    mApp 3 1 8 #[.int .i64 (0 : Int)] out9 ⟨(some x61), 1, 1⟩ fun (x62 : Sl) =>
    K_signalboxref41_Ticks_14 quantum1 left5 row6 x62 i10 (IntKind.i64.wrap (n11 + (1 : Int)))) (
    mIdx left5 i10 1 fun (x65 : Addr) =>
    mLdI .i64 x65 fun (x66 : Int) =>
    mIf (decide (x66 > (0 : Int))) (
      mNew #[.int .i64 i10] 3 fun (x70 : Addr) =>
      mApp 3 1 8 #[.int .i64 (0 : Int)] row6 ⟨(some x70), 1, 1⟩ fun (x71 : Sl) =>
      K_signalboxref41_Ticks_10 quantum1 left5 x71 out9) (
      K_signalboxref41_Ticks_10 quantum1 left5 row6 out9))
theorem E_signalboxref41_Ticks (l0 : Sl) (quantum1 : Int) : ev Try.prog 21 Try.f21.results.toList C_signalboxref41_Ticks D_signalboxref41_Ticks 400 false [.code (bodyOf Try.f21)] (List.map some [.slice l0.p l0.n l0.c, .int .i64 quantum1] ++ List.replicate (Try.f21.ntmps - List.length ([.slice l0.p l0.n l0.c, .int .i64 quantum1] : List Value)) none) = B_signalboxref41_Ticks l0 quantum1 := by kernel_rfl
theorem S_signalboxref41_Ticks (l0 : Sl) (quantum1 : Int) {h : Hp} {Q : Value → Hp → Prop} (hb : B_signalboxref41_Ticks l0 quantum1 h Q) : N_signalboxref41_Ticks l0 quantum1 h Q :=
  Nf.of_ev Try.call21 Try.func21 (c := bodyOf Try.f21) rfl mixed C_signalboxref41_Ticks D_signalboxref41_Ticks 400 (args := [.slice l0.p l0.n l0.c, .int .i64 quantum1]) (by rw [E_signalboxref41_Ticks]; exact hb)
theorem E_signalboxref41_Ticks_4 (quantum1 : Int) (left5 : Sl) (row6 : Sl) (t15 : Sl) (t16 : Int) (t17 : Int) : ev Try.prog 21 Try.f21.results.toList C_signalboxref41_Ticks D_signalboxref41_Ticks 400 true (todoOf Try.f21 4) (T_signalboxref41_Ticks_4 quantum1 left5 row6 t15 t16 t17) = B_signalboxref41_Ticks_4 quantum1 left5 row6 t15 t16 t17 := by kernel_rfl
theorem S_signalboxref41_Ticks_4 (quantum1 : Int) (left5 : Sl) (row6 : Sl) (t15 : Sl) (t16 : Int) (t17 : Int) {h : Hp} {Q : Value → Hp → Prop} (hb : B_signalboxref41_Ticks_4 quantum1 left5 row6 t15 t16 t17 h Q) : K_signalboxref41_Ticks_4 quantum1 left5 row6 t15 t16 t17 h Q :=
  Cut.of_ev Try.func21 mixed C_signalboxref41_Ticks D_signalboxref41_Ticks 400 (by rw [E_signalboxref41_Ticks_4]; exact hb)
theorem E_signalboxref41_Ticks_10 (quantum1 : Int) (left5 : Sl) (row6 : Sl) (out9 : Sl) : ev Try.prog 21 Try.f21.results.toList C_signalboxref41_Ticks D_signalboxref41_Ticks 400 true (todoOf Try.f21 10) (T_signalboxref41_Ticks_10 quantum1 left5 row6 out9) = B_signalboxref41_Ticks_10 quantum1 left5 row6 out9 := by kernel_rfl
theorem S_signalboxref41_Ticks_10 (quantum1 : Int) (left5 : Sl) (row6 : Sl) (out9 : Sl) {h : Hp} {Q : Value → Hp → Prop} (hb : B_signalboxref41_Ticks_10 quantum1 left5 row6 out9 h Q) : K_signalboxref41_Ticks_10 quantum1 left5 row6 out9 h Q :=
  Cut.of_ev Try.func21 mixed C_signalboxref41_Ticks D_signalboxref41_Ticks 400 (by rw [E_signalboxref41_Ticks_10]; exact hb)
theorem E_signalboxref41_Ticks_14 (quantum1 : Int) (left5 : Sl) (row6 : Sl) (out9 : Sl) (i10 : Int) (n11 : Int) : ev Try.prog 21 Try.f21.results.toList C_signalboxref41_Ticks D_signalboxref41_Ticks 400 true (todoOf Try.f21 14) (T_signalboxref41_Ticks_14 quantum1 left5 row6 out9 i10 n11) = B_signalboxref41_Ticks_14 quantum1 left5 row6 out9 i10 n11 := by kernel_rfl
theorem S_signalboxref41_Ticks_14 (quantum1 : Int) (left5 : Sl) (row6 : Sl) (out9 : Sl) (i10 : Int) (n11 : Int) {h : Hp} {Q : Value → Hp → Prop} (hb : B_signalboxref41_Ticks_14 quantum1 left5 row6 out9 i10 n11 h Q) : K_signalboxref41_Ticks_14 quantum1 left5 row6 out9 i10 n11 h Q :=
  Cut.of_ev Try.func21 mixed C_signalboxref41_Ticks D_signalboxref41_Ticks 400 (by rw [E_signalboxref41_Ticks_14]; exact hb)
def C_signalboxref41_Clamp : List (Nat × List Nat) := []
def D_signalboxref41_Clamp : List (Nat × List Nat) := []
def B_signalboxref41_Clamp (n0 : Int) : M Value :=
  mIf (decide (n0 < (0 : Int))) (
    mRet (.int .i64 (0 : Int))) (
    mIf (decide (n0 > (1048576 : Int))) (
      mRet (.int .i64 (1048576 : Int))) (
      mRet (.int .i64 n0)))
theorem E_signalboxref41_Clamp (n0 : Int) : ev Try.prog 61 Try.f61.results.toList C_signalboxref41_Clamp D_signalboxref41_Clamp 400 false [.code (bodyOf Try.f61)] (List.map some [.int .i64 n0] ++ List.replicate (Try.f61.ntmps - List.length ([.int .i64 n0] : List Value)) none) = B_signalboxref41_Clamp n0 := by kernel_rfl
theorem S_signalboxref41_Clamp (n0 : Int) {h : Hp} {Q : Value → Hp → Prop} (hb : B_signalboxref41_Clamp n0 h Q) : N_signalboxref41_Clamp n0 h Q :=
  Nf.of_ev Try.call61 Try.func61 (c := bodyOf Try.f61) rfl mixed C_signalboxref41_Clamp D_signalboxref41_Clamp 400 (args := [.int .i64 n0]) (by rw [E_signalboxref41_Clamp]; exact hb)
def C_slice_clamp : List (Nat × List Nat) := []
def D_slice_clamp : List (Nat × List Nat) := []
def B_slice_clamp (n0 : Int) : M Value :=
  mRet (.int .i64 (if (1048576 : Int) < (if (0 : Int) > n0 then (0 : Int) else n0) then (1048576 : Int) else (if (0 : Int) > n0 then (0 : Int) else n0)))
theorem E_slice_clamp (n0 : Int) : ev Try.prog 62 Try.f62.results.toList C_slice_clamp D_slice_clamp 400 false [.code (bodyOf Try.f62)] (List.map some [.int .i64 n0] ++ List.replicate (Try.f62.ntmps - List.length ([.int .i64 n0] : List Value)) none) = B_slice_clamp n0 := by kernel_rfl
theorem S_slice_clamp (n0 : Int) {h : Hp} {Q : Value → Hp → Prop} (hb : B_slice_clamp n0 h Q) : N_slice_clamp n0 h Q :=
  Nf.of_ev Try.call62 Try.func62 (c := bodyOf Try.f62) rfl mixed C_slice_clamp D_slice_clamp 400 (args := [.int .i64 n0]) (by rw [E_slice_clamp]; exact hb)
def C_slice_right : List (Nat × List Nat) := []
def D_slice_right : List (Nat × List Nat) := []
def B_slice_right (quantum0 : Int) : M Value :=
  mRet (.bool ((decide (quantum0 ≥ (1 : Int))) && (decide (quantum0 ≤ (1048576 : Int)))))
theorem E_slice_right (quantum0 : Int) : ev Try.prog 63 Try.f63.results.toList C_slice_right D_slice_right 400 false [.code (bodyOf Try.f63)] (List.map some [.int .i64 quantum0] ++ List.replicate (Try.f63.ntmps - List.length ([.int .i64 quantum0] : List Value)) none) = B_slice_right quantum0 := by kernel_rfl
theorem S_slice_right (quantum0 : Int) {h : Hp} {Q : Value → Hp → Prop} (hb : B_slice_right quantum0 h Q) : N_slice_right quantum0 h Q :=
  Nf.of_ev Try.call63 Try.func63 (c := bodyOf Try.f63) rfl mixed C_slice_right D_slice_right 400 (args := [.int .i64 quantum0]) (by rw [E_slice_right]; exact hb)
def C_slice_had : List (Nat × List Nat) := [(2, [2, 6, 14, 15, 16])]
def D_slice_had : List (Nat × List Nat) := [(4, [0, 1, 2, 3, 4, 5, 6, 7, 8, 9, 10, 11])]
def T_slice_had_2 (see2g : Nat) (see2f : Array Value) (see2c : Array Value) (so6 : Sl) (t14 : Sl) (t15 : Int) (t16 : Int) : Env := mkEnv [(2, .func (.func see2g) see2f see2c), (6, .slice so6.p so6.n so6.c), (14, .slice t14.p t14.n t14.c), (15, .int .i64 t15), (16, .int .i64 t16)] 37 0
def K_slice_had_2 (see2g : Nat) (see2f : Array Value) (see2c : Array Value) (so6 : Sl) (t14 : Sl) (t15 : Int) (t16 : Int) : M Value := Cut Try.prog 64 (todoOf Try.f64 2) (T_slice_had_2 see2g see2f see2c so6 t14 t15 t16)
def B_slice_had (l0 : Sl) (quantum1 : Int) (see2g : Nat) (see2f : Array Value) (see2c : Array Value) : M Value :=
  mMake 3 8 #[.int .i64 (0 : Int)] (l0.n : Int) (l0.n : Int) fun (x11 : Sl) =>
  mBind (N_slice_Run l0 quantum1) fun r14 =>
  unL r14 fun (x14 : Sl) =>
  K_slice_had_2 see2g see2f see2c x11 x14 (x14.n : Int) (0 : Int)
def B_slice_had_2 (see2g : Nat) (see2f : Array Value) (see2c : Array Value) (so6 : Sl) (t14 : Sl) (t15 : Int) (t16 : Int) : M Value :=
  mIf (decide (t16 < t15)) (
    mIdx t14 t16 3 fun (x18 : Addr) =>
    mLdI .i64 x18 fun (x19_0 : Int) =>
    mLdI .i64 (x18.add 1) fun (x19_1 : Int) =>
    mLdI .i64 (x18.add 2) fun (x19_2 : Int) =>
    mNew #[.int .i64 (0 : Int), .int .i64 (0 : Int), .int .i64 (0 : Int)] 32 fun (x8 : Addr) =>
    mSt x8 (.int .i64 x19_0) <|
    mSt (x8.add 1) (.int .i64 x19_1) <|
    mSt (x8.add 2) (.int .i64 x19_2) <|
    mLdI .i64 x8 fun (x22 : Int) =>
    mIdx so6 x22 1 fun (x23 : Addr) =>
    mLdI .i64 x23 fun (x24 : Int) =>
    mLdI .i64 (x8.add 2) fun (x26 : Int) =>
    mLdI .i64 (x8.add 1) fun (x28 : Int) =>
    mIdx so6 x22 1 fun (x31 : Addr) =>
    mSt x31 (.int .i64 (IntKind.i64.wrap (x24 + (IntKind.i64.wrap (x26 - x28))))) <|
    mLdI .i64 x8 fun (x33_0 : Int) =>
    mLdI .i64 (x8.add 1) fun (x33_1 : Int) =>
    mLdI .i64 (x8.add 2) fun (x33_2 : Int) =>
    mBind (Nf Try.prog see2g (see2f ++ #[.agg #[.int .i64 x33_0, .int .i64 x33_1, .int .i64 x33_2], .slice so6.p so6.n so6.c] ++ see2c)) fun _r35 =>
    K_slice_had_2 see2g see2f see2c so6 t14 t15 (IntKind.i64.wrap (t16 + (1 : Int)))) (
    mRet (.tuple #[]))
theorem E_slice_had (l0 : Sl) (quantum1 : Int) (see2g : Nat) (see2f : Array Value) (see2c : Array Value) : ev Try.prog 64 Try.f64.results.toList C_slice_had D_slice_had 400 false [.code (bodyOf Try.f64)] (List.map some [.slice l0.p l0.n l0.c, .int .i64 quantum1, .func (.func see2g) see2f see2c] ++ List.replicate (Try.f64.ntmps - List.length ([.slice l0.p l0.n l0.c, .int .i64 quantum1, .func (.func see2g) see2f see2c] : List Value)) none) = B_slice_had l0 quantum1 see2g see2f see2c := by kernel_rfl
theorem S_slice_had (l0 : Sl) (quantum1 : Int) (see2g : Nat) (see2f : Array Value) (see2c : Array Value) {h : Hp} {Q : Value → Hp → Prop} (hb : B_slice_had l0 quantum1 see2g see2f see2c h Q) : N_slice_had l0 quantum1 see2g see2f see2c h Q :=
  Nf.of_ev Try.call64 Try.func64 (c := bodyOf Try.f64) rfl mixed C_slice_had D_slice_had 400 (args := [.slice l0.p l0.n l0.c, .int .i64 quantum1, .func (.func see2g) see2f see2c]) (by rw [E_slice_had]; exact hb)
theorem E_slice_had_2 (see2g : Nat) (see2f : Array Value) (see2c : Array Value) (so6 : Sl) (t14 : Sl) (t15 : Int) (t16 : Int) : ev Try.prog 64 Try.f64.results.toList C_slice_had D_slice_had 400 true (todoOf Try.f64 2) (T_slice_had_2 see2g see2f see2c so6 t14 t15 t16) = B_slice_had_2 see2g see2f see2c so6 t14 t15 t16 := by kernel_rfl
theorem S_slice_had_2 (see2g : Nat) (see2f : Array Value) (see2c : Array Value) (so6 : Sl) (t14 : Sl) (t15 : Int) (t16 : Int) {h : Hp} {Q : Value → Hp → Prop} (hb : B_slice_had_2 see2g see2f see2c so6 t14 t15 t16 h Q) : K_slice_had_2 see2g see2f see2c so6 t14 t15 t16 h Q :=
  Cut.of_ev Try.func64 mixed C_slice_had D_slice_had 400 (by rw [E_slice_had_2]; exact hb)
def C_slice_Ends_1 : List (Nat × List Nat) := []
def D_slice_Ends_1 : List (Nat × List Nat) := []
def B_slice_Ends_1 (t0_0 : Int) (t0_1 : Int) (t0_2 : Int) (so1 : Sl) (fv2 : Option Addr) (fv3 : Option Addr) : M Value :=
  mNew #[.int .i64 t0_0, .int .i64 t0_1, .int .i64 t0_2] 32 fun (x4 : Addr) =>
  mLdI .i64 x4 fun (x8 : Int) =>
  mIdx so1 x8 1 fun (x9 : Addr) =>
  mLdI .i64 x9 fun (x10 : Int) =>
  mNil fv2 fun (a7 : Addr) =>
  mLdL a7 fun (x11 : Sl) =>
  mLdI .i64 x4 fun (x13 : Int) =>
  mIdx x11 x13 1 fun (x14 : Addr) =>
  mLdI .i64 x14 fun (x15 : Int) =>
  mQ (N_slice_clamp x15) fun r16 =>
  unI .i64 r16 fun (x16 : Int) =>
  mIf (x10 == x16) (
    mNil fv3 fun (a14 : Addr) =>
    mLdL a14 fun (x18 : Sl) =>
    mLdI .i64 x4 fun (x20 : Int) =>
    mLdI .i64 (x4.add 2) fun (x22 : Int) =>
    mIdx x18 x20 1 fun (x23 : Addr) =>
    mSt x23 (.int .i64 x22) <|
    mRet (.tuple #[])) (
    mRet (.tuple #[]))
theorem E_slice_Ends_1 (t0_0 : Int) (t0_1 : Int) (t0_2 : Int) (so1 : Sl) (fv2 : Option Addr) (fv3 : Option Addr) : ev Try.prog 65 Try.f65.results.toList C_slice_Ends_1 D_slice_Ends_1 400 false [.code (bodyOf Try.f65)] (List.map some [.agg #[.int .i64 t0_0, .int .i64 t0_1, .int .i64 t0_2], .slice so1.p so1.n so1.c, .pointer fv2, .pointer fv3] ++ List.replicate (Try.f65.ntmps - List.length ([.agg #[.int .i64 t0_0, .int .i64 t0_1, .int .i64 t0_2], .slice so1.p so1.n so1.c, .pointer fv2, .pointer fv3] : List Value)) none) = B_slice_Ends_1 t0_0 t0_1 t0_2 so1 fv2 fv3 := by kernel_rfl
theorem S_slice_Ends_1 (t0_0 : Int) (t0_1 : Int) (t0_2 : Int) (so1 : Sl) (fv2 : Option Addr) (fv3 : Option Addr) {h : Hp} {Q : Value → Hp → Prop} (hb : B_slice_Ends_1 t0_0 t0_1 t0_2 so1 fv2 fv3 h Q) : N_slice_Ends_1 t0_0 t0_1 t0_2 so1 fv2 fv3 h Q :=
  Nf.of_ev Try.call65 Try.func65 (c := bodyOf Try.f65) rfl mixed C_slice_Ends_1 D_slice_Ends_1 400 (args := [.agg #[.int .i64 t0_0, .int .i64 t0_1, .int .i64 t0_2], .slice so1.p so1.n so1.c, .pointer fv2, .pointer fv3]) (by rw [E_slice_Ends_1]; exact hb)
def C_slice_Fair_1 : List (Nat × List Nat) := [(2, [1, 2, 3, 10, 11, 12]), (6, [1, 2, 3, 7, 10, 11, 12, 24, 25, 26])]
def D_slice_Fair_1 : List (Nat × List Nat) := []
def T_slice_Fair_1_2 (so1 : Sl) (t2 : Option Addr) (t3 : Option Addr) (t10 : Sl) (t11 : Int) (t12 : Int) : Env := mkEnv [(1, .slice so1.p so1.n so1.c), (2, .pointer t2), (3, .pointer t3), (10, .slice t10.p t10.n t10.c), (11, .int .i64 t11), (12, .int .i64 t12)] 37 0
def K_slice_Fair_1_2 (so1 : Sl) (t2 : Option Addr) (t3 : Option Addr) (t10 : Sl) (t11 : Int) (t12 : Int) : M Value := Cut Try.prog 66 (todoOf Try.f66 2) (T_slice_Fair_1_2 so1 t2 t3 t10 t11 t12)
def T_slice_Fair_1_6 (so1 : Sl) (t2 : Option Addr) (t3 : Option Addr) (n7 : Int) (t10 : Sl) (t11 : Int) (t12 : Int) (t24 : Sl) (t25 : Int) (t26 : Int) : Env := mkEnv [(1, .slice so1.p so1.n so1.c), (2, .pointer t2), (3, .pointer t3), (7, .int .i64 n7), (10, .slice t10.p t10.n t10.c), (11, .int .i64 t11), (12, .int .i64 t12), (24, .slice t24.p t24.n t24.c), (25, .int .i64 t25), (26, .int .i64 t26)] 37 0
def K_slice_Fair_1_6 (so1 : Sl) (t2 : Option Addr) (t3 : Option Addr) (n7 : Int) (t10 : Sl) (t11 : Int) (t12 : Int) (t24 : Sl) (t25 : Int) (t26 : Int) : M Value := Cut Try.prog 66 (todoOf Try.f66 6) (T_slice_Fair_1_6 so1 t2 t3 n7 t10 t11 t12 t24 t25 t26)
def B_slice_Fair_1 (t0_0 : Int) (t0_1 : Int) (t0_2 : Int) (so1 : Sl) (fv2 : Option Addr) (fv3 : Option Addr) : M Value :=
  mNew #[.int .i64 t0_0, .int .i64 t0_1, .int .i64 t0_2] 32 fun (_x4 : Addr) =>
  K_slice_Fair_1_2 so1 fv2 fv3 so1 (so1.n : Int) (0 : Int)
def B_slice_Fair_1_2 (so1 : Sl) (t2 : Option Addr) (t3 : Option Addr) (t10 : Sl) (t11 : Int) (t12 : Int) : M Value :=
  mIf (decide (t12 < t11)) (
    mIdx t10 t12 1 fun (x15 : Addr) =>
    mLdI .i64 x15 fun (x16 : Int) =>
    mNil t2 fun (a5 : Addr) =>
    mLdL a5 fun (x18 : Sl) =>
    mIdx x18 t12 1 fun (x20 : Addr) =>
    mLdI .i64 x20 fun (x21 : Int) =>
    mBind (N_slice_clamp x21) fun r22 =>
    unI .i64 r22 fun (x22 : Int) =>
    mIf (x16 == x22) (
      K_slice_Fair_1_2 so1 t2 t3 t10 t11 (IntKind.i64.wrap (t12 + (1 : Int)))) (
      K_slice_Fair_1_6 so1 t2 t3 x16 t10 t11 t12 so1 (so1.n : Int) (0 : Int))) (
    mRet (.tuple #[]))
def B_slice_Fair_1_6 (so1 : Sl) (t2 : Option Addr) (t3 : Option Addr) (n7 : Int) (t10 : Sl) (t11 : Int) (t12 : Int) (t24 : Sl) (t25 : Int) (t26 : Int) : M Value :=
  mIf (decide (t26 < t25)) (
    mIdx t24 t26 1 fun (x28 : Addr) =>
    mLdI .i64 x28 fun (x29 : Int) =>
    mNil t3 fun (a12 : Addr) =>
    mLdI .i64 a12 fun (x30 : Int) =>
    mNil t3 fun (a14 : Addr) =>
    mSt a14 (.int .i64 (if (IntKind.i64.wrap (x29 - n7)) > x30 then (IntKind.i64.wrap (x29 - n7)) else x30)) <|
    K_slice_Fair_1_6 so1 t2 t3 n7 t10 t11 t12 t24 t25 (IntKind.i64.wrap (t26 + (1 : Int)))) (
    K_slice_Fair_1_2 so1 t2 t3 t10 t11 (IntKind.i64.wrap (t12 + (1 : Int))))
theorem E_slice_Fair_1 (t0_0 : Int) (t0_1 : Int) (t0_2 : Int) (so1 : Sl) (fv2 : Option Addr) (fv3 : Option Addr) : ev Try.prog 66 Try.f66.results.toList C_slice_Fair_1 D_slice_Fair_1 400 false [.code (bodyOf Try.f66)] (List.map some [.agg #[.int .i64 t0_0, .int .i64 t0_1, .int .i64 t0_2], .slice so1.p so1.n so1.c, .pointer fv2, .pointer fv3] ++ List.replicate (Try.f66.ntmps - List.length ([.agg #[.int .i64 t0_0, .int .i64 t0_1, .int .i64 t0_2], .slice so1.p so1.n so1.c, .pointer fv2, .pointer fv3] : List Value)) none) = B_slice_Fair_1 t0_0 t0_1 t0_2 so1 fv2 fv3 := by kernel_rfl
theorem S_slice_Fair_1 (t0_0 : Int) (t0_1 : Int) (t0_2 : Int) (so1 : Sl) (fv2 : Option Addr) (fv3 : Option Addr) {h : Hp} {Q : Value → Hp → Prop} (hb : B_slice_Fair_1 t0_0 t0_1 t0_2 so1 fv2 fv3 h Q) : N_slice_Fair_1 t0_0 t0_1 t0_2 so1 fv2 fv3 h Q :=
  Nf.of_ev Try.call66 Try.func66 (c := bodyOf Try.f66) rfl mixed C_slice_Fair_1 D_slice_Fair_1 400 (args := [.agg #[.int .i64 t0_0, .int .i64 t0_1, .int .i64 t0_2], .slice so1.p so1.n so1.c, .pointer fv2, .pointer fv3]) (by rw [E_slice_Fair_1]; exact hb)
theorem E_slice_Fair_1_2 (so1 : Sl) (t2 : Option Addr) (t3 : Option Addr) (t10 : Sl) (t11 : Int) (t12 : Int) : ev Try.prog 66 Try.f66.results.toList C_slice_Fair_1 D_slice_Fair_1 400 true (todoOf Try.f66 2) (T_slice_Fair_1_2 so1 t2 t3 t10 t11 t12) = B_slice_Fair_1_2 so1 t2 t3 t10 t11 t12 := by kernel_rfl
theorem S_slice_Fair_1_2 (so1 : Sl) (t2 : Option Addr) (t3 : Option Addr) (t10 : Sl) (t11 : Int) (t12 : Int) {h : Hp} {Q : Value → Hp → Prop} (hb : B_slice_Fair_1_2 so1 t2 t3 t10 t11 t12 h Q) : K_slice_Fair_1_2 so1 t2 t3 t10 t11 t12 h Q :=
  Cut.of_ev Try.func66 mixed C_slice_Fair_1 D_slice_Fair_1 400 (by rw [E_slice_Fair_1_2]; exact hb)
theorem E_slice_Fair_1_6 (so1 : Sl) (t2 : Option Addr) (t3 : Option Addr) (n7 : Int) (t10 : Sl) (t11 : Int) (t12 : Int) (t24 : Sl) (t25 : Int) (t26 : Int) : ev Try.prog 66 Try.f66.results.toList C_slice_Fair_1 D_slice_Fair_1 400 true (todoOf Try.f66 6) (T_slice_Fair_1_6 so1 t2 t3 n7 t10 t11 t12 t24 t25 t26) = B_slice_Fair_1_6 so1 t2 t3 n7 t10 t11 t12 t24 t25 t26 := by kernel_rfl
theorem S_slice_Fair_1_6 (so1 : Sl) (t2 : Option Addr) (t3 : Option Addr) (n7 : Int) (t10 : Sl) (t11 : Int) (t12 : Int) (t24 : Sl) (t25 : Int) (t26 : Int) {h : Hp} {Q : Value → Hp → Prop} (hb : B_slice_Fair_1_6 so1 t2 t3 n7 t10 t11 t12 t24 t25 t26 h Q) : K_slice_Fair_1_6 so1 t2 t3 n7 t10 t11 t12 t24 t25 t26 h Q :=
  Cut.of_ev Try.func66 mixed C_slice_Fair_1 D_slice_Fair_1 400 (by rw [E_slice_Fair_1_6]; exact hb)
def C_signalboxlaw41_SliceRuns : List (Nat × List Nat) := [(10, [0, 1, 5, 7, 37, 38]), (21, [0, 1, 10, 11, 12, 77, 78, 79]), (25, [0, 1, 10, 11, 12, 14, 77, 78, 79]), (33, [11, 135, 136, 137]), (37, [11, 15, 16, 17, 135, 136, 137, 142, 143, 144])]
def D_signalboxlaw41_SliceRuns : List (Nat × List Nat) := []
def T_signalboxlaw41_SliceRuns_10 (l0 : Sl) (quantum1 : Int) (w5 : Sl) (s7 : Sl) (t37 : Int) (t38 : Int) : Env := mkEnv [(0, .slice l0.p l0.n l0.c), (1, .int .i64 quantum1), (5, .slice w5.p w5.n w5.c), (7, .slice s7.p s7.n s7.c), (37, .int .i64 t37), (38, .int .i64 t38)] 159 0
def K_signalboxlaw41_SliceRuns_10 (l0 : Sl) (quantum1 : Int) (w5 : Sl) (s7 : Sl) (t37 : Int) (t38 : Int) : M Value := Cut Try.prog 3 (todoOf Try.f3 10) (T_signalboxlaw41_SliceRuns_10 l0 quantum1 w5 s7 t37 t38)
def T_signalboxlaw41_SliceRuns_21 (l0 : Sl) (quantum1 : Int) (ends10 : Sl) (ticks11 : Sl) (now12 : Int) (t77 : Sl) (t78 : Int) (t79 : Int) : Env := mkEnv [(0, .slice l0.p l0.n l0.c), (1, .int .i64 quantum1), (10, .slice ends10.p ends10.n ends10.c), (11, .slice ticks11.p ticks11.n ticks11.c), (12, .int .i64 now12), (77, .slice t77.p t77.n t77.c), (78, .int .i64 t78), (79, .int .i64 t79)] 159 0
def K_signalboxlaw41_SliceRuns_21 (l0 : Sl) (quantum1 : Int) (ends10 : Sl) (ticks11 : Sl) (now12 : Int) (t77 : Sl) (t78 : Int) (t79 : Int) : M Value := Cut Try.prog 3 (todoOf Try.f3 21) (T_signalboxlaw41_SliceRuns_21 l0 quantum1 ends10 ticks11 now12 t77 t78 t79)
def T_signalboxlaw41_SliceRuns_25 (l0 : Sl) (quantum1 : Int) (ends10 : Sl) (ticks11 : Sl) (now12 : Int) (t14 : Addr) (t77 : Sl) (t78 : Int) (t79 : Int) : Env := mkEnv [(0, .slice l0.p l0.n l0.c), (1, .int .i64 quantum1), (10, .slice ends10.p ends10.n ends10.c), (11, .slice ticks11.p ticks11.n ticks11.c), (12, .int .i64 now12), (14, .pointer (some t14)), (77, .slice t77.p t77.n t77.c), (78, .int .i64 t78), (79, .int .i64 t79)] 159 0
def K_signalboxlaw41_SliceRuns_25 (l0 : Sl) (quantum1 : Int) (ends10 : Sl) (ticks11 : Sl) (now12 : Int) (t14 : Addr) (t77 : Sl) (t78 : Int) (t79 : Int) : M Value := Cut Try.prog 3 (todoOf Try.f3 25) (T_signalboxlaw41_SliceRuns_25 l0 quantum1 ends10 ticks11 now12 t14 t77 t78 t79)
def T_signalboxlaw41_SliceRuns_33 (ticks11 : Sl) (t135 : Sl) (t136 : Int) (t137 : Int) : Env := mkEnv [(11, .slice ticks11.p ticks11.n ticks11.c), (135, .slice t135.p t135.n t135.c), (136, .int .i64 t136), (137, .int .i64 t137)] 159 0
def K_signalboxlaw41_SliceRuns_33 (ticks11 : Sl) (t135 : Sl) (t136 : Int) (t137 : Int) : M Value := Cut Try.prog 3 (todoOf Try.f3 33) (T_signalboxlaw41_SliceRuns_33 ticks11 t135 t136 t137)
def T_signalboxlaw41_SliceRuns_37 (ticks11 : Sl) (i15 : Int) (e16 : Int) (last17 : Int) (t135 : Sl) (t136 : Int) (t137 : Int) (t142 : Sl) (t143 : Int) (t144 : Int) : Env := mkEnv [(11, .slice ticks11.p ticks11.n ticks11.c), (15, .int .i64 i15), (16, .int .i64 e16), (17, .int .i64 last17), (135, .slice t135.p t135.n t135.c), (136, .int .i64 t136), (137, .int .i64 t137), (142, .slice t142.p t142.n t142.c), (143, .int .i64 t143), (144, .int .i64 t144)] 159 0
def K_signalboxlaw41_SliceRuns_37 (ticks11 : Sl) (i15 : Int) (e16 : Int) (last17 : Int) (t135 : Sl) (t136 : Int) (t137 : Int) (t142 : Sl) (t143 : Int) (t144 : Int) : M Value := Cut Try.prog 3 (todoOf Try.f3 37) (T_signalboxlaw41_SliceRuns_37 ticks11 i15 e16 last17 t135 t136 t137 t142 t143 t144)
def B_signalboxlaw41_SliceRuns (l0 : Sl) (quantum1 : Int) : M Value :=
  mBind (N_signalboxlaw41_fixed) fun r20 =>
  unB r20 fun (x20 : Bool) =>
  mIf (!x20) (
    mRet (.bool false)) (
    mBind (N_signalboxlaw41_works l0) fun r24 =>
    un2 unL unB r24 fun (x24_0 : Sl) (x24_1 : Bool) =>
    mIf (!x24_1) (
      mRet (.bool true)) (
      mBind (N_slice_Shared l0) fun r30 =>
      unL r30 fun (x30 : Sl) =>
      mIf ((x30.n : Int) != (l0.n : Int)) (
        mRet (.bool false)) (
        K_signalboxlaw41_SliceRuns_10 l0 quantum1 x24_0 x30 (x30.n : Int) (0 : Int))))
def B_signalboxlaw41_SliceRuns_10 (l0 : Sl) (quantum1 : Int) (w5 : Sl) (s7 : Sl) (t37 : Int) (t38 : Int) : M Value :=
  mIf (decide (t38 < t37)) (
    mIdx s7 t38 1 fun (x43 : Addr) =>
    mLdI .i64 x43 fun (x44 : Int) =>
    mQ (N_signalboxref41_Shared w5 t38) fun r47 =>
    unI .i64 r47 fun (x47 : Int) =>
    mIf (x44 != x47) (
      mRet (.bool false)) (
      K_signalboxlaw41_SliceRuns_10 l0 quantum1 w5 s7 t37 (IntKind.i64.wrap (t38 + (1 : Int))))) (
    mBind (N_slice_Run l0 quantum1) fun r52 =>
    unL r52 fun (x52 : Sl) =>
    mBind (N_slice_Ends l0 quantum1) fun r55 =>
    unL r55 fun (x55 : Sl) =>
    mIf ((decide (quantum1 < (1 : Int))) || (decide (quantum1 > (1048576 : Int)))) (
      mBind (mIf ((IntKind.i64.wrap ((x52.n : Int) + (x55.n : Int))) == (0 : Int)) (mBind (N_slice_Fair l0 quantum1) fun r71 =>
        unI .i64 r71 fun (x71 : Int) =>
        mRet (x71 == (0 : Int))) (mRet false)) fun (b10 : Bool) =>
      mRet (.bool b10)) (
      mBind (N_signalboxref41_Ticks w5 quantum1) fun r76 =>
      unL r76 fun (x76 : Sl) =>
      K_signalboxlaw41_SliceRuns_21 l0 quantum1 x55 x76 (0 : Int) x52 (x52.n : Int) (0 : Int)))
def B_signalboxlaw41_SliceRuns_21 (l0 : Sl) (quantum1 : Int) (ends10 : Sl) (ticks11 : Sl) (now12 : Int) (t77 : Sl) (t78 : Int) (t79 : Int) : M Value :=
  mIf (decide (t79 < t78)) (
    mIdx t77 t79 3 fun (x81 : Addr) =>
    mLdI .i64 x81 fun (x82_0 : Int) =>
    mLdI .i64 (x81.add 1) fun (x82_1 : Int) =>
    mLdI .i64 (x81.add 2) fun (x82_2 : Int) =>
    mNew #[.int .i64 (0 : Int), .int .i64 (0 : Int), .int .i64 (0 : Int)] 32 fun (x14 : Addr) =>
    mSt x14 (.int .i64 x82_0) <|
    mSt (x14.add 1) (.int .i64 x82_1) <|
    mSt (x14.add 2) (.int .i64 x82_2) <|
    mLdI .i64 (x14.add 1) fun (x84 : Int) =>
    mBind (mIf (x84 != now12) (mRet true) (mLdI .i64 (x14.add 2) fun (x89 : Int) =>
      mLdI .i64 (x14.add 1) fun (x91 : Int) =>
      mRet (decide (x89 ≤ x91)))) fun (b22 : Bool) =>
    mBind (mIf b22 (mRet true) (mLdI .i64 (x14.add 2) fun (x96 : Int) =>
      mRet (decide (x96 > (ticks11.n : Int))))) fun (b25 : Bool) =>
    mBind (mIf b25 (mRet true) (mLdI .i64 (x14.add 2) fun (x103 : Int) =>
      mLdI .i64 (x14.add 1) fun (x105 : Int) =>
      mRet (decide ((IntKind.i64.wrap (x103 - x105)) > quantum1)))) fun (b30 : Bool) =>
    mIf b30 (
      mRet (.bool false)) (
      K_signalboxlaw41_SliceRuns_25 l0 quantum1 ends10 ticks11 now12 x14 t77 t78 t79)) (
    mIf ((now12 != (ticks11.n : Int)) || ((ends10.n : Int) != (l0.n : Int))) (
      mRet (.bool false)) (
      K_signalboxlaw41_SliceRuns_33 ticks11 ends10 (ends10.n : Int) (0 : Int)))
def B_signalboxlaw41_SliceRuns_25 (l0 : Sl) (quantum1 : Int) (ends10 : Sl) (ticks11 : Sl) (now12 : Int) (t14 : Addr) (t77 : Sl) (t78 : Int) (t79 : Int) : M Value :=
  mLdI .i64 (t14.add 2) fun (x112 : Int) =>
  mIf (decide (now12 < x112)) (
    mIdx ticks11 now12 1 fun (x118 : Addr) =>
    mLdI .i64 x118 fun (x119 : Int) =>
    mLdI .i64 t14 fun (x121 : Int) =>
    mIf (x119 != x121) (
      mRet (.bool false)) (
      K_signalboxlaw41_SliceRuns_25 l0 quantum1 ends10 ticks11 (IntKind.i64.wrap (now12 + (1 : Int))) t14 t77 t78 t79)) (
    K_signalboxlaw41_SliceRuns_21 l0 quantum1 ends10 ticks11 now12 t77 t78 (IntKind.i64.wrap (t79 + (1 : Int))))
def B_signalboxlaw41_SliceRuns_33 (ticks11 : Sl) (t135 : Sl) (t136 : Int) (t137 : Int) : M Value :=
  mIf (decide (t137 < t136)) (
    mIdx t135 t137 1 fun (x140 : Addr) =>
    mLdI .i64 x140 fun (x141 : Int) =>
    K_signalboxlaw41_SliceRuns_37 ticks11 t137 x141 (0 : Int) t135 t136 t137 ticks11 (ticks11.n : Int) (0 : Int)) (
    mRet (.bool true))
def B_signalboxlaw41_SliceRuns_37 (ticks11 : Sl) (i15 : Int) (e16 : Int) (last17 : Int) (t135 : Sl) (t136 : Int) (t137 : Int) (t142 : Sl) (t143 : Int) (t144 : Int) : M Value :=
  mIf (decide (t144 < t143)) (
    mIdx t142 t144 1 fun (x147 : Addr) =>
    mLdI .i64 x147 fun (x148 : Int) =>
    mIf (x148 == i15) (
      K_signalboxlaw41_SliceRuns_37 ticks11 i15 e16 (IntKind.i64.wrap (t144 + (1 : Int))) t135 t136 t137 t142 t143 (IntKind.i64.wrap (t144 + (1 : Int)))) (
      K_signalboxlaw41_SliceRuns_37 ticks11 i15 e16 last17 t135 t136 t137 t142 t143 (IntKind.i64.wrap (t144 + (1 : Int))))) (
    mIf (e16 != last17) (
      mRet (.bool false)) (
      K_signalboxlaw41_SliceRuns_33 ticks11 t135 t136 (IntKind.i64.wrap (t137 + (1 : Int)))))
theorem E_signalboxlaw41_SliceRuns (l0 : Sl) (quantum1 : Int) : ev Try.prog 3 Try.f3.results.toList C_signalboxlaw41_SliceRuns D_signalboxlaw41_SliceRuns 400 false [.code (bodyOf Try.f3)] (List.map some [.slice l0.p l0.n l0.c, .int .i64 quantum1] ++ List.replicate (Try.f3.ntmps - List.length ([.slice l0.p l0.n l0.c, .int .i64 quantum1] : List Value)) none) = B_signalboxlaw41_SliceRuns l0 quantum1 := by kernel_rfl
theorem S_signalboxlaw41_SliceRuns (l0 : Sl) (quantum1 : Int) {h : Hp} {Q : Value → Hp → Prop} (hb : B_signalboxlaw41_SliceRuns l0 quantum1 h Q) : N_signalboxlaw41_SliceRuns l0 quantum1 h Q :=
  Nf.of_ev Try.call3 Try.func3 (c := bodyOf Try.f3) rfl mixed C_signalboxlaw41_SliceRuns D_signalboxlaw41_SliceRuns 400 (args := [.slice l0.p l0.n l0.c, .int .i64 quantum1]) (by rw [E_signalboxlaw41_SliceRuns]; exact hb)
theorem E_signalboxlaw41_SliceRuns_10 (l0 : Sl) (quantum1 : Int) (w5 : Sl) (s7 : Sl) (t37 : Int) (t38 : Int) : ev Try.prog 3 Try.f3.results.toList C_signalboxlaw41_SliceRuns D_signalboxlaw41_SliceRuns 400 true (todoOf Try.f3 10) (T_signalboxlaw41_SliceRuns_10 l0 quantum1 w5 s7 t37 t38) = B_signalboxlaw41_SliceRuns_10 l0 quantum1 w5 s7 t37 t38 := by kernel_rfl
theorem S_signalboxlaw41_SliceRuns_10 (l0 : Sl) (quantum1 : Int) (w5 : Sl) (s7 : Sl) (t37 : Int) (t38 : Int) {h : Hp} {Q : Value → Hp → Prop} (hb : B_signalboxlaw41_SliceRuns_10 l0 quantum1 w5 s7 t37 t38 h Q) : K_signalboxlaw41_SliceRuns_10 l0 quantum1 w5 s7 t37 t38 h Q :=
  Cut.of_ev Try.func3 mixed C_signalboxlaw41_SliceRuns D_signalboxlaw41_SliceRuns 400 (by rw [E_signalboxlaw41_SliceRuns_10]; exact hb)
theorem E_signalboxlaw41_SliceRuns_21 (l0 : Sl) (quantum1 : Int) (ends10 : Sl) (ticks11 : Sl) (now12 : Int) (t77 : Sl) (t78 : Int) (t79 : Int) : ev Try.prog 3 Try.f3.results.toList C_signalboxlaw41_SliceRuns D_signalboxlaw41_SliceRuns 400 true (todoOf Try.f3 21) (T_signalboxlaw41_SliceRuns_21 l0 quantum1 ends10 ticks11 now12 t77 t78 t79) = B_signalboxlaw41_SliceRuns_21 l0 quantum1 ends10 ticks11 now12 t77 t78 t79 := by kernel_rfl
theorem S_signalboxlaw41_SliceRuns_21 (l0 : Sl) (quantum1 : Int) (ends10 : Sl) (ticks11 : Sl) (now12 : Int) (t77 : Sl) (t78 : Int) (t79 : Int) {h : Hp} {Q : Value → Hp → Prop} (hb : B_signalboxlaw41_SliceRuns_21 l0 quantum1 ends10 ticks11 now12 t77 t78 t79 h Q) : K_signalboxlaw41_SliceRuns_21 l0 quantum1 ends10 ticks11 now12 t77 t78 t79 h Q :=
  Cut.of_ev Try.func3 mixed C_signalboxlaw41_SliceRuns D_signalboxlaw41_SliceRuns 400 (by rw [E_signalboxlaw41_SliceRuns_21]; exact hb)
theorem E_signalboxlaw41_SliceRuns_25 (l0 : Sl) (quantum1 : Int) (ends10 : Sl) (ticks11 : Sl) (now12 : Int) (t14 : Addr) (t77 : Sl) (t78 : Int) (t79 : Int) : ev Try.prog 3 Try.f3.results.toList C_signalboxlaw41_SliceRuns D_signalboxlaw41_SliceRuns 400 true (todoOf Try.f3 25) (T_signalboxlaw41_SliceRuns_25 l0 quantum1 ends10 ticks11 now12 t14 t77 t78 t79) = B_signalboxlaw41_SliceRuns_25 l0 quantum1 ends10 ticks11 now12 t14 t77 t78 t79 := by kernel_rfl
theorem S_signalboxlaw41_SliceRuns_25 (l0 : Sl) (quantum1 : Int) (ends10 : Sl) (ticks11 : Sl) (now12 : Int) (t14 : Addr) (t77 : Sl) (t78 : Int) (t79 : Int) {h : Hp} {Q : Value → Hp → Prop} (hb : B_signalboxlaw41_SliceRuns_25 l0 quantum1 ends10 ticks11 now12 t14 t77 t78 t79 h Q) : K_signalboxlaw41_SliceRuns_25 l0 quantum1 ends10 ticks11 now12 t14 t77 t78 t79 h Q :=
  Cut.of_ev Try.func3 mixed C_signalboxlaw41_SliceRuns D_signalboxlaw41_SliceRuns 400 (by rw [E_signalboxlaw41_SliceRuns_25]; exact hb)
theorem E_signalboxlaw41_SliceRuns_33 (ticks11 : Sl) (t135 : Sl) (t136 : Int) (t137 : Int) : ev Try.prog 3 Try.f3.results.toList C_signalboxlaw41_SliceRuns D_signalboxlaw41_SliceRuns 400 true (todoOf Try.f3 33) (T_signalboxlaw41_SliceRuns_33 ticks11 t135 t136 t137) = B_signalboxlaw41_SliceRuns_33 ticks11 t135 t136 t137 := by kernel_rfl
theorem S_signalboxlaw41_SliceRuns_33 (ticks11 : Sl) (t135 : Sl) (t136 : Int) (t137 : Int) {h : Hp} {Q : Value → Hp → Prop} (hb : B_signalboxlaw41_SliceRuns_33 ticks11 t135 t136 t137 h Q) : K_signalboxlaw41_SliceRuns_33 ticks11 t135 t136 t137 h Q :=
  Cut.of_ev Try.func3 mixed C_signalboxlaw41_SliceRuns D_signalboxlaw41_SliceRuns 400 (by rw [E_signalboxlaw41_SliceRuns_33]; exact hb)
theorem E_signalboxlaw41_SliceRuns_37 (ticks11 : Sl) (i15 : Int) (e16 : Int) (last17 : Int) (t135 : Sl) (t136 : Int) (t137 : Int) (t142 : Sl) (t143 : Int) (t144 : Int) : ev Try.prog 3 Try.f3.results.toList C_signalboxlaw41_SliceRuns D_signalboxlaw41_SliceRuns 400 true (todoOf Try.f3 37) (T_signalboxlaw41_SliceRuns_37 ticks11 i15 e16 last17 t135 t136 t137 t142 t143 t144) = B_signalboxlaw41_SliceRuns_37 ticks11 i15 e16 last17 t135 t136 t137 t142 t143 t144 := by kernel_rfl
theorem S_signalboxlaw41_SliceRuns_37 (ticks11 : Sl) (i15 : Int) (e16 : Int) (last17 : Int) (t135 : Sl) (t136 : Int) (t137 : Int) (t142 : Sl) (t143 : Int) (t144 : Int) {h : Hp} {Q : Value → Hp → Prop} (hb : B_signalboxlaw41_SliceRuns_37 ticks11 i15 e16 last17 t135 t136 t137 t142 t143 t144 h Q) : K_signalboxlaw41_SliceRuns_37 ticks11 i15 e16 last17 t135 t136 t137 t142 t143 t144 h Q :=
  Cut.of_ev Try.func3 mixed C_signalboxlaw41_SliceRuns D_signalboxlaw41_SliceRuns 400 (by rw [E_signalboxlaw41_SliceRuns_37]; exact hb)
def C_signalboxlaw41_SliceFair : List (Nat × List Nat) := [(9, [0, 1, 5, 7, 8, 35, 36, 37]), (13, [0, 1, 5, 7, 8, 35, 36, 37, 54, 55]), (16, [0, 1, 5, 7, 8, 11, 35, 36, 37, 54, 55, 59, 60])]
def D_signalboxlaw41_SliceFair : List (Nat × List Nat) := [(11, [0, 1, 2, 3, 4, 5, 6, 7, 8, 9, 10, 11])]
def T_signalboxlaw41_SliceFair_9 (l0 : Sl) (quantum1 : Int) (w5 : Sl) (so7 : Sl) (worst8 : Int) (t35 : Sl) (t36 : Int) (t37 : Int) : Env := mkEnv [(0, .slice l0.p l0.n l0.c), (1, .int .i64 quantum1), (5, .slice w5.p w5.n w5.c), (7, .slice so7.p so7.n so7.c), (8, .int .i64 worst8), (35, .slice t35.p t35.n t35.c), (36, .int .i64 t36), (37, .int .i64 t37)] 96 0
def K_signalboxlaw41_SliceFair_9 (l0 : Sl) (quantum1 : Int) (w5 : Sl) (so7 : Sl) (worst8 : Int) (t35 : Sl) (t36 : Int) (t37 : Int) : M Value := Cut Try.prog 4 (todoOf Try.f4 9) (T_signalboxlaw41_SliceFair_9 l0 quantum1 w5 so7 worst8 t35 t36 t37)
def T_signalboxlaw41_SliceFair_13 (l0 : Sl) (quantum1 : Int) (w5 : Sl) (so7 : Sl) (worst8 : Int) (t35 : Sl) (t36 : Int) (t37 : Int) (t54 : Int) (t55 : Int) : Env := mkEnv [(0, .slice l0.p l0.n l0.c), (1, .int .i64 quantum1), (5, .slice w5.p w5.n w5.c), (7, .slice so7.p so7.n so7.c), (8, .int .i64 worst8), (35, .slice t35.p t35.n t35.c), (36, .int .i64 t36), (37, .int .i64 t37), (54, .int .i64 t54), (55, .int .i64 t55)] 96 0
def K_signalboxlaw41_SliceFair_13 (l0 : Sl) (quantum1 : Int) (w5 : Sl) (so7 : Sl) (worst8 : Int) (t35 : Sl) (t36 : Int) (t37 : Int) (t54 : Int) (t55 : Int) : M Value := Cut Try.prog 4 (todoOf Try.f4 13) (T_signalboxlaw41_SliceFair_13 l0 quantum1 w5 so7 worst8 t35 t36 t37 t54 t55)
def T_signalboxlaw41_SliceFair_16 (l0 : Sl) (quantum1 : Int) (w5 : Sl) (so7 : Sl) (worst8 : Int) (i11 : Int) (t35 : Sl) (t36 : Int) (t37 : Int) (t54 : Int) (t55 : Int) (t59 : Int) (t60 : Int) : Env := mkEnv [(0, .slice l0.p l0.n l0.c), (1, .int .i64 quantum1), (5, .slice w5.p w5.n w5.c), (7, .slice so7.p so7.n so7.c), (8, .int .i64 worst8), (11, .int .i64 i11), (35, .slice t35.p t35.n t35.c), (36, .int .i64 t36), (37, .int .i64 t37), (54, .int .i64 t54), (55, .int .i64 t55), (59, .int .i64 t59), (60, .int .i64 t60)] 96 0
def K_signalboxlaw41_SliceFair_16 (l0 : Sl) (quantum1 : Int) (w5 : Sl) (so7 : Sl) (worst8 : Int) (i11 : Int) (t35 : Sl) (t36 : Int) (t37 : Int) (t54 : Int) (t55 : Int) (t59 : Int) (t60 : Int) : M Value := Cut Try.prog 4 (todoOf Try.f4 16) (T_signalboxlaw41_SliceFair_16 l0 quantum1 w5 so7 worst8 i11 t35 t36 t37 t54 t55 t59 t60)
def B_signalboxlaw41_SliceFair (l0 : Sl) (quantum1 : Int) : M Value :=
  mBind (N_signalboxlaw41_fixed) fun r13 =>
  unB r13 fun (x13 : Bool) =>
  mIf (!x13) (
    mRet (.bool false)) (
    mBind (N_signalboxlaw41_works l0) fun r17 =>
    un2 unL unB r17 fun (x17_0 : Sl) (x17_1 : Bool) =>
    mIf (((!x17_1) || (decide (quantum1 < (1 : Int)))) || (decide (quantum1 > (1048576 : Int)))) (
      mRet (.bool true)) (
      mMake 3 8 #[.int .i64 (0 : Int)] (l0.n : Int) (l0.n : Int) fun (x32 : Sl) =>
      mBind (N_slice_Run l0 quantum1) fun r35 =>
      unL r35 fun (x35 : Sl) =>
      K_signalboxlaw41_SliceFair_9 l0 quantum1 x17_0 x32 (0 : Int) x35 (x35.n : Int) (0 : Int)))
def B_signalboxlaw41_SliceFair_9 (l0 : Sl) (quantum1 : Int) (w5 : Sl) (so7 : Sl) (worst8 : Int) (t35 : Sl) (t36 : Int) (t37 : Int) : M Value :=
  mIf (decide (t37 < t36)) (
    mIdx t35 t37 3 fun (x39 : Addr) =>
    mLdI .i64 x39 fun (x40_0 : Int) =>
    mLdI .i64 (x39.add 1) fun (x40_1 : Int) =>
    mLdI .i64 (x39.add 2) fun (x40_2 : Int) =>
    mNew #[.int .i64 (0 : Int), .int .i64 (0 : Int), .int .i64 (0 : Int)] 32 fun (x10 : Addr) =>
    mSt x10 (.int .i64 x40_0) <|
    mSt (x10.add 1) (.int .i64 x40_1) <|
    mSt (x10.add 2) (.int .i64 x40_2) <|
    mLdI .i64 x10 fun (x43 : Int) =>
    mIdx so7 x43 1 fun (x44 : Addr) =>
    mLdI .i64 x44 fun (x45 : Int) =>
    mLdI .i64 (x10.add 2) fun (x47 : Int) =>
    mLdI .i64 (x10.add 1) fun (x49 : Int) =>
    mIdx so7 x43 1 fun (x52 : Addr) =>
    mSt x52 (.int .i64 (IntKind.i64.wrap (x45 + (IntKind.i64.wrap (x47 - x49))))) <|
    K_signalboxlaw41_SliceFair_13 l0 quantum1 w5 so7 worst8 t35 t36 t37 (so7.n : Int) (0 : Int)) (
    mBind (N_slice_Fair l0 quantum1) fun r88 =>
    unI .i64 r88 fun (x88 : Int) =>
    mRet (.bool ((x88 == worst8) && (decide (worst8 ≤ quantum1)))))
def B_signalboxlaw41_SliceFair_13 (l0 : Sl) (quantum1 : Int) (w5 : Sl) (so7 : Sl) (worst8 : Int) (t35 : Sl) (t36 : Int) (t37 : Int) (t54 : Int) (t55 : Int) : M Value :=
  mIf (decide (t55 < t54)) (
    K_signalboxlaw41_SliceFair_16 l0 quantum1 w5 so7 worst8 t55 t35 t36 t37 t54 t55 (so7.n : Int) (0 : Int)) (
    K_signalboxlaw41_SliceFair_9 l0 quantum1 w5 so7 worst8 t35 t36 (IntKind.i64.wrap (t37 + (1 : Int))))
def B_signalboxlaw41_SliceFair_16 (l0 : Sl) (quantum1 : Int) (w5 : Sl) (so7 : Sl) (worst8 : Int) (i11 : Int) (t35 : Sl) (t36 : Int) (t37 : Int) (t54 : Int) (t55 : Int) (t59 : Int) (t60 : Int) : M Value :=
  mIf (decide (t60 < t59)) (
    mIdx so7 i11 1 fun (x65 : Addr) =>
    mLdI .i64 x65 fun (x66 : Int) =>
    mIdx w5 i11 1 fun (x69 : Addr) =>
    mLdI .i64 x69 fun (x70 : Int) =>
    mIf (decide (x66 < x70)) (
      mIdx so7 t60 1 fun (x75 : Addr) =>
      mLdI .i64 x75 fun (x76 : Int) =>
      mIdx so7 i11 1 fun (x79 : Addr) =>
      mLdI .i64 x79 fun (x80 : Int) =>
      K_signalboxlaw41_SliceFair_16 l0 quantum1 w5 so7 (if (IntKind.i64.wrap (x76 - x80)) > worst8 then (IntKind.i64.wrap (x76 - x80)) else worst8) i11 t35 t36 t37 t54 t55 t59 (IntKind.i64.wrap (t60 + (1 : Int)))) (
      K_signalboxlaw41_SliceFair_16 l0 quantum1 w5 so7 worst8 i11 t35 t36 t37 t54 t55 t59 (IntKind.i64.wrap (t60 + (1 : Int))))) (
    K_signalboxlaw41_SliceFair_13 l0 quantum1 w5 so7 worst8 t35 t36 t37 t54 (IntKind.i64.wrap (t55 + (1 : Int))))
theorem E_signalboxlaw41_SliceFair (l0 : Sl) (quantum1 : Int) : ev Try.prog 4 Try.f4.results.toList C_signalboxlaw41_SliceFair D_signalboxlaw41_SliceFair 400 false [.code (bodyOf Try.f4)] (List.map some [.slice l0.p l0.n l0.c, .int .i64 quantum1] ++ List.replicate (Try.f4.ntmps - List.length ([.slice l0.p l0.n l0.c, .int .i64 quantum1] : List Value)) none) = B_signalboxlaw41_SliceFair l0 quantum1 := by kernel_rfl
theorem S_signalboxlaw41_SliceFair (l0 : Sl) (quantum1 : Int) {h : Hp} {Q : Value → Hp → Prop} (hb : B_signalboxlaw41_SliceFair l0 quantum1 h Q) : N_signalboxlaw41_SliceFair l0 quantum1 h Q :=
  Nf.of_ev Try.call4 Try.func4 (c := bodyOf Try.f4) rfl mixed C_signalboxlaw41_SliceFair D_signalboxlaw41_SliceFair 400 (args := [.slice l0.p l0.n l0.c, .int .i64 quantum1]) (by rw [E_signalboxlaw41_SliceFair]; exact hb)
theorem E_signalboxlaw41_SliceFair_9 (l0 : Sl) (quantum1 : Int) (w5 : Sl) (so7 : Sl) (worst8 : Int) (t35 : Sl) (t36 : Int) (t37 : Int) : ev Try.prog 4 Try.f4.results.toList C_signalboxlaw41_SliceFair D_signalboxlaw41_SliceFair 400 true (todoOf Try.f4 9) (T_signalboxlaw41_SliceFair_9 l0 quantum1 w5 so7 worst8 t35 t36 t37) = B_signalboxlaw41_SliceFair_9 l0 quantum1 w5 so7 worst8 t35 t36 t37 := by kernel_rfl
theorem S_signalboxlaw41_SliceFair_9 (l0 : Sl) (quantum1 : Int) (w5 : Sl) (so7 : Sl) (worst8 : Int) (t35 : Sl) (t36 : Int) (t37 : Int) {h : Hp} {Q : Value → Hp → Prop} (hb : B_signalboxlaw41_SliceFair_9 l0 quantum1 w5 so7 worst8 t35 t36 t37 h Q) : K_signalboxlaw41_SliceFair_9 l0 quantum1 w5 so7 worst8 t35 t36 t37 h Q :=
  Cut.of_ev Try.func4 mixed C_signalboxlaw41_SliceFair D_signalboxlaw41_SliceFair 400 (by rw [E_signalboxlaw41_SliceFair_9]; exact hb)
theorem E_signalboxlaw41_SliceFair_13 (l0 : Sl) (quantum1 : Int) (w5 : Sl) (so7 : Sl) (worst8 : Int) (t35 : Sl) (t36 : Int) (t37 : Int) (t54 : Int) (t55 : Int) : ev Try.prog 4 Try.f4.results.toList C_signalboxlaw41_SliceFair D_signalboxlaw41_SliceFair 400 true (todoOf Try.f4 13) (T_signalboxlaw41_SliceFair_13 l0 quantum1 w5 so7 worst8 t35 t36 t37 t54 t55) = B_signalboxlaw41_SliceFair_13 l0 quantum1 w5 so7 worst8 t35 t36 t37 t54 t55 := by kernel_rfl
theorem S_signalboxlaw41_SliceFair_13 (l0 : Sl) (quantum1 : Int) (w5 : Sl) (so7 : Sl) (worst8 : Int) (t35 : Sl) (t36 : Int) (t37 : Int) (t54 : Int) (t55 : Int) {h : Hp} {Q : Value → Hp → Prop} (hb : B_signalboxlaw41_SliceFair_13 l0 quantum1 w5 so7 worst8 t35 t36 t37 t54 t55 h Q) : K_signalboxlaw41_SliceFair_13 l0 quantum1 w5 so7 worst8 t35 t36 t37 t54 t55 h Q :=
  Cut.of_ev Try.func4 mixed C_signalboxlaw41_SliceFair D_signalboxlaw41_SliceFair 400 (by rw [E_signalboxlaw41_SliceFair_13]; exact hb)
theorem E_signalboxlaw41_SliceFair_16 (l0 : Sl) (quantum1 : Int) (w5 : Sl) (so7 : Sl) (worst8 : Int) (i11 : Int) (t35 : Sl) (t36 : Int) (t37 : Int) (t54 : Int) (t55 : Int) (t59 : Int) (t60 : Int) : ev Try.prog 4 Try.f4.results.toList C_signalboxlaw41_SliceFair D_signalboxlaw41_SliceFair 400 true (todoOf Try.f4 16) (T_signalboxlaw41_SliceFair_16 l0 quantum1 w5 so7 worst8 i11 t35 t36 t37 t54 t55 t59 t60) = B_signalboxlaw41_SliceFair_16 l0 quantum1 w5 so7 worst8 i11 t35 t36 t37 t54 t55 t59 t60 := by kernel_rfl
theorem S_signalboxlaw41_SliceFair_16 (l0 : Sl) (quantum1 : Int) (w5 : Sl) (so7 : Sl) (worst8 : Int) (i11 : Int) (t35 : Sl) (t36 : Int) (t37 : Int) (t54 : Int) (t55 : Int) (t59 : Int) (t60 : Int) {h : Hp} {Q : Value → Hp → Prop} (hb : B_signalboxlaw41_SliceFair_16 l0 quantum1 w5 so7 worst8 i11 t35 t36 t37 t54 t55 t59 t60 h Q) : K_signalboxlaw41_SliceFair_16 l0 quantum1 w5 so7 worst8 i11 t35 t36 t37 t54 t55 t59 t60 h Q :=
  Cut.of_ev Try.func4 mixed C_signalboxlaw41_SliceFair D_signalboxlaw41_SliceFair 400 (by rw [E_signalboxlaw41_SliceFair_16]; exact hb)
end Go.Proofs.Ytinjifhjjkdmoaa
