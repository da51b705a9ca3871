/- What the functions of this layer come to, as forms of the small logic; written by program. Conditions: none. -/
import Derived.Test.YtbpnpmknamghkaaSbU
import Derived.Test.YtbpnpmknamghkaaChecked
import Derived.KernelRfl
set_option maxRecDepth 100000
namespace Go.Proofs.Ytbpnpmknamghkaa
open Go Go.Sb
theorem mixed : Try.prog.follows .mixedOrders = true := by kernel_rfl
def N_signalboxlaw32_fixed : M Value := Nf Try.prog 15 #[]
def N_signalboxref32_Lcm (a0 : Int) (b1 : Int) : M Value := Nf Try.prog 16 #[.int .u64 a0, .int .u64 b1]
def N_hyper_Gcd (a0 : Int) (b1 : Int) : M Value := Nf Try.prog 17 #[.int .u64 a0, .int .u64 b1]
def N_signalboxref32_Gcd (a0 : Int) (b1 : Int) : M Value := Nf Try.prog 18 #[.int .u64 a0, .int .u64 b1]
def N_hyper_Lcm (a0 : Int) (b1 : Int) : M Value := Nf Try.prog 19 #[.int .u64 a0, .int .u64 b1]
def N_hyper_All (l0 : Sl) : M Value := Nf Try.prog 20 #[.slice l0.p l0.n l0.c]
def N_signalboxref32_Add (a0 : Int) (b1 : Int) (c2 : Int) (d3 : Int) : M Value := Nf Try.prog 21 #[.int .u64 a0, .int .u64 b1, .int .u64 c2, .int .u64 d3]
def N_signalboxref32_Simple (a0 : Int) (b1 : Int) : M Value := Nf Try.prog 22 #[.int .u64 a0, .int .u64 b1]
def N_hyper_Less (a0_0 : Int) (a0_1 : Int) (b1_0 : Int) (b1_1 : Int) : M Value := Nf Try.prog 23 #[.agg #[.int .u64 a0_0, .int .u64 a0_1], .agg #[.int .u64 b1_0, .int .u64 b1_1]]
def N_signalboxref32_Less (a0 : Int) (b1 : Int) (c2 : Int) (d3 : Int) : M Value := Nf Try.prog 24 #[.int .u64 a0, .int .u64 b1, .int .u64 c2, .int .u64 d3]
def N_hyper_Add (a0_0 : Int) (a0_1 : Int) (b1_0 : Int) (b1_1 : Int) : M Value := Nf Try.prog 25 #[.agg #[.int .u64 a0_0, .int .u64 a0_1], .agg #[.int .u64 b1_0, .int .u64 b1_1]]
def N_hyper_Simple (s0_0 : Int) (s0_1 : Int) : M Value := Nf Try.prog 26 #[.agg #[.int .u64 s0_0, .int .u64 s0_1]]
def N_signalboxref32_Times (a0 : Int) (b1 : Int) : M Value := Nf Try.prog 59 #[.int .u64 a0, .int .u64 b1]
def N_sat_Mul (a0 : Int) (b1 : Int) : M Value := Nf Try.prog 60 #[.int .u64 a0, .int .u64 b1]
def N_hyper_lcm (a0 : Int) (b1 : Int) : M Value := Nf Try.prog 61 #[.int .u64 a0, .int .u64 b1]
def N_math_bits_Mul64 (x0 : Int) (y1 : Int) : M Value := Nf Try.prog 62 #[.int .u64 x0, .int .u64 y1]
def N_sat_Add (a0 : Int) (b1 : Int) : M Value := Nf Try.prog 63 #[.int .u64 a0, .int .u64 b1]
def N_hyper_much : M Value := Nf Try.prog 64 #[]
def N_sat_Ceil (a0 : Int) (b1 : Int) : M Value := Nf Try.prog 69 #[.int .u64 a0, .int .u64 b1]
def N_math_bits_Add64 (x0 : Int) (x1 : Int) (x2 : Int) : M Value := Nf Try.prog 79 #[.int .u64 x0, .int .u64 x1, .int .u64 x2]
def N_signalboxlaw32_HyperTells (a0 : Int) (b1 : Int) (l2 : Sl) : M Value := Nf Try.prog 3 #[.int .u64 a0, .int .u64 b1, .slice l2.p l2.n l2.c]
def N_signalboxlaw32_HyperDivides (a0 : Int) (b1 : Int) : M Value := Nf Try.prog 5 #[.int .u32 a0, .int .u32 b1]
def C_signalboxlaw32_fixed : List (Nat × List Nat) := []
def D_signalboxlaw32_fixed : List (Nat × List Nat) := []
def B_signalboxlaw32_fixed : M Value :=
  mBind (N_hyper_Add (1 : Int) (2 : Int) (1 : Int) (6 : Int)) fun r4 =>
  unA r4 fun x4l =>
  unC x4l fun x4v0 x4l0 =>
  unI .u64 x4v0 fun (x4_0 : Int) =>
  unC x4l0 fun x4v1 x4l1 =>
  unI .u64 x4v1 fun (x4_1 : Int) =>
  unE x4l1 <|
  mNew #[.int .u64 (0 : Int), .int .u64 (0 : Int)] 29 fun (x1 : Addr) =>
  mSt x1 (.int .u64 x4_0) <|
  mSt (x1.add 1) (.int .u64 x4_1) <|
  mBind (N_hyper_Lcm (4 : Int) (6 : Int)) fun r5 =>
  unI .u64 r5 fun (x5 : Int) =>
  mBind (mIf (x5 == (12 : Int)) (mBind (N_hyper_Gcd (0 : Int) (5 : Int)) fun r8 =>
    unI .u64 r8 fun (x8 : Int) =>
    mRet (x8 == (5 : Int))) (mRet false)) fun (b6 : Bool) =>
  mBind (mIf b6 (mNew #[.int .u64 (2 : Int), .int .u64 (3 : Int), .int .u64 (4 : Int)] 22 fun (x12 : Addr) =>
    mBind (N_hyper_All (Sl.mk (some x12) 3 3)) fun r13 =>
    unI .u64 r13 fun (x13 : Int) =>
    mRet (x13 == (12 : Int))) (mRet false)) fun (b9 : Bool) =>
  mBind (mIf b9 (mLdI .u64 x1 fun (x17_0 : Int) =>
    mLdI .u64 (x1.add 1) fun (x17_1 : Int) =>
    mRet ((x17_0 == (2 : Int)) && ((x17_1 == (3 : Int)) && true))) (mRet false)) fun (b11 : Bool) =>
  mBind (mIf b11 (mBind (N_hyper_Less (1 : Int) (3 : Int) (1 : Int) (2 : Int)) fun r24 =>
    unB r24 fun (x24 : Bool) =>
    mRet x24) (mRet false)) fun (b13 : Bool) =>
  mBind (mIf b13 (mBind (N_hyper_Less (0 : Int) (0 : Int) (1 : Int) (2 : Int)) fun r29 =>
    unB r29 fun (x29 : Bool) =>
    mRet (!x29)) (mRet false)) fun (b15 : Bool) =>
  mRet (.bool b15)
theorem E_signalboxlaw32_fixed : ev Try.prog 15 Try.f15.results.toList C_signalboxlaw32_fixed D_signalboxlaw32_fixed 400 false [.code (bodyOf Try.f15)] (List.map some [] ++ List.replicate (Try.f15.ntmps - List.length ([] : List Value)) none) = B_signalboxlaw32_fixed := by kernel_rfl
theorem S_signalboxlaw32_fixed {h : Hp} {Q : Value → Hp → Prop} (hb : B_signalboxlaw32_fixed h Q) : N_signalboxlaw32_fixed h Q :=
  Nf.of_ev Try.call15 Try.func15 (c := bodyOf Try.f15) rfl mixed C_signalboxlaw32_fixed D_signalboxlaw32_fixed 400 (args := []) (by rw [E_signalboxlaw32_fixed]; exact hb)
def C_signalboxref32_Lcm : List (Nat × List Nat) := []
def D_signalboxref32_Lcm : List (Nat × List Nat) := []
def B_signalboxref32_Lcm (a0 : Int) (b1 : Int) : M Value :=
  mIf ((a0 == (0 : Int)) || (b1 == (0 : Int))) (
    mRet (.int .u64 (0 : Int))) (
    mBind (N_signalboxref32_Gcd a0 b1) fun r17 =>
    unI .u64 r17 fun (x17 : Int) =>
    mGuard (x17 ≠ 0) <|
    mBind (N_signalboxref32_Times (IntKind.u64.wrap (Int.tdiv a0 x17)) b1) fun r20 =>
    un2 (unI .u64) unB r20 fun (x20_0 : Int) (x20_1 : Bool) =>
    mIf (!x20_1) (
      mRet (.int .u64 (18446744073709551615 : Int))) (
      mRet (.int .u64 x20_0)))
theorem E_signalboxref32_Lcm (a0 : Int) (b1 : Int) : ev Try.prog 16 Try.f16.results.toList C_signalboxref32_Lcm D_signalboxref32_Lcm 400 false [.code (bodyOf Try.f16)] (List.map some [.int .u64 a0, .int .u64 b1] ++ List.replicate (Try.f16.ntmps - List.length ([.int .u64 a0, .int .u64 b1] : List Value)) none) = B_signalboxref32_Lcm a0 b1 := by kernel_rfl
theorem S_signalboxref32_Lcm (a0 : Int) (b1 : Int) {h : Hp} {Q : Value → Hp → Prop} (hb : B_signalboxref32_Lcm a0 b1 h Q) : N_signalboxref32_Lcm a0 b1 h Q :=
  Nf.of_ev Try.call16 Try.func16 (c := bodyOf Try.f16) rfl mixed C_signalboxref32_Lcm D_signalboxref32_Lcm 400 (args := [.int .u64 a0, .int .u64 b1]) (by rw [E_signalboxref32_Lcm]; exact hb)
def C_hyper_Gcd : List (Nat × List Nat) := [(1, [0, 1])]
def D_hyper_Gcd : List (Nat × List Nat) := []
def T_hyper_Gcd_1 (a0 : Int) (b1 : Int) : Env := mkEnv [(0, .int .u64 a0), (1, .int .u64 b1)] 12 0
def K_hyper_Gcd_1 (a0 : Int) (b1 : Int) : M Value := Cut Try.prog 17 (todoOf Try.f17 1) (T_hyper_Gcd_1 a0 b1)
def B_hyper_Gcd (a0 : Int) (b1 : Int) : M Value :=
  K_hyper_Gcd_1 a0 b1
def B_hyper_Gcd_1 (a0 : Int) (b1 : Int) : M Value :=
  mIf (b1 != (0 : Int)) (
    mGuard (b1 ≠ 0) <|
    K_hyper_Gcd_1 b1 (Int.tmod a0 b1)) (
    mRet (.int .u64 a0))
theorem E_hyper_Gcd (a0 : Int) (b1 : Int) : ev Try.prog 17 Try.f17.results.toList C_hyper_Gcd D_hyper_Gcd 400 false [.code (bodyOf Try.f17)] (List.map some [.int .u64 a0, .int .u64 b1] ++ List.replicate (Try.f17.ntmps - List.length ([.int .u64 a0, .int .u64 b1] : List Value)) none) = B_hyper_Gcd a0 b1 := by kernel_rfl
theorem S_hyper_Gcd (a0 : Int) (b1 : Int) {h : Hp} {Q : Value → Hp → Prop} (hb : B_hyper_Gcd a0 b1 h Q) : N_hyper_Gcd a0 b1 h Q :=
  Nf.of_ev Try.call17 Try.func17 (c := bodyOf Try.f17) rfl mixed C_hyper_Gcd D_hyper_Gcd 400 (args := [.int .u64 a0, .int .u64 b1]) (by rw [E_hyper_Gcd]; exact hb)
theorem E_hyper_Gcd_1 (a0 : Int) (b1 : Int) : ev Try.prog 17 Try.f17.results.toList C_hyper_Gcd D_hyper_Gcd 400 true (todoOf Try.f17 1) (T_hyper_Gcd_1 a0 b1) = B_hyper_Gcd_1 a0 b1 := by kernel_rfl
theorem S_hyper_Gcd_1 (a0 : Int) (b1 : Int) {h : Hp} {Q : Value → Hp → Prop} (hb : B_hyper_Gcd_1 a0 b1 h Q) : K_hyper_Gcd_1 a0 b1 h Q :=
  Cut.of_ev Try.func17 mixed C_hyper_Gcd D_hyper_Gcd 400 (by rw [E_hyper_Gcd_1]; exact hb)
def C_signalboxref32_Gcd : List (Nat × List Nat) := [(1, [0, 1])]
def D_signalboxref32_Gcd : List (Nat × List Nat) := []
def T_signalboxref32_Gcd_1 (a0 : Int) (b1 : Int) : Env := mkEnv [(0, .int .u64 a0), (1, .int .u64 b1)] 14 0
def K_signalboxref32_Gcd_1 (a0 : Int) (b1 : Int) : M Value := Cut Try.prog 18 (todoOf Try.f18 1) (T_signalboxref32_Gcd_1 a0 b1)
def B_signalboxref32_Gcd (a0 : Int) (b1 : Int) : M Value :=
  K_signalboxref32_Gcd_1 a0 b1
def B_signalboxref32_Gcd_1 (a0 : Int) (b1 : Int) : M Value :=
  mIf (b1 != (0 : Int)) (
    mGuard (b1 ≠ 0) <|
    K_signalboxref32_Gcd_1 b1 (Int.tmod a0 b1)) (
    mRet (.int .u64 a0))
theorem E_signalboxref32_Gcd (a0 : Int) (b1 : Int) : ev Try.prog 18 Try.f18.results.toList C_signalboxref32_Gcd D_signalboxref32_Gcd 400 false [.code (bodyOf Try.f18)] (List.map some [.int .u64 a0, .int .u64 b1] ++ List.replicate (Try.f18.ntmps - List.length ([.int .u64 a0, .int .u64 b1] : List Value)) none) = B_signalboxref32_Gcd a0 b1 := by kernel_rfl
theorem S_signalboxref32_Gcd (a0 : Int) (b1 : Int) {h : Hp} {Q : Value → Hp → Prop} (hb : B_signalboxref32_Gcd a0 b1 h Q) : N_signalboxref32_Gcd a0 b1 h Q :=
  Nf.of_ev Try.call18 Try.func18 (c := bodyOf Try.f18) rfl mixed C_signalboxref32_Gcd D_signalboxref32_Gcd 400 (args := [.int .u64 a0, .int .u64 b1]) (by rw [E_signalboxref32_Gcd]; exact hb)
theorem E_signalboxref32_Gcd_1 (a0 : Int) (b1 : Int) : ev Try.prog 18 Try.f18.results.toList C_signalboxref32_Gcd D_signalboxref32_Gcd 400 true (todoOf Try.f18 1) (T_signalboxref32_Gcd_1 a0 b1) = B_signalboxref32_Gcd_1 a0 b1 := by kernel_rfl
theorem S_signalboxref32_Gcd_1 (a0 : Int) (b1 : Int) {h : Hp} {Q : Value → Hp → Prop} (hb : B_signalboxref32_Gcd_1 a0 b1 h Q) : K_signalboxref32_Gcd_1 a0 b1 h Q :=
  Cut.of_ev Try.func18 mixed C_signalboxref32_Gcd D_signalboxref32_Gcd 400 (by rw [E_signalboxref32_Gcd_1]; exact hb)
def C_hyper_Lcm : List (Nat × List Nat) := []
def D_hyper_Lcm : List (Nat × List Nat) := []
def B_hyper_Lcm (a0 : Int) (b1 : Int) : M Value :=
  mIf ((a0 == (0 : Int)) || (b1 == (0 : Int))) (
    mRet (.int .u64 (0 : Int))) (
    mBind (N_hyper_Gcd a0 b1) fun r14 =>
    unI .u64 r14 fun (x14 : Int) =>
    mGuard (x14 ≠ 0) <|
    mBind (N_sat_Mul (IntKind.u64.wrap (Int.tdiv a0 x14)) b1) fun r17 =>
    unI .u64 r17 fun (x17 : Int) =>
    mRet (.int .u64 x17))
theorem E_hyper_Lcm (a0 : Int) (b1 : Int) : ev Try.prog 19 Try.f19.results.toList C_hyper_Lcm D_hyper_Lcm 400 false [.code (bodyOf Try.f19)] (List.map some [.int .u64 a0, .int .u64 b1] ++ List.replicate (Try.f19.ntmps - List.length ([.int .u64 a0, .int .u64 b1] : List Value)) none) = B_hyper_Lcm a0 b1 := by kernel_rfl
theorem S_hyper_Lcm (a0 : Int) (b1 : Int) {h : Hp} {Q : Value → Hp → Prop} (hb : B_hyper_Lcm a0 b1 h Q) : N_hyper_Lcm a0 b1 h Q :=
  Nf.of_ev Try.call19 Try.func19 (c := bodyOf Try.f19) rfl mixed C_hyper_Lcm D_hyper_Lcm 400 (args := [.int .u64 a0, .int .u64 b1]) (by rw [E_hyper_Lcm]; exact hb)
def C_hyper_All : List (Nat × List Nat) := [(3, [3, 6, 7, 8])]
def D_hyper_All : List (Nat × List Nat) := []
def T_hyper_All_3 (n3 : Int) (t6 : Sl) (t7 : Int) (t8 : Int) : Env := mkEnv [(3, .int .u64 n3), (6, .slice t6.p t6.n t6.c), (7, .int .i64 t7), (8, .int .i64 t8)] 17 0
def K_hyper_All_3 (n3 : Int) (t6 : Sl) (t7 : Int) (t8 : Int) : M Value := Cut Try.prog 20 (todoOf Try.f20 3) (T_hyper_All_3 n3 t6 t7 t8)
def B_hyper_All (l0 : Sl) : M Value :=
  K_hyper_All_3 (1 : Int) l0 (l0.n : Int) (0 : Int)
def B_hyper_All_3 (n3 : Int) (t6 : Sl) (t7 : Int) (t8 : Int) : M Value :=
  mIf (decide (t8 < t7)) (
    mIdx t6 t8 1 fun (x10 : Addr) =>
    mLdI .u64 x10 fun (x11 : Int) =>
    mBind (N_hyper_lcm n3 x11) fun r14 =>
    unI .u64 r14 fun (x14 : Int) =>
    K_hyper_All_3 x14 t6 t7 (IntKind.i64.wrap (t8 + (1 : Int)))) (
    mRet (.int .u64 n3))
theorem E_hyper_All (l0 : Sl) : ev Try.prog 20 Try.f20.results.toList C_hyper_All D_hyper_All 400 false [.code (bodyOf Try.f20)] (List.map some [.slice l0.p l0.n l0.c] ++ List.replicate (Try.f20.ntmps - List.length ([.slice l0.p l0.n l0.c] : List Value)) none) = B_hyper_All l0 := by kernel_rfl
theorem S_hyper_All (l0 : Sl) {h : Hp} {Q : Value → Hp → Prop} (hb : B_hyper_All l0 h Q) : N_hyper_All l0 h Q :=
  Nf.of_ev Try.call20 Try.func20 (c := bodyOf Try.f20) rfl mixed C_hyper_All D_hyper_All 400 (args := [.slice l0.p l0.n l0.c]) (by rw [E_hyper_All]; exact hb)
theorem E_hyper_All_3 (n3 : Int) (t6 : Sl) (t7 : Int) (t8 : Int) : ev Try.prog 20 Try.f20.results.toList C_hyper_All D_hyper_All 400 true (todoOf Try.f20 3) (T_hyper_All_3 n3 t6 t7 t8) = B_hyper_All_3 n3 t6 t7 t8 := by kernel_rfl
theorem S_hyper_All_3 (n3 : Int) (t6 : Sl) (t7 : Int) (t8 : Int) {h : Hp} {Q : Value → Hp → Prop} (hb : B_hyper_All_3 n3 t6 t7 t8 h Q) : K_hyper_All_3 n3 t6 t7 t8 h Q :=
  Cut.of_ev Try.func20 mixed C_hyper_All D_hyper_All 400 (by rw [E_hyper_All_3]; exact hb)
def C_signalboxref32_Add : List (Nat × List Nat) := []
def D_signalboxref32_Add : List (Nat × List Nat) := []
def B_signalboxref32_Add (a0 : Int) (b1 : Int) (c2 : Int) (d3 : Int) : M Value :=
  mBind (N_signalboxref32_Simple a0 b1) fun r19 =>
  un2 (unI .u64) (unI .u64) r19 fun (x19_0 : Int) (x19_1 : Int) =>
  mBind (N_signalboxref32_Simple c2 d3) fun r25 =>
  un2 (unI .u64) (unI .u64) r25 fun (x25_0 : Int) (x25_1 : Int) =>
  mBind (N_signalboxref32_Times x19_0 x25_1) fun r31 =>
  un2 (unI .u64) unB r31 fun (x31_0 : Int) (x31_1 : Bool) =>
  mBind (N_signalboxref32_Times x25_0 x19_1) fun r37 =>
  un2 (unI .u64) unB r37 fun (x37_0 : Int) (x37_1 : Bool) =>
  mBind (N_signalboxref32_Times x19_1 x25_1) fun r43 =>
  un2 (unI .u64) unB r43 fun (x43_0 : Int) (x43_1 : Bool) =>
  mIf ((((((x19_1 == (0 : Int)) || (x25_1 == (0 : Int))) || (!x31_1)) || (!x37_1)) || (!x43_1)) || (decide (x31_0 > (IntKind.u64.wrap ((18446744073709551614 : Int) - x37_0))))) (
    mRet (.tuple #[.int .u64 (18446744073709551615 : Int), .int .u64 (0 : Int)])) (
    mBind (N_signalboxref32_Simple (IntKind.u64.wrap (x31_0 + x37_0)) x43_0) fun r74 =>
    un2 (unI .u64) (unI .u64) r74 fun (x74_0 : Int) (x74_1 : Int) =>
    mRet (.tuple #[.int .u64 x74_0, .int .u64 x74_1]))
theorem E_signalboxref32_Add (a0 : Int) (b1 : Int) (c2 : Int) (d3 : Int) : ev Try.prog 21 Try.f21.results.toList C_signalboxref32_Add D_signalboxref32_Add 400 false [.code (bodyOf Try.f21)] (List.map some [.int .u64 a0, .int .u64 b1, .int .u64 c2, .int .u64 d3] ++ List.replicate (Try.f21.ntmps - List.length ([.int .u64 a0, .int .u64 b1, .int .u64 c2, .int .u64 d3] : List Value)) none) = B_signalboxref32_Add a0 b1 c2 d3 := by kernel_rfl
theorem S_signalboxref32_Add (a0 : Int) (b1 : Int) (c2 : Int) (d3 : Int) {h : Hp} {Q : Value → Hp → Prop} (hb : B_signalboxref32_Add a0 b1 c2 d3 h Q) : N_signalboxref32_Add a0 b1 c2 d3 h Q :=
  Nf.of_ev Try.call21 Try.func21 (c := bodyOf Try.f21) rfl mixed C_signalboxref32_Add D_signalboxref32_Add 400 (args := [.int .u64 a0, .int .u64 b1, .int .u64 c2, .int .u64 d3]) (by rw [E_signalboxref32_Add]; exact hb)
def C_signalboxref32_Simple : List (Nat × List Nat) := []
def D_signalboxref32_Simple : List (Nat × List Nat) := []
def B_signalboxref32_Simple (a0 : Int) (b1 : Int) : M Value :=
  mIf (b1 == (0 : Int)) (
    mRet (.tuple #[.int .u64 (18446744073709551615 : Int), .int .u64 (0 : Int)])) (
    mBind (N_signalboxref32_Gcd a0 b1) fun r11 =>
    unI .u64 r11 fun (x11 : Int) =>
    mGuard (x11 ≠ 0) <|
    mGuard (x11 ≠ 0) <|
    mRet (.tuple #[.int .u64 (IntKind.u64.wrap (Int.tdiv a0 x11)), .int .u64 (IntKind.u64.wrap (Int.tdiv b1 x11))]))
theorem E_signalboxref32_Simple (a0 : Int) (b1 : Int) : ev Try.prog 22 Try.f22.results.toList C_signalboxref32_Simple D_signalboxref32_Simple 400 false [.code (bodyOf Try.f22)] (List.map some [.int .u64 a0, .int .u64 b1] ++ List.replicate (Try.f22.ntmps - List.length ([.int .u64 a0, .int .u64 b1] : List Value)) none) = B_signalboxref32_Simple a0 b1 := by kernel_rfl
theorem S_signalboxref32_Simple (a0 : Int) (b1 : Int) {h : Hp} {Q : Value → Hp → Prop} (hb : B_signalboxref32_Simple a0 b1 h Q) : N_signalboxref32_Simple a0 b1 h Q :=
  Nf.of_ev Try.call22 Try.func22 (c := bodyOf Try.f22) rfl mixed C_signalboxref32_Simple D_signalboxref32_Simple 400 (args := [.int .u64 a0, .int .u64 b1]) (by rw [E_signalboxref32_Simple]; exact hb)
def C_hyper_Less : List (Nat × List Nat) := []
def D_hyper_Less : List (Nat × List Nat) := []
def B_hyper_Less (a0_0 : Int) (a0_1 : Int) (b1_0 : Int) (b1_1 : Int) : M Value :=
  mNew #[.int .u64 a0_0, .int .u64 a0_1] 29 fun (x2 : Addr) =>
  mNew #[.int .u64 b1_0, .int .u64 b1_1] 29 fun (x3 : Addr) =>
  mLdI .u64 (x2.add 1) fun (x11 : Int) =>
  mIf (x11 == (0 : Int)) (
    mRet (.bool false)) (
    mLdI .u64 (x3.add 1) fun (x15 : Int) =>
    mIf (x15 == (0 : Int)) (
      mRet (.bool true)) (
      mLdI .u64 x2 fun (x19 : Int) =>
      mLdI .u64 (x3.add 1) fun (x21 : Int) =>
      mBind (N_math_bits_Mul64 x19 x21) fun r22 =>
      un2 (unI .u64) (unI .u64) r22 fun (x22_0 : Int) (x22_1 : Int) =>
      mLdI .u64 x3 fun (x27 : Int) =>
      mLdI .u64 (x2.add 1) fun (x29 : Int) =>
      mBind (N_math_bits_Mul64 x27 x29) fun r30 =>
      un2 (unI .u64) (unI .u64) r30 fun (x30_0 : Int) (x30_1 : Int) =>
      mBind (mIf (decide (x22_0 < x30_0)) (mRet true) (mRet ((x22_0 == x30_0) && (decide (x22_1 < x30_1))))) fun (b17 : Bool) =>
      mRet (.bool b17)))
theorem E_hyper_Less (a0_0 : Int) (a0_1 : Int) (b1_0 : Int) (b1_1 : Int) : ev Try.prog 23 Try.f23.results.toList C_hyper_Less D_hyper_Less 400 false [.code (bodyOf Try.f23)] (List.map some [.agg #[.int .u64 a0_0, .int .u64 a0_1], .agg #[.int .u64 b1_0, .int .u64 b1_1]] ++ List.replicate (Try.f23.ntmps - List.length ([.agg #[.int .u64 a0_0, .int .u64 a0_1], .agg #[.int .u64 b1_0, .int .u64 b1_1]] : List Value)) none) = B_hyper_Less a0_0 a0_1 b1_0 b1_1 := by kernel_rfl
theorem S_hyper_Less (a0_0 : Int) (a0_1 : Int) (b1_0 : Int) (b1_1 : Int) {h : Hp} {Q : Value → Hp → Prop} (hb : B_hyper_Less a0_0 a0_1 b1_0 b1_1 h Q) : N_hyper_Less a0_0 a0_1 b1_0 b1_1 h Q :=
  Nf.of_ev Try.call23 Try.func23 (c := bodyOf Try.f23) rfl mixed C_hyper_Less D_hyper_Less 400 (args := [.agg #[.int .u64 a0_0, .int .u64 a0_1], .agg #[.int .u64 b1_0, .int .u64 b1_1]]) (by rw [E_hyper_Less]; exact hb)
def C_signalboxref32_Less : List (Nat × List Nat) := []
def D_signalboxref32_Less : List (Nat × List Nat) := []
def B_signalboxref32_Less (a0 : Int) (b1 : Int) (c2 : Int) (d3 : Int) : M Value :=
  mIf (b1 == (0 : Int)) (
    mRet (.bool false)) (
    mIf (d3 == (0 : Int)) (
      mRet (.bool true)) (
      mGuard (b1 ≠ 0) <|
      mGuard (d3 ≠ 0) <|
      mIf ((IntKind.u64.wrap (Int.tdiv a0 b1)) != (IntKind.u64.wrap (Int.tdiv c2 d3))) (
        mGuard (b1 ≠ 0) <|
        mGuard (d3 ≠ 0) <|
        mRet (.bool (decide ((IntKind.u64.wrap (Int.tdiv a0 b1)) < (IntKind.u64.wrap (Int.tdiv c2 d3)))))) (
        mGuard (d3 ≠ 0) <|
        mIf ((Int.tmod c2 d3) == (0 : Int)) (
          mRet (.bool false)) (
          mGuard (b1 ≠ 0) <|
          mIf ((Int.tmod a0 b1) == (0 : Int)) (
            mRet (.bool true)) (
            mGuard (d3 ≠ 0) <|
            mGuard (b1 ≠ 0) <|
            mQ (N_signalboxref32_Less d3 (Int.tmod c2 d3) b1 (Int.tmod a0 b1)) fun r43 =>
            unB r43 fun (x43 : Bool) =>
            mRet (.bool x43))))))
theorem E_signalboxref32_Less (a0 : Int) (b1 : Int) (c2 : Int) (d3 : Int) : ev Try.prog 24 Try.f24.results.toList C_signalboxref32_Less D_signalboxref32_Less 400 false [.code (bodyOf Try.f24)] (List.map some [.int .u64 a0, .int .u64 b1, .int .u64 c2, .int .u64 d3] ++ List.replicate (Try.f24.ntmps - List.length ([.int .u64 a0, .int .u64 b1, .int .u64 c2, .int .u64 d3] : List Value)) none) = B_signalboxref32_Less a0 b1 c2 d3 := by kernel_rfl
theorem S_signalboxref32_Less (a0 : Int) (b1 : Int) (c2 : Int) (d3 : Int) {h : Hp} {Q : Value → Hp → Prop} (hb : B_signalboxref32_Less a0 b1 c2 d3 h Q) : N_signalboxref32_Less a0 b1 c2 d3 h Q :=
  Nf.of_ev Try.call24 Try.func24 (c := bodyOf Try.f24) rfl mixed C_signalboxref32_Less D_signalboxref32_Less 400 (args := [.int .u64 a0, .int .u64 b1, .int .u64 c2, .int .u64 d3]) (by rw [E_signalboxref32_Less]; exact hb)
def C_hyper_Add : List (Nat × List Nat) := [(2, [2, 3, 4])]
def D_hyper_Add : List (Nat × List Nat) := [(1, [])]
def T_hyper_Add_2 (a2 : Addr) (b3 : Addr) (t4 : Addr) : Env := mkEnv [(2, .pointer (some a2)), (3, .pointer (some b3)), (4, .pointer (some t4))] 46 0
def K_hyper_Add_2 (a2 : Addr) (b3 : Addr) (t4 : Addr) : M Value := Cut Try.prog 25 (todoOf Try.f25 2) (T_hyper_Add_2 a2 b3 t4)
def B_hyper_Add (a0_0 : Int) (a0_1 : Int) (b1_0 : Int) (b1_1 : Int) : M Value :=
  mNew #[.int .u64 a0_0, .int .u64 a0_1] 29 fun (x2 : Addr) =>
  mNew #[.int .u64 b1_0, .int .u64 b1_1] 29 fun (x3 : Addr) =>
  mNew #[.int .u64 (0 : Int), .int .u64 (0 : Int)] 29 fun (x4 : Addr) =>
  mAnd (
    mLdI .u64 x2 fun (x9_10_0 : Int) =>
    mLdI .u64 (x2.add 1) fun (x9_10_1 : Int) =>
    mAnd (
      mBind (N_hyper_Simple x9_10_0 x9_10_1) fun r10_16 =>
      unA r10_16 fun x10_16l =>
      unC x10_16l fun x10_16v0 x10_16l0 =>
      unI .u64 x10_16v0 fun (x10_16_0 : Int) =>
      unC x10_16l0 fun x10_16v1 x10_16l1 =>
      unI .u64 x10_16v1 fun (x10_16_1 : Int) =>
      unE x10_16l1 <|
      mLdI .u64 x3 fun (x11_17_0 : Int) =>
      mLdI .u64 (x3.add 1) fun (x11_17_1 : Int) =>
      mBind (N_hyper_Simple x11_17_0 x11_17_1) fun r12_18 =>
      unA r12_18 fun x12_18l =>
      unC x12_18l fun x12_18v0 x12_18l0 =>
      unI .u64 x12_18v0 fun (x12_18_0 : Int) =>
      unC x12_18l0 fun x12_18v1 x12_18l1 =>
      unI .u64 x12_18v1 fun (x12_18_1 : Int) =>
      unE x12_18l1 <|
      mSt x2 (.int .u64 x10_16_0) <|
      mSt (x2.add 1) (.int .u64 x10_16_1) <|
      mSt x3 (.int .u64 x12_18_0) <|
      mSt (x3.add 1) (.int .u64 x12_18_1) <|
      K_hyper_Add_2 x2 x3 x4) (
      mLdI .u64 x3 fun (x11_11_0 : Int) =>
      mLdI .u64 (x3.add 1) fun (x11_11_1 : Int) =>
      mBind (N_hyper_Simple x9_10_0 x9_10_1) fun r10_12 =>
      unA r10_12 fun x10_12l =>
      unC x10_12l fun x10_12v0 x10_12l0 =>
      unI .u64 x10_12v0 fun (x10_12_0 : Int) =>
      unC x10_12l0 fun x10_12v1 x10_12l1 =>
      unI .u64 x10_12v1 fun (x10_12_1 : Int) =>
      unE x10_12l1 <|
      mBind (N_hyper_Simple x11_11_0 x11_11_1) fun r12_13 =>
      unA r12_13 fun x12_13l =>
      unC x12_13l fun x12_13v0 x12_13l0 =>
      unI .u64 x12_13v0 fun (x12_13_0 : Int) =>
      unC x12_13l0 fun x12_13v1 x12_13l1 =>
      unI .u64 x12_13v1 fun (x12_13_1 : Int) =>
      unE x12_13l1 <|
      mSt x2 (.int .u64 x10_12_0) <|
      mSt (x2.add 1) (.int .u64 x10_12_1) <|
      mSt x3 (.int .u64 x12_13_0) <|
      mSt (x3.add 1) (.int .u64 x12_13_1) <|
      K_hyper_Add_2 x2 x3 x4)) (
    mLdI .u64 x3 fun (x11_0 : Int) =>
    mLdI .u64 (x3.add 1) fun (x11_1 : Int) =>
    mLdI .u64 x2 fun (x9_0 : Int) =>
    mLdI .u64 (x2.add 1) fun (x9_1 : Int) =>
    mBind (N_hyper_Simple x9_0 x9_1) fun r10 =>
    unA r10 fun x10l =>
    unC x10l fun x10v0 x10l0 =>
    unI .u64 x10v0 fun (x10_0 : Int) =>
    unC x10l0 fun x10v1 x10l1 =>
    unI .u64 x10v1 fun (x10_1 : Int) =>
    unE x10l1 <|
    mBind (N_hyper_Simple x11_0 x11_1) fun r12 =>
    unA r12 fun x12l =>
    unC x12l fun x12v0 x12l0 =>
    unI .u64 x12v0 fun (x12_0 : Int) =>
    unC x12l0 fun x12v1 x12l1 =>
    unI .u64 x12v1 fun (x12_1 : Int) =>
    unE x12l1 <|
    mSt x2 (.int .u64 x10_0) <|
    mSt (x2.add 1) (.int .u64 x10_1) <|
    mSt x3 (.int .u64 x12_0) <|
    mSt (x3.add 1) (.int .u64 x12_1) <|
    K_hyper_Add_2 x2 x3 x4)
def B_hyper_Add_2 (a2 : Addr) (b3 : Addr) (t4 : Addr) : M Value :=
  mLdI .u64 a2 fun (x14 : Int) =>
  mLdI .u64 (b3.add 1) fun (x16 : Int) =>
  mQ (N_sat_Mul x14 x16) fun r17 =>
  unI .u64 r17 fun (x17 : Int) =>
  mLdI .u64 b3 fun (x19 : Int) =>
  mLdI .u64 (a2.add 1) fun (x21 : Int) =>
  mQ (N_sat_Mul x19 x21) fun r22 =>
  unI .u64 r22 fun (x22 : Int) =>
  mLdI .u64 (a2.add 1) fun (x24 : Int) =>
  mLdI .u64 (b3.add 1) fun (x26 : Int) =>
  mQ (N_sat_Mul x24 x26) fun r27 =>
  unI .u64 r27 fun (x27 : Int) =>
  mBind (N_sat_Add x17 x22) fun r30 =>
  unI .u64 r30 fun (x30 : Int) =>
  mIf ((x27 == (0 : Int)) || ((if x30 > (if x27 > (if x22 > x17 then x22 else x17) then x27 else (if x22 > x17 then x22 else x17)) then x30 else (if x27 > (if x22 > x17 then x22 else x17) then x27 else (if x22 > x17 then x22 else x17))) == (18446744073709551615 : Int))) (
    mBind (N_hyper_much) fun r41 =>
    unA r41 fun x41l =>
    unC x41l fun x41v0 x41l0 =>
    unI .u64 x41v0 fun (x41_0 : Int) =>
    unC x41l0 fun x41v1 x41l1 =>
    unI .u64 x41v1 fun (x41_1 : Int) =>
    unE x41l1 <|
    mSt t4 (.int .u64 x41_0) <|
    mSt (t4.add 1) (.int .u64 x41_1) <|
    mLdI .u64 t4 fun (q39_0 : Int) =>
    mLdI .u64 (t4.add 1) fun (q39_1 : Int) =>
    mRet (.agg #[.int .u64 q39_0, .int .u64 q39_1])) (
    mBind (N_hyper_Simple x30 x27) fun r45 =>
    unA r45 fun x45l =>
    unC x45l fun x45v0 x45l0 =>
    unI .u64 x45v0 fun (x45_0 : Int) =>
    unC x45l0 fun x45v1 x45l1 =>
    unI .u64 x45v1 fun (x45_1 : Int) =>
    unE x45l1 <|
    mSt t4 (.int .u64 x45_0) <|
    mSt (t4.add 1) (.int .u64 x45_1) <|
    mLdI .u64 t4 fun (q42_0 : Int) =>
    mLdI .u64 (t4.add 1) fun (q42_1 : Int) =>
    mRet (.agg #[.int .u64 q42_0, .int .u64 q42_1]))
theorem E_hyper_Add (a0_0 : Int) (a0_1 : Int) (b1_0 : Int) (b1_1 : Int) : ev Try.prog 25 Try.f25.results.toList C_hyper_Add D_hyper_Add 400 false [.code (bodyOf Try.f25)] (List.map some [.agg #[.int .u64 a0_0, .int .u64 a0_1], .agg #[.int .u64 b1_0, .int .u64 b1_1]] ++ List.replicate (Try.f25.ntmps - List.length ([.agg #[.int .u64 a0_0, .int .u64 a0_1], .agg #[.int .u64 b1_0, .int .u64 b1_1]] : List Value)) none) = B_hyper_Add a0_0 a0_1 b1_0 b1_1 := by kernel_rfl
theorem S_hyper_Add (a0_0 : Int) (a0_1 : Int) (b1_0 : Int) (b1_1 : Int) {h : Hp} {Q : Value → Hp → Prop} (hb : B_hyper_Add a0_0 a0_1 b1_0 b1_1 h Q) : N_hyper_Add a0_0 a0_1 b1_0 b1_1 h Q :=
  Nf.of_ev Try.call25 Try.func25 (c := bodyOf Try.f25) rfl mixed C_hyper_Add D_hyper_Add 400 (args := [.agg #[.int .u64 a0_0, .int .u64 a0_1], .agg #[.int .u64 b1_0, .int .u64 b1_1]]) (by rw [E_hyper_Add]; exact hb)
theorem E_hyper_Add_2 (a2 : Addr) (b3 : Addr) (t4 : Addr) : ev Try.prog 25 Try.f25.results.toList C_hyper_Add D_hyper_Add 400 true (todoOf Try.f25 2) (T_hyper_Add_2 a2 b3 t4) = B_hyper_Add_2 a2 b3 t4 := by kernel_rfl
theorem S_hyper_Add_2 (a2 : Addr) (b3 : Addr) (t4 : Addr) {h : Hp} {Q : Value → Hp → Prop} (hb : B_hyper_Add_2 a2 b3 t4 h Q) : K_hyper_Add_2 a2 b3 t4 h Q :=
  Cut.of_ev Try.func25 mixed C_hyper_Add D_hyper_Add 400 (by rw [E_hyper_Add_2]; exact hb)
def C_hyper_Simple : List (Nat × List Nat) := []
def D_hyper_Simple : List (Nat × List Nat) := [(4, [0, 1, 2, 3, 4, 5, 6, 7, 8])]
def B_hyper_Simple (s0_0 : Int) (s0_1 : Int) : M Value :=
  mNew #[.int .u64 s0_0, .int .u64 s0_1] 29 fun (x1 : Addr) =>
  mNew #[.int .u64 (0 : Int), .int .u64 (0 : Int)] 29 fun (x2 : Addr) =>
  mLdI .u64 (x1.add 1) fun (x5 : Int) =>
  mIf (x5 == (0 : Int)) (
    mBind (N_hyper_much) fun r7 =>
    unA r7 fun x7l =>
    unC x7l fun x7v0 x7l0 =>
    unI .u64 x7v0 fun (x7_0 : Int) =>
    unC x7l0 fun x7v1 x7l1 =>
    unI .u64 x7v1 fun (x7_1 : Int) =>
    unE x7l1 <|
    mSt x2 (.int .u64 x7_0) <|
    mSt (x2.add 1) (.int .u64 x7_1) <|
    mLdI .u64 x2 fun (q7_0 : Int) =>
    mLdI .u64 (x2.add 1) fun (q7_1 : Int) =>
    mRet (.agg #[.int .u64 q7_0, .int .u64 q7_1])) (
    mLdI .u64 x1 fun (x9 : Int) =>
    mLdI .u64 (x1.add 1) fun (x11 : Int) =>
    mBind (N_hyper_Gcd x9 x11) fun r12 =>
    unI .u64 r12 fun (x12 : Int) =>
    mLdI .u64 x1 fun (x14 : Int) =>
    mGuard (x12 ≠ 0) <|
    mLdI .u64 (x1.add 1) fun (x18 : Int) =>
    mGuard (x12 ≠ 0) <|
    mSt x2 (.int .u64 (IntKind.u64.wrap (Int.tdiv x14 x12))) <|
    mSt (x2.add 1) (.int .u64 (IntKind.u64.wrap (Int.tdiv x18 x12))) <|
    mLdI .u64 x2 fun (q20_0 : Int) =>
    mLdI .u64 (x2.add 1) fun (q20_1 : Int) =>
    mRet (.agg #[.int .u64 q20_0, .int .u64 q20_1]))
theorem E_hyper_Simple (s0_0 : Int) (s0_1 : Int) : ev Try.prog 26 Try.f26.results.toList C_hyper_Simple D_hyper_Simple 400 false [.code (bodyOf Try.f26)] (List.map some [.agg #[.int .u64 s0_0, .int .u64 s0_1]] ++ List.replicate (Try.f26.ntmps - List.length ([.agg #[.int .u64 s0_0, .int .u64 s0_1]] : List Value)) none) = B_hyper_Simple s0_0 s0_1 := by kernel_rfl
theorem S_hyper_Simple (s0_0 : Int) (s0_1 : Int) {h : Hp} {Q : Value → Hp → Prop} (hb : B_hyper_Simple s0_0 s0_1 h Q) : N_hyper_Simple s0_0 s0_1 h Q :=
  Nf.of_ev Try.call26 Try.func26 (c := bodyOf Try.f26) rfl mixed C_hyper_Simple D_hyper_Simple 400 (args := [.agg #[.int .u64 s0_0, .int .u64 s0_1]]) (by rw [E_hyper_Simple]; exact hb)
def C_signalboxref32_Times : List (Nat × List Nat) := []
def D_signalboxref32_Times : List (Nat × List Nat) := []
def B_signalboxref32_Times (a0 : Int) (b1 : Int) : M Value :=
  mIf ((a0 == (0 : Int)) || (b1 == (0 : Int))) (
    mRet (.tuple #[.int .u64 (0 : Int), .bool true])) (
    mGuard (b1 ≠ 0) <|
    mIf (decide (a0 > (IntKind.u64.wrap (Int.tdiv (18446744073709551615 : Int) b1)))) (
      mRet (.tuple #[.int .u64 (0 : Int), .bool false])) (
      mRet (.tuple #[.int .u64 (IntKind.u64.wrap (a0 * b1)), .bool (decide ((IntKind.u64.wrap (a0 * b1)) < (18446744073709551615 : Int)))])))
theorem E_signalboxref32_Times (a0 : Int) (b1 : Int) : ev Try.prog 59 Try.f59.results.toList C_signalboxref32_Times D_signalboxref32_Times 400 false [.code (bodyOf Try.f59)] (List.map some [.int .u64 a0, .int .u64 b1] ++ List.replicate (Try.f59.ntmps - List.length ([.int .u64 a0, .int .u64 b1] : List Value)) none) = B_signalboxref32_Times a0 b1 := by kernel_rfl
theorem S_signalboxref32_Times (a0 : Int) (b1 : Int) {h : Hp} {Q : Value → Hp → Prop} (hb : B_signalboxref32_Times a0 b1 h Q) : N_signalboxref32_Times a0 b1 h Q :=
  Nf.of_ev Try.call59 Try.func59 (c := bodyOf Try.f59) rfl mixed C_signalboxref32_Times D_signalboxref32_Times 400 (args := [.int .u64 a0, .int .u64 b1]) (by rw [E_signalboxref32_Times]; exact hb)
def C_sat_Mul : List (Nat × List Nat) := []
def D_sat_Mul : List (Nat × List Nat) := []
def B_sat_Mul (a0 : Int) (b1 : Int) : M Value :=
  mBind (N_math_bits_Mul64 a0 b1) fun r10 =>
  un2 (unI .u64) (unI .u64) r10 fun (x10_0 : Int) (x10_1 : Int) =>
  mIf (decide (x10_0 > (0 : Int))) (
    mRet (.int .u64 (18446744073709551615 : Int))) (
    mRet (.int .u64 x10_1))
theorem E_sat_Mul (a0 : Int) (b1 : Int) : ev Try.prog 60 Try.f60.results.toList C_sat_Mul D_sat_Mul 400 false [.code (bodyOf Try.f60)] (List.map some [.int .u64 a0, .int .u64 b1] ++ List.replicate (Try.f60.ntmps - List.length ([.int .u64 a0, .int .u64 b1] : List Value)) none) = B_sat_Mul a0 b1 := by kernel_rfl
theorem S_sat_Mul (a0 : Int) (b1 : Int) {h : Hp} {Q : Value → Hp → Prop} (hb : B_sat_Mul a0 b1 h Q) : N_sat_Mul a0 b1 h Q :=
  Nf.of_ev Try.call60 Try.func60 (c := bodyOf Try.f60) rfl mixed C_sat_Mul D_sat_Mul 400 (args := [.int .u64 a0, .int .u64 b1]) (by rw [E_sat_Mul]; exact hb)
def C_hyper_lcm : List (Nat × List Nat) := []
def D_hyper_lcm : List (Nat × List Nat) := []
def B_hyper_lcm (a0 : Int) (b1 : Int) : M Value :=
  mIf ((a0 == (18446744073709551615 : Int)) && (b1 != (0 : Int))) (
    mRet (.int .u64 a0)) (
    mBind (N_hyper_Lcm a0 b1) fun r14 =>
    unI .u64 r14 fun (x14 : Int) =>
    mRet (.int .u64 x14))
theorem E_hyper_lcm (a0 : Int) (b1 : Int) : ev Try.prog 61 Try.f61.results.toList C_hyper_lcm D_hyper_lcm 400 false [.code (bodyOf Try.f61)] (List.map some [.int .u64 a0, .int .u64 b1] ++ List.replicate (Try.f61.ntmps - List.length ([.int .u64 a0, .int .u64 b1] : List Value)) none) = B_hyper_lcm a0 b1 := by kernel_rfl
theorem S_hyper_lcm (a0 : Int) (b1 : Int) {h : Hp} {Q : Value → Hp → Prop} (hb : B_hyper_lcm a0 b1 h Q) : N_hyper_lcm a0 b1 h Q :=
  Nf.of_ev Try.call61 Try.func61 (c := bodyOf Try.f61) rfl mixed C_hyper_lcm D_hyper_lcm 400 (args := [.int .u64 a0, .int .u64 b1]) (by rw [E_hyper_lcm]; exact hb)
def C_math_bits_Mul64 : List (Nat × List Nat) := []
def D_math_bits_Mul64 : List (Nat × List Nat) := []
def B_math_bits_Mul64 (x0 : Int) (y1 : Int) : M Value :=
  mGuard (0 ≤ (32 : Int)) <|
  mGuard (0 ≤ (32 : Int)) <|
  mGuard (0 ≤ (32 : Int)) <|
  mGuard (0 ≤ (32 : Int)) <|
  mGuard (0 ≤ (32 : Int)) <|
  mRet (.tuple #[.int .u64 (IntKind.u64.wrap ((IntKind.u64.wrap ((IntKind.u64.wrap ((ishr .u64 x0 (32 : Int)) * (ishr .u64 y1 (32 : Int)))) + (ishr .u64 (IntKind.u64.wrap ((IntKind.u64.wrap ((ishr .u64 x0 (32 : Int)) * (iand .u64 y1 (4294967295 : Int)))) + (ishr .u64 (IntKind.u64.wrap ((iand .u64 x0 (4294967295 : Int)) * (iand .u64 y1 (4294967295 : Int)))) (32 : Int)))) (32 : Int)))) + (ishr .u64 (IntKind.u64.wrap ((iand .u64 (IntKind.u64.wrap ((IntKind.u64.wrap ((ishr .u64 x0 (32 : Int)) * (iand .u64 y1 (4294967295 : Int)))) + (ishr .u64 (IntKind.u64.wrap ((iand .u64 x0 (4294967295 : Int)) * (iand .u64 y1 (4294967295 : Int)))) (32 : Int)))) (4294967295 : Int)) + (IntKind.u64.wrap ((iand .u64 x0 (4294967295 : Int)) * (ishr .u64 y1 (32 : Int)))))) (32 : Int)))), .int .u64 (IntKind.u64.wrap (x0 * y1))])
theorem E_math_bits_Mul64 (x0 : Int) (y1 : Int) : ev Try.prog 62 Try.f62.results.toList C_math_bits_Mul64 D_math_bits_Mul64 400 false [.code (bodyOf Try.f62)] (List.map some [.int .u64 x0, .int .u64 y1] ++ List.replicate (Try.f62.ntmps - List.length ([.int .u64 x0, .int .u64 y1] : List Value)) none) = B_math_bits_Mul64 x0 y1 := by kernel_rfl
theorem S_math_bits_Mul64 (x0 : Int) (y1 : Int) {h : Hp} {Q : Value → Hp → Prop} (hb : B_math_bits_Mul64 x0 y1 h Q) : N_math_bits_Mul64 x0 y1 h Q :=
  Nf.of_ev Try.call62 Try.func62 (c := bodyOf Try.f62) rfl mixed C_math_bits_Mul64 D_math_bits_Mul64 400 (args := [.int .u64 x0, .int .u64 y1]) (by rw [E_math_bits_Mul64]; exact hb)
def C_sat_Add : List (Nat × List Nat) := []
def D_sat_Add : List (Nat × List Nat) := []
def B_sat_Add (a0 : Int) (b1 : Int) : M Value :=
  mBind (N_math_bits_Add64 a0 b1 (0 : Int)) fun r10 =>
  un2 (unI .u64) (unI .u64) r10 fun (x10_0 : Int) (x10_1 : Int) =>
  mIf (decide (x10_1 > (0 : Int))) (
    mRet (.int .u64 (18446744073709551615 : Int))) (
    mRet (.int .u64 x10_0))
theorem E_sat_Add (a0 : Int) (b1 : Int) : ev Try.prog 63 Try.f63.results.toList C_sat_Add D_sat_Add 400 false [.code (bodyOf Try.f63)] (List.map some [.int .u64 a0, .int .u64 b1] ++ List.replicate (Try.f63.ntmps - List.length ([.int .u64 a0, .int .u64 b1] : List Value)) none) = B_sat_Add a0 b1 := by kernel_rfl
theorem S_sat_Add (a0 : Int) (b1 : Int) {h : Hp} {Q : Value → Hp → Prop} (hb : B_sat_Add a0 b1 h Q) : N_sat_Add a0 b1 h Q :=
  Nf.of_ev Try.call63 Try.func63 (c := bodyOf Try.f63) rfl mixed C_sat_Add D_sat_Add 400 (args := [.int .u64 a0, .int .u64 b1]) (by rw [E_sat_Add]; exact hb)
def C_hyper_much : List (Nat × List Nat) := []
def D_hyper_much : List (Nat × List Nat) := []
def B_hyper_much : M Value :=
  mNew #[.int .u64 (0 : Int), .int .u64 (0 : Int)] 29 fun (x0 : Addr) =>
  mSt x0 (.int .u64 (18446744073709551615 : Int)) <|
  mSt (x0.add 1) (.int .u64 (0 : Int)) <|
  mLdI .u64 x0 fun (q3_0 : Int) =>
  mLdI .u64 (x0.add 1) fun (q3_1 : Int) =>
  mRet (.agg #[.int .u64 q3_0, .int .u64 q3_1])
theorem E_hyper_much : ev Try.prog 64 Try.f64.results.toList C_hyper_much D_hyper_much 400 false [.code (bodyOf Try.f64)] (List.map some [] ++ List.replicate (Try.f64.ntmps - List.length ([] : List Value)) none) = B_hyper_much := by kernel_rfl
theorem S_hyper_much {h : Hp} {Q : Value → Hp → Prop} (hb : B_hyper_much h Q) : N_hyper_much h Q :=
  Nf.of_ev Try.call64 Try.func64 (c := bodyOf Try.f64) rfl mixed C_hyper_much D_hyper_much 400 (args := []) (by rw [E_hyper_much]; exact hb)
def C_sat_Ceil : List (Nat × List Nat) := []
def D_sat_Ceil : List (Nat × List Nat) := []
def B_sat_Ceil (a0 : Int) (b1 : Int) : M Value :=
  mIf (a0 == (0 : Int)) (
    mRet (.int .u64 (0 : Int))) (
    mIf ((b1 == (0 : Int)) || (a0 == (18446744073709551615 : Int))) (
      mRet (.int .u64 (18446744073709551615 : Int))) (
      mGuard (b1 ≠ 0) <|
      mRet (.int .u64 (IntKind.u64.wrap ((IntKind.u64.wrap (Int.tdiv (IntKind.u64.wrap (a0 - (1 : Int))) b1)) + (1 : Int))))))
theorem E_sat_Ceil (a0 : Int) (b1 : Int) : ev Try.prog 69 Try.f69.results.toList C_sat_Ceil D_sat_Ceil 400 false [.code (bodyOf Try.f69)] (List.map some [.int .u64 a0, .int .u64 b1] ++ List.replicate (Try.f69.ntmps - List.length ([.int .u64 a0, .int .u64 b1] : List Value)) none) = B_sat_Ceil a0 b1 := by kernel_rfl
theorem S_sat_Ceil (a0 : Int) (b1 : Int) {h : Hp} {Q : Value → Hp → Prop} (hb : B_sat_Ceil a0 b1 h Q) : N_sat_Ceil a0 b1 h Q :=
  Nf.of_ev Try.call69 Try.func69 (c := bodyOf Try.f69) rfl mixed C_sat_Ceil D_sat_Ceil 400 (args := [.int .u64 a0, .int .u64 b1]) (by rw [E_sat_Ceil]; exact hb)

def C_signalboxlaw32_HyperTells : List (Nat × List Nat) := [(7, [0, 1, 2, 7, 15, 16, 17])]
def D_signalboxlaw32_HyperTells : List (Nat × List Nat) := []
def T_signalboxlaw32_HyperTells_7 (a0 : Int) (b1 : Int) (l2 : Sl) (n7 : Int) (t15 : Sl) (t16 : Int) (t17 : Int) : Env := mkEnv [(0, .int .u64 a0), (1, .int .u64 b1), (2, .slice l2.p l2.n l2.c), (7, .int .u64 n7), (15, .slice t15.p t15.n t15.c), (16, .int .i64 t16), (17, .int .i64 t17)] 53 0
def K_signalboxlaw32_HyperTells_7 (a0 : Int) (b1 : Int) (l2 : Sl) (n7 : Int) (t15 : Sl) (t16 : Int) (t17 : Int) : M Value := Cut Try.prog 3 (todoOf Try.f3 7) (T_signalboxlaw32_HyperTells_7 a0 b1 l2 n7 t15 t16 t17)
def B_signalboxlaw32_HyperTells (a0 : Int) (b1 : Int) (l2 : Sl) : M Value :=
  mBind (N_signalboxlaw32_fixed) fun r10 =>
  unB r10 fun (x10 : Bool) =>
  mIf (!x10) (
    mRet (.bool false)) (
    mIf (decide ((l2.n : Int) > (60 : Int))) (
      mRet (.bool true)) (
      K_signalboxlaw32_HyperTells_7 a0 b1 l2 (1 : Int) l2 (l2.n : Int) (0 : Int)))
def B_signalboxlaw32_HyperTells_7 (a0 : Int) (b1 : Int) (l2 : Sl) (n7 : Int) (t15 : Sl) (t16 : Int) (t17 : Int) : M Value :=
  mIf (decide (t17 < t16)) (
    mIdx t15 t17 1 fun (x19 : Addr) =>
    mLdI .u64 x19 fun (x20 : Int) =>
    mIf ((n7 != (18446744073709551615 : Int)) || (x20 == (0 : Int))) (
      mBind (N_signalboxref32_Lcm n7 x20) fun r29 =>
      unI .u64 r29 fun (x29 : Int) =>
      K_signalboxlaw32_HyperTells_7 a0 b1 l2 x29 t15 t16 (IntKind.i64.wrap (t17 + (1 : Int)))) (
      K_signalboxlaw32_HyperTells_7 a0 b1 l2 n7 t15 t16 (IntKind.i64.wrap (t17 + (1 : Int))))) (
    mBind (N_hyper_Gcd a0 b1) fun r33 =>
    unI .u64 r33 fun (x33 : Int) =>
    mBind (N_signalboxref32_Gcd a0 b1) fun r36 =>
    unI .u64 r36 fun (x36 : Int) =>
    mBind (mIf (x33 == x36) (mBind (N_hyper_Lcm a0 b1) fun r41 =>
      unI .u64 r41 fun (x41 : Int) =>
      mBind (N_signalboxref32_Lcm a0 b1) fun r44 =>
      unI .u64 r44 fun (x44 : Int) =>
      mRet (x41 == x44)) (mRet false)) fun (b9 : Bool) =>
    mBind (mIf b9 (mBind (N_hyper_All l2) fun r49 =>
      unI .u64 r49 fun (x49 : Int) =>
      mRet (x49 == n7)) (mRet false)) fun (b11 : Bool) =>
    mRet (.bool b11))
theorem E_signalboxlaw32_HyperTells (a0 : Int) (b1 : Int) (l2 : Sl) : ev Try.prog 3 Try.f3.results.toList C_signalboxlaw32_HyperTells D_signalboxlaw32_HyperTells 400 false [.code (bodyOf Try.f3)] (List.map some [.int .u64 a0, .int .u64 b1, .slice l2.p l2.n l2.c] ++ List.replicate (Try.f3.ntmps - List.length ([.int .u64 a0, .int .u64 b1, .slice l2.p l2.n l2.c] : List Value)) none) = B_signalboxlaw32_HyperTells a0 b1 l2 := by kernel_rfl
theorem S_signalboxlaw32_HyperTells (a0 : Int) (b1 : Int) (l2 : Sl) {h : Hp} {Q : Value → Hp → Prop} (hb : B_signalboxlaw32_HyperTells a0 b1 l2 h Q) : N_signalboxlaw32_HyperTells a0 b1 l2 h Q :=
  Nf.of_ev Try.call3 Try.func3 (c := bodyOf Try.f3) rfl mixed C_signalboxlaw32_HyperTells D_signalboxlaw32_HyperTells 400 (args := [.int .u64 a0, .int .u64 b1, .slice l2.p l2.n l2.c]) (by rw [E_signalboxlaw32_HyperTells]; exact hb)
theorem E_signalboxlaw32_HyperTells_7 (a0 : Int) (b1 : Int) (l2 : Sl) (n7 : Int) (t15 : Sl) (t16 : Int) (t17 : Int) : ev Try.prog 3 Try.f3.results.toList C_signalboxlaw32_HyperTells D_signalboxlaw32_HyperTells 400 true (todoOf Try.f3 7) (T_signalboxlaw32_HyperTells_7 a0 b1 l2 n7 t15 t16 t17) = B_signalboxlaw32_HyperTells_7 a0 b1 l2 n7 t15 t16 t17 := by kernel_rfl
theorem S_signalboxlaw32_HyperTells_7 (a0 : Int) (b1 : Int) (l2 : Sl) (n7 : Int) (t15 : Sl) (t16 : Int) (t17 : Int) {h : Hp} {Q : Value → Hp → Prop} (hb : B_signalboxlaw32_HyperTells_7 a0 b1 l2 n7 t15 t16 t17 h Q) : K_signalboxlaw32_HyperTells_7 a0 b1 l2 n7 t15 t16 t17 h Q :=
  Cut.of_ev Try.func3 mixed C_signalboxlaw32_HyperTells D_signalboxlaw32_HyperTells 400 (by rw [E_signalboxlaw32_HyperTells_7]; exact hb)
def C_signalboxlaw32_HyperDivides : List (Nat × List Nat) := []
def D_signalboxlaw32_HyperDivides : List (Nat × List Nat) := []
def B_signalboxlaw32_HyperDivides (a0 : Int) (b1 : Int) : M Value :=
  mBind (N_signalboxlaw32_fixed) fun r9 =>
  unB r9 fun (x9 : Bool) =>
  mIf (!x9) (
    mRet (.bool false)) (
    mBind (N_hyper_Gcd (IntKind.u64.wrap a0) (IntKind.u64.wrap b1)) fun r17 =>
    unI .u64 r17 fun (x17 : Int) =>
    mBind (N_hyper_Lcm (IntKind.u64.wrap a0) (IntKind.u64.wrap b1)) fun r20 =>
    unI .u64 r20 fun (x20 : Int) =>
    mIf ((a0 == (0 : Int)) || (b1 == (0 : Int))) (
      mRet (.bool ((x17 == (IntKind.u64.wrap ((IntKind.u64.wrap a0) + (IntKind.u64.wrap b1)))) && (x20 == (0 : Int))))) (
      mBind (mIf (decide (x17 > (0 : Int))) (mGuard (x17 ≠ 0) <|
        mRet ((Int.tmod (IntKind.u64.wrap a0) x17) == (0 : Int))) (mRet false)) fun (b5 : Bool) =>
      mBind (mIf b5 (mGuard (x17 ≠ 0) <|
        mRet ((Int.tmod (IntKind.u64.wrap b1) x17) == (0 : Int))) (mRet false)) fun (b7 : Bool) =>
      mBind (mIf b7 (mGuard ((IntKind.u64.wrap a0) ≠ 0) <|
        mRet ((Int.tmod x20 (IntKind.u64.wrap a0)) == (0 : Int))) (mRet false)) fun (b9 : Bool) =>
      mBind (mIf b9 (mGuard ((IntKind.u64.wrap b1) ≠ 0) <|
        mRet ((Int.tmod x20 (IntKind.u64.wrap b1)) == (0 : Int))) (mRet false)) fun (b11 : Bool) =>
      mRet (.bool (b11 && ((IntKind.u64.wrap (x17 * x20)) == (IntKind.u64.wrap ((IntKind.u64.wrap a0) * (IntKind.u64.wrap b1))))))))
theorem E_signalboxlaw32_HyperDivides (a0 : Int) (b1 : Int) : ev Try.prog 5 Try.f5.results.toList C_signalboxlaw32_HyperDivides D_signalboxlaw32_HyperDivides 400 false [.code (bodyOf Try.f5)] (List.map some [.int .u32 a0, .int .u32 b1] ++ List.replicate (Try.f5.ntmps - List.length ([.int .u32 a0, .int .u32 b1] : List Value)) none) = B_signalboxlaw32_HyperDivides a0 b1 := by kernel_rfl
theorem S_signalboxlaw32_HyperDivides (a0 : Int) (b1 : Int) {h : Hp} {Q : Value → Hp → Prop} (hb : B_signalboxlaw32_HyperDivides a0 b1 h Q) : N_signalboxlaw32_HyperDivides a0 b1 h Q :=
  Nf.of_ev Try.call5 Try.func5 (c := bodyOf Try.f5) rfl mixed C_signalboxlaw32_HyperDivides D_signalboxlaw32_HyperDivides 400 (args := [.int .u32 a0, .int .u32 b1]) (by rw [E_signalboxlaw32_HyperDivides]; exact hb)
end Go.Proofs.Ytbpnpmknamghkaa
