/- What the functions of this layer come to, as forms of the small logic; written by program. Conditions: none. -/
import Derived.Test.YtkoenpliddhhoaaSbU
import Derived.Test.YtkoenpliddhhoaaChecked
import Derived.KernelRfl
set_option maxRecDepth 100000
namespace Go.Proofs.Ytkoenpliddhhoaa
open Go Go.Sb
theorem mixed : Try.prog.follows .mixedOrders = true := by kernel_rfl
def N_math_bits_Add64 (x0 : Int) (x1 : Int) (x2 : Int) : M Value := Nf Try.prog 74 #[.int .u64 x0, .int .u64 x1, .int .u64 x2]
def N_signalboxlaw01_fixed : M Value := Nf Try.prog 33 #[]
def N_sat_Least (step0g : Nat) (step0f : Array Value) (step0c : Array Value) (from1 : Int) (most2 : Int) : M Value := Nf Try.prog 34 #[.func (.func step0g) step0f step0c, .int .u64 from1, .int .u64 most2]
def N_signalboxlaw01_rise_step (r0_0 : Int) (r0_1 : Int) (x1 : Int) : M Value := Nf Try.prog 35 #[.agg #[.int .u64 r0_0, .int .u64 r0_1], .int .u64 x1]
def N_signalboxref01_Add (a0 : Int) (b1 : Int) : M Value := Nf Try.prog 36 #[.int .u64 a0, .int .u64 b1]
def N_sat_Sum (l0 : Sl) : M Value := Nf Try.prog 37 #[.slice l0.p l0.n l0.c]
def N_sat_Ceil (a0 : Int) (b1 : Int) : M Value := Nf Try.prog 62 #[.int .u64 a0, .int .u64 b1]
def N_sat_Add (a0 : Int) (b1 : Int) : M Value := Nf Try.prog 63 #[.int .u64 a0, .int .u64 b1]
def N_sat_Mul (a0 : Int) (b1 : Int) : M Value := Nf Try.prog 64 #[.int .u64 a0, .int .u64 b1]
def N_sat_Sub (a0 : Int) (b1 : Int) : M Value := Nf Try.prog 65 #[.int .u64 a0, .int .u64 b1]
def N_sat_Of (n0 : Int) : M Value := Nf Try.prog 66 #[.int .i64 n0]
def N_math_bits_Mul64 (x0 : Int) (y1 : Int) : M Value := Nf Try.prog 75 #[.int .u64 x0, .int .u64 y1]
def N_signalboxlaw01_SatLeast (from0 : Int) (by1 : Int) (most2 : Int) (bound3 : Int) : M Value := Nf Try.prog 9 #[.int .u64 from0, .int .u64 by1, .int .u64 most2, .int .u64 bound3]
def N_signalboxlaw01_SatSums (l0 : Sl) : M Value := Nf Try.prog 10 #[.slice l0.p l0.n l0.c]

def C_signalboxlaw01_fixed : List (Nat × List Nat) := []
def D_signalboxlaw01_fixed : List (Nat × List Nat) := []
def B_signalboxlaw01_fixed : M Value :=
  mBind (N_sat_Least (35) (#[.agg #[.int .u64 (3 : Int), .int .u64 (10 : Int)]]) (#[]) (1 : Int) (20 : Int)) fun r8 =>
  un2 (unI .u64) unB r8 fun (x8_0 : Int) (x8_1 : Bool) =>
  mBind (N_sat_Least (35) (#[.agg #[.int .u64 (3 : Int), .int .u64 (30 : Int)]]) (#[]) (1 : Int) (20 : Int)) fun r14 =>
  un2 (unI .u64) unB r14 fun (x14_0 : Int) (x14_1 : Bool) =>
  mBind (N_sat_Ceil (7 : Int) (2 : Int)) fun r17 =>
  unI .u64 r17 fun (x17 : Int) =>
  mBind (mIf (x17 == (4 : Int)) (mBind (N_sat_Add (9223372036854775808 : Int) (9223372036854775808 : Int)) fun r20 =>
    unI .u64 r20 fun (x20 : Int) =>
    mRet (x20 == (18446744073709551615 : Int))) (mRet false)) fun (b5 : Bool) =>
  mBind (mIf b5 (mBind (N_sat_Mul (1099511627776 : Int) (1099511627776 : Int)) fun r24 =>
    unI .u64 r24 fun (x24 : Int) =>
    mRet (x24 == (18446744073709551615 : Int))) (mRet false)) fun (b7 : Bool) =>
  mBind (mIf b7 (mBind (N_sat_Sub (3 : Int) (5 : Int)) fun r28 =>
    unI .u64 r28 fun (x28 : Int) =>
    mRet (x28 == (0 : Int))) (mRet false)) fun (b9 : Bool) =>
  mBind (mIf b9 (mBind (N_sat_Of (-4 : Int)) fun r32 =>
    unI .u64 r32 fun (x32 : Int) =>
    mRet (x32 == (0 : Int))) (mRet false)) fun (b11 : Bool) =>
  mRet (.bool ((((b11 && x8_1) && (x8_0 == (10 : Int))) && (!x14_1)) && (x14_0 == (18446744073709551615 : Int))))
theorem E_signalboxlaw01_fixed : ev Try.prog 33 Try.f33.results.toList C_signalboxlaw01_fixed D_signalboxlaw01_fixed 400 false [.code (bodyOf Try.f33)] (List.map some [] ++ List.replicate (Try.f33.ntmps - List.length ([] : List Value)) none) = B_signalboxlaw01_fixed := by kernel_rfl
theorem S_signalboxlaw01_fixed {h : Hp} {Q : Value → Hp → Prop} (hb : B_signalboxlaw01_fixed h Q) : N_signalboxlaw01_fixed h Q :=
  Nf.of_ev Try.call33 Try.func33 (c := bodyOf Try.f33) rfl mixed C_signalboxlaw01_fixed D_signalboxlaw01_fixed 400 (args := []) (by rw [E_signalboxlaw01_fixed]; exact hb)
def C_sat_Least : List (Nat × List Nat) := [(3, [0, 2, 8, 11])]
def D_sat_Least : List (Nat × List Nat) := []
def T_sat_Least_3 (step0g : Nat) (step0f : Array Value) (step0c : Array Value) (most2 : Int) (x8 : Int) (t11 : Int) : Env := mkEnv [(0, .func (.func step0g) step0f step0c), (2, .int .u64 most2), (8, .int .u64 x8), (11, .int .i64 t11)] 25 0
def K_sat_Least_3 (step0g : Nat) (step0f : Array Value) (step0c : Array Value) (most2 : Int) (x8 : Int) (t11 : Int) : M Value := Cut Try.prog 34 (todoOf Try.f34 3) (T_sat_Least_3 step0g step0f step0c most2 x8 t11)
def B_sat_Least (step0g : Nat) (step0f : Array Value) (step0c : Array Value) (from1 : Int) (most2 : Int) : M Value :=
  K_sat_Least_3 step0g step0f step0c most2 from1 (0 : Int)
def B_sat_Least_3 (step0g : Nat) (step0f : Array Value) (step0c : Array Value) (most2 : Int) (x8 : Int) (t11 : Int) : M Value :=
  mIf (decide (t11 < (1048576 : Int))) (
    mIf (decide (x8 > most2)) (
      mRet (.tuple #[.int .u64 (18446744073709551615 : Int), .bool false])) (
      mBind (Nf Try.prog step0g (step0f ++ #[.int .u64 x8] ++ step0c)) fun r18 =>
      unI .u64 r18 fun (x18 : Int) =>
      mIf (decide (x18 ≤ x8)) (
        mRet (.tuple #[.int .u64 x8, .bool true])) (
        K_sat_Least_3 step0g step0f step0c most2 x18 (IntKind.i64.wrap (t11 + (1 : Int)))))) (
    mRet (.tuple #[.int .u64 (18446744073709551615 : Int), .bool false]))
theorem E_sat_Least (step0g : Nat) (step0f : Array Value) (step0c : Array Value) (from1 : Int) (most2 : Int) : ev Try.prog 34 Try.f34.results.toList C_sat_Least D_sat_Least 400 false [.code (bodyOf Try.f34)] (List.map some [.func (.func step0g) step0f step0c, .int .u64 from1, .int .u64 most2] ++ List.replicate (Try.f34.ntmps - List.length ([.func (.func step0g) step0f step0c, .int .u64 from1, .int .u64 most2] : List Value)) none) = B_sat_Least step0g step0f step0c from1 most2 := by kernel_rfl
theorem S_sat_Least (step0g : Nat) (step0f : Array Value) (step0c : Array Value) (from1 : Int) (most2 : Int) {h : Hp} {Q : Value → Hp → Prop} (hb : B_sat_Least step0g step0f step0c from1 most2 h Q) : N_sat_Least step0g step0f step0c from1 most2 h Q :=
  Nf.of_ev Try.call34 Try.func34 (c := bodyOf Try.f34) rfl mixed C_sat_Least D_sat_Least 400 (args := [.func (.func step0g) step0f step0c, .int .u64 from1, .int .u64 most2]) (by rw [E_sat_Least]; exact hb)
theorem E_sat_Least_3 (step0g : Nat) (step0f : Array Value) (step0c : Array Value) (most2 : Int) (x8 : Int) (t11 : Int) : ev Try.prog 34 Try.f34.results.toList C_sat_Least D_sat_Least 400 true (todoOf Try.f34 3) (T_sat_Least_3 step0g step0f step0c most2 x8 t11) = B_sat_Least_3 step0g step0f step0c most2 x8 t11 := by kernel_rfl
theorem S_sat_Least_3 (step0g : Nat) (step0f : Array Value) (step0c : Array Value) (most2 : Int) (x8 : Int) (t11 : Int) {h : Hp} {Q : Value → Hp → Prop} (hb : B_sat_Least_3 step0g step0f step0c most2 x8 t11 h Q) : K_sat_Least_3 step0g step0f step0c most2 x8 t11 h Q :=
  Cut.of_ev Try.func34 mixed C_sat_Least D_sat_Least 400 (by rw [E_sat_Least_3]; exact hb)
def C_signalboxlaw01_rise_step : List (Nat × List Nat) := []
def D_signalboxlaw01_rise_step : List (Nat × List Nat) := []
def B_signalboxlaw01_rise_step (r0_0 : Int) (r0_1 : Int) (x1 : Int) : M Value :=
  mNew #[.int .u64 r0_0, .int .u64 r0_1] 82 fun (x2 : Addr) =>
  mLdI .u64 (x2.add 1) fun (x7 : Int) =>
  mIf (decide (x1 ≥ x7)) (
    mRet (.int .u64 x1)) (
    mLdI .u64 x2 fun (x12 : Int) =>
    mQ (N_signalboxref01_Add x1 x12) fun r13 =>
    unI .u64 r13 fun (x13 : Int) =>
    mLdI .u64 (x2.add 1) fun (x15 : Int) =>
    mRet (.int .u64 (if x15 < x13 then x15 else x13)))
theorem E_signalboxlaw01_rise_step (r0_0 : Int) (r0_1 : Int) (x1 : Int) : ev Try.prog 35 Try.f35.results.toList C_signalboxlaw01_rise_step D_signalboxlaw01_rise_step 400 false [.code (bodyOf Try.f35)] (List.map some [.agg #[.int .u64 r0_0, .int .u64 r0_1], .int .u64 x1] ++ List.replicate (Try.f35.ntmps - List.length ([.agg #[.int .u64 r0_0, .int .u64 r0_1], .int .u64 x1] : List Value)) none) = B_signalboxlaw01_rise_step r0_0 r0_1 x1 := by kernel_rfl
theorem S_signalboxlaw01_rise_step (r0_0 : Int) (r0_1 : Int) (x1 : Int) {h : Hp} {Q : Value → Hp → Prop} (hb : B_signalboxlaw01_rise_step r0_0 r0_1 x1 h Q) : N_signalboxlaw01_rise_step r0_0 r0_1 x1 h Q :=
  Nf.of_ev Try.call35 Try.func35 (c := bodyOf Try.f35) rfl mixed C_signalboxlaw01_rise_step D_signalboxlaw01_rise_step 400 (args := [.agg #[.int .u64 r0_0, .int .u64 r0_1], .int .u64 x1]) (by rw [E_signalboxlaw01_rise_step]; exact hb)
def C_signalboxref01_Add : List (Nat × List Nat) := []
def D_signalboxref01_Add : List (Nat × List Nat) := []
def B_signalboxref01_Add (a0 : Int) (b1 : Int) : M Value :=
  mIf (decide (a0 > (IntKind.u64.wrap ((18446744073709551615 : Int) - b1)))) (
    mRet (.int .u64 (18446744073709551615 : Int))) (
    mRet (.int .u64 (IntKind.u64.wrap (a0 + b1))))
theorem E_signalboxref01_Add (a0 : Int) (b1 : Int) : ev Try.prog 36 Try.f36.results.toList C_signalboxref01_Add D_signalboxref01_Add 400 false [.code (bodyOf Try.f36)] (List.map some [.int .u64 a0, .int .u64 b1] ++ List.replicate (Try.f36.ntmps - List.length ([.int .u64 a0, .int .u64 b1] : List Value)) none) = B_signalboxref01_Add a0 b1 := by kernel_rfl
theorem S_signalboxref01_Add (a0 : Int) (b1 : Int) {h : Hp} {Q : Value → Hp → Prop} (hb : B_signalboxref01_Add a0 b1 h Q) : N_signalboxref01_Add a0 b1 h Q :=
  Nf.of_ev Try.call36 Try.func36 (c := bodyOf Try.f36) rfl mixed C_signalboxref01_Add D_signalboxref01_Add 400 (args := [.int .u64 a0, .int .u64 b1]) (by rw [E_signalboxref01_Add]; exact hb)
def C_sat_Sum : List (Nat × List Nat) := [(3, [3, 6, 7, 8])]
def D_sat_Sum : List (Nat × List Nat) := []
def T_sat_Sum_3 (n3 : Int) (t6 : Sl) (t7 : Int) (t8 : Int) : Env := mkEnv [(3, .int .u64 n3), (6, .slice t6.p t6.n t6.c), (7, .int .i64 t7), (8, .int .i64 t8)] 17 0
def K_sat_Sum_3 (n3 : Int) (t6 : Sl) (t7 : Int) (t8 : Int) : M Value := Cut Try.prog 37 (todoOf Try.f37 3) (T_sat_Sum_3 n3 t6 t7 t8)
def B_sat_Sum (l0 : Sl) : M Value :=
  K_sat_Sum_3 (0 : Int) l0 (l0.n : Int) (0 : Int)
def B_sat_Sum_3 (n3 : Int) (t6 : Sl) (t7 : Int) (t8 : Int) : M Value :=
  mIf (decide (t8 < t7)) (
    mIdx t6 t8 1 fun (x10 : Addr) =>
    mLdI .u64 x10 fun (x11 : Int) =>
    mBind (N_sat_Add n3 x11) fun r14 =>
    unI .u64 r14 fun (x14 : Int) =>
    K_sat_Sum_3 x14 t6 t7 (IntKind.i64.wrap (t8 + (1 : Int)))) (
    mRet (.int .u64 n3))
theorem E_sat_Sum (l0 : Sl) : ev Try.prog 37 Try.f37.results.toList C_sat_Sum D_sat_Sum 400 false [.code (bodyOf Try.f37)] (List.map some [.slice l0.p l0.n l0.c] ++ List.replicate (Try.f37.ntmps - List.length ([.slice l0.p l0.n l0.c] : List Value)) none) = B_sat_Sum l0 := by kernel_rfl
theorem S_sat_Sum (l0 : Sl) {h : Hp} {Q : Value → Hp → Prop} (hb : B_sat_Sum l0 h Q) : N_sat_Sum l0 h Q :=
  Nf.of_ev Try.call37 Try.func37 (c := bodyOf Try.f37) rfl mixed C_sat_Sum D_sat_Sum 400 (args := [.slice l0.p l0.n l0.c]) (by rw [E_sat_Sum]; exact hb)
theorem E_sat_Sum_3 (n3 : Int) (t6 : Sl) (t7 : Int) (t8 : Int) : ev Try.prog 37 Try.f37.results.toList C_sat_Sum D_sat_Sum 400 true (todoOf Try.f37 3) (T_sat_Sum_3 n3 t6 t7 t8) = B_sat_Sum_3 n3 t6 t7 t8 := by kernel_rfl
theorem S_sat_Sum_3 (n3 : Int) (t6 : Sl) (t7 : Int) (t8 : Int) {h : Hp} {Q : Value → Hp → Prop} (hb : B_sat_Sum_3 n3 t6 t7 t8 h Q) : K_sat_Sum_3 n3 t6 t7 t8 h Q :=
  Cut.of_ev Try.func37 mixed C_sat_Sum D_sat_Sum 400 (by rw [E_sat_Sum_3]; exact hb)
def C_sat_Ceil : List (Nat × List Nat) := []
def D_sat_Ceil : List (Nat × List Nat) := []
def B_sat_Ceil (a0 : Int) (b1 : Int) : M Value :=
  mIf (a0 == (0 : Int)) (
    mRet (.int .u64 (0 : Int))) (
    mIf ((b1 == (0 : Int)) || (a0 == (18446744073709551615 : Int))) (
      mRet (.int .u64 (18446744073709551615 : Int))) (
      mGuard (b1 ≠ 0) <|
      mRet (.int .u64 (IntKind.u64.wrap ((IntKind.u64.wrap (Int.tdiv (IntKind.u64.wrap (a0 - (1 : Int))) b1)) + (1 : Int))))))
theorem E_sat_Ceil (a0 : Int) (b1 : Int) : ev Try.prog 62 Try.f62.results.toList C_sat_Ceil D_sat_Ceil 400 false [.code (bodyOf Try.f62)] (List.map some [.int .u64 a0, .int .u64 b1] ++ List.replicate (Try.f62.ntmps - List.length ([.int .u64 a0, .int .u64 b1] : List Value)) none) = B_sat_Ceil a0 b1 := by kernel_rfl
theorem S_sat_Ceil (a0 : Int) (b1 : Int) {h : Hp} {Q : Value → Hp → Prop} (hb : B_sat_Ceil a0 b1 h Q) : N_sat_Ceil a0 b1 h Q :=
  Nf.of_ev Try.call62 Try.func62 (c := bodyOf Try.f62) rfl mixed C_sat_Ceil D_sat_Ceil 400 (args := [.int .u64 a0, .int .u64 b1]) (by rw [E_sat_Ceil]; exact hb)
def C_sat_Add : List (Nat × List Nat) := []
def D_sat_Add : List (Nat × List Nat) := []
def B_sat_Add (a0 : Int) (b1 : Int) : M Value :=
  mBind (N_math_bits_Add64 a0 b1 (0 : Int)) fun r10 =>
  un2 (unI .u64) (unI .u64) r10 fun (x10_0 : Int) (x10_1 : Int) =>
  mIf (decide (x10_1 > (0 : Int))) (
    mRet (.int .u64 (18446744073709551615 : Int))) (
    mRet (.int .u64 x10_0))
theorem E_sat_Add (a0 : Int) (b1 : Int) : ev Try.prog 63 Try.f63.results.toList C_sat_Add D_sat_Add 400 false [.code (bodyOf Try.f63)] (List.map some [.int .u64 a0, .int .u64 b1] ++ List.replicate (Try.f63.ntmps - List.length ([.int .u64 a0, .int .u64 b1] : List Value)) none) = B_sat_Add a0 b1 := by kernel_rfl
theorem S_sat_Add (a0 : Int) (b1 : Int) {h : Hp} {Q : Value → Hp → Prop} (hb : B_sat_Add a0 b1 h Q) : N_sat_Add a0 b1 h Q :=
  Nf.of_ev Try.call63 Try.func63 (c := bodyOf Try.f63) rfl mixed C_sat_Add D_sat_Add 400 (args := [.int .u64 a0, .int .u64 b1]) (by rw [E_sat_Add]; exact hb)
def C_sat_Mul : List (Nat × List Nat) := []
def D_sat_Mul : List (Nat × List Nat) := []
def B_sat_Mul (a0 : Int) (b1 : Int) : M Value :=
  mBind (N_math_bits_Mul64 a0 b1) fun r10 =>
  un2 (unI .u64) (unI .u64) r10 fun (x10_0 : Int) (x10_1 : Int) =>
  mIf (decide (x10_0 > (0 : Int))) (
    mRet (.int .u64 (18446744073709551615 : Int))) (
    mRet (.int .u64 x10_1))
theorem E_sat_Mul (a0 : Int) (b1 : Int) : ev Try.prog 64 Try.f64.results.toList C_sat_Mul D_sat_Mul 400 false [.code (bodyOf Try.f64)] (List.map some [.int .u64 a0, .int .u64 b1] ++ List.replicate (Try.f64.ntmps - List.length ([.int .u64 a0, .int .u64 b1] : List Value)) none) = B_sat_Mul a0 b1 := by kernel_rfl
theorem S_sat_Mul (a0 : Int) (b1 : Int) {h : Hp} {Q : Value → Hp → Prop} (hb : B_sat_Mul a0 b1 h Q) : N_sat_Mul a0 b1 h Q :=
  Nf.of_ev Try.call64 Try.func64 (c := bodyOf Try.f64) rfl mixed C_sat_Mul D_sat_Mul 400 (args := [.int .u64 a0, .int .u64 b1]) (by rw [E_sat_Mul]; exact hb)
def C_sat_Sub : List (Nat × List Nat) := []
def D_sat_Sub : List (Nat × List Nat) := []
def B_sat_Sub (a0 : Int) (b1 : Int) : M Value :=
  mIf (decide (b1 ≥ a0)) (
    mRet (.int .u64 (0 : Int))) (
    mIf (a0 == (18446744073709551615 : Int)) (
      mRet (.int .u64 a0)) (
      mRet (.int .u64 (IntKind.u64.wrap (a0 - b1)))))
theorem E_sat_Sub (a0 : Int) (b1 : Int) : ev Try.prog 65 Try.f65.results.toList C_sat_Sub D_sat_Sub 400 false [.code (bodyOf Try.f65)] (List.map some [.int .u64 a0, .int .u64 b1] ++ List.replicate (Try.f65.ntmps - List.length ([.int .u64 a0, .int .u64 b1] : List Value)) none) = B_sat_Sub a0 b1 := by kernel_rfl
theorem S_sat_Sub (a0 : Int) (b1 : Int) {h : Hp} {Q : Value → Hp → Prop} (hb : B_sat_Sub a0 b1 h Q) : N_sat_Sub a0 b1 h Q :=
  Nf.of_ev Try.call65 Try.func65 (c := bodyOf Try.f65) rfl mixed C_sat_Sub D_sat_Sub 400 (args := [.int .u64 a0, .int .u64 b1]) (by rw [E_sat_Sub]; exact hb)
def C_sat_Of : List (Nat × List Nat) := []
def D_sat_Of : List (Nat × List Nat) := []
def B_sat_Of (n0 : Int) : M Value :=
  mRet (.int .u64 (IntKind.u64.wrap (if (0 : Int) > n0 then (0 : Int) else n0)))
theorem E_sat_Of (n0 : Int) : ev Try.prog 66 Try.f66.results.toList C_sat_Of D_sat_Of 400 false [.code (bodyOf Try.f66)] (List.map some [.int .i64 n0] ++ List.replicate (Try.f66.ntmps - List.length ([.int .i64 n0] : List Value)) none) = B_sat_Of n0 := by kernel_rfl
theorem S_sat_Of (n0 : Int) {h : Hp} {Q : Value → Hp → Prop} (hb : B_sat_Of n0 h Q) : N_sat_Of n0 h Q :=
  Nf.of_ev Try.call66 Try.func66 (c := bodyOf Try.f66) rfl mixed C_sat_Of D_sat_Of 400 (args := [.int .i64 n0]) (by rw [E_sat_Of]; exact hb)
def C_math_bits_Mul64 : List (Nat × List Nat) := []
def D_math_bits_Mul64 : List (Nat × List Nat) := []
def B_math_bits_Mul64 (x0 : Int) (y1 : Int) : M Value :=
  mGuard (0 ≤ (32 : Int)) <|
  mGuard (0 ≤ (32 : Int)) <|
  mGuard (0 ≤ (32 : Int)) <|
  mGuard (0 ≤ (32 : Int)) <|
  mGuard (0 ≤ (32 : Int)) <|
  mRet (.tuple #[.int .u64 (IntKind.u64.wrap ((IntKind.u64.wrap ((IntKind.u64.wrap ((ishr .u64 x0 (32 : Int)) * (ishr .u64 y1 (32 : Int)))) + (ishr .u64 (IntKind.u64.wrap ((IntKind.u64.wrap ((ishr .u64 x0 (32 : Int)) * (iand .u64 y1 (4294967295 : Int)))) + (ishr .u64 (IntKind.u64.wrap ((iand .u64 x0 (4294967295 : Int)) * (iand .u64 y1 (4294967295 : Int)))) (32 : Int)))) (32 : Int)))) + (ishr .u64 (IntKind.u64.wrap ((iand .u64 (IntKind.u64.wrap ((IntKind.u64.wrap ((ishr .u64 x0 (32 : Int)) * (iand .u64 y1 (4294967295 : Int)))) + (ishr .u64 (IntKind.u64.wrap ((iand .u64 x0 (4294967295 : Int)) * (iand .u64 y1 (4294967295 : Int)))) (32 : Int)))) (4294967295 : Int)) + (IntKind.u64.wrap ((iand .u64 x0 (4294967295 : Int)) * (ishr .u64 y1 (32 : Int)))))) (32 : Int)))), .int .u64 (IntKind.u64.wrap (x0 * y1))])
theorem E_math_bits_Mul64 (x0 : Int) (y1 : Int) : ev Try.prog 75 Try.f75.results.toList C_math_bits_Mul64 D_math_bits_Mul64 400 false [.code (bodyOf Try.f75)] (List.map some [.int .u64 x0, .int .u64 y1] ++ List.replicate (Try.f75.ntmps - List.length ([.int .u64 x0, .int .u64 y1] : List Value)) none) = B_math_bits_Mul64 x0 y1 := by kernel_rfl
theorem S_math_bits_Mul64 (x0 : Int) (y1 : Int) {h : Hp} {Q : Value → Hp → Prop} (hb : B_math_bits_Mul64 x0 y1 h Q) : N_math_bits_Mul64 x0 y1 h Q :=
  Nf.of_ev Try.call75 Try.func75 (c := bodyOf Try.f75) rfl mixed C_math_bits_Mul64 D_math_bits_Mul64 400 (args := [.int .u64 x0, .int .u64 y1]) (by rw [E_math_bits_Mul64]; exact hb)
def C_signalboxlaw01_SatLeast : List (Nat × List Nat) := [(5, [0, 1, 2, 3])]
def D_signalboxlaw01_SatLeast : List (Nat × List Nat) := []
def T_signalboxlaw01_SatLeast_5 (from0 : Int) (by1 : Int) (most2 : Int) (bound3 : Int) : Env := mkEnv [(0, .int .u64 from0), (1, .int .u64 by1), (2, .int .u64 most2), (3, .int .u64 bound3)] 53 0
def K_signalboxlaw01_SatLeast_5 (from0 : Int) (by1 : Int) (most2 : Int) (bound3 : Int) : M Value := Cut Try.prog 9 (todoOf Try.f9 5) (T_signalboxlaw01_SatLeast_5 from0 by1 most2 bound3)
def B_signalboxlaw01_SatLeast (from0 : Int) (by1 : Int) (most2 : Int) (bound3 : Int) : M Value :=
  mBind (N_signalboxlaw01_fixed) fun r11 =>
  unB r11 fun (x11 : Bool) =>
  mIf (!x11) (
    mRet (.bool false)) (
    mIf ((by1 == (0 : Int)) || (decide (from0 > most2))) (
      K_signalboxlaw01_SatLeast_5 (0 : Int) (if (1 : Int) > by1 then (1 : Int) else by1) most2 bound3) (
      K_signalboxlaw01_SatLeast_5 from0 by1 most2 bound3))
def B_signalboxlaw01_SatLeast_5 (from0 : Int) (by1 : Int) (most2 : Int) (bound3 : Int) : M Value :=
  mGuard (by1 ≠ 0) <|
  mIf (decide ((IntKind.u64.wrap (Int.tdiv (IntKind.u64.wrap (most2 - from0)) by1)) > (2000 : Int))) (
    mRet (.bool true)) (
    mBind (N_sat_Least (35) (#[.agg #[.int .u64 by1, .int .u64 most2]]) (#[]) from0 bound3) fun r35 =>
    un2 (unI .u64) unB r35 fun (x35_0 : Int) (x35_1 : Bool) =>
    mIf (decide (most2 > bound3)) (
      mRet (.bool ((!x35_1) && (x35_0 == (18446744073709551615 : Int))))) (
      mRet (.bool (x35_1 && (x35_0 == most2)))))
theorem E_signalboxlaw01_SatLeast (from0 : Int) (by1 : Int) (most2 : Int) (bound3 : Int) : ev Try.prog 9 Try.f9.results.toList C_signalboxlaw01_SatLeast D_signalboxlaw01_SatLeast 400 false [.code (bodyOf Try.f9)] (List.map some [.int .u64 from0, .int .u64 by1, .int .u64 most2, .int .u64 bound3] ++ List.replicate (Try.f9.ntmps - List.length ([.int .u64 from0, .int .u64 by1, .int .u64 most2, .int .u64 bound3] : List Value)) none) = B_signalboxlaw01_SatLeast from0 by1 most2 bound3 := by kernel_rfl
theorem S_signalboxlaw01_SatLeast (from0 : Int) (by1 : Int) (most2 : Int) (bound3 : Int) {h : Hp} {Q : Value → Hp → Prop} (hb : B_signalboxlaw01_SatLeast from0 by1 most2 bound3 h Q) : N_signalboxlaw01_SatLeast from0 by1 most2 bound3 h Q :=
  Nf.of_ev Try.call9 Try.func9 (c := bodyOf Try.f9) rfl mixed C_signalboxlaw01_SatLeast D_signalboxlaw01_SatLeast 400 (args := [.int .u64 from0, .int .u64 by1, .int .u64 most2, .int .u64 bound3]) (by rw [E_signalboxlaw01_SatLeast]; exact hb)
theorem E_signalboxlaw01_SatLeast_5 (from0 : Int) (by1 : Int) (most2 : Int) (bound3 : Int) : ev Try.prog 9 Try.f9.results.toList C_signalboxlaw01_SatLeast D_signalboxlaw01_SatLeast 400 true (todoOf Try.f9 5) (T_signalboxlaw01_SatLeast_5 from0 by1 most2 bound3) = B_signalboxlaw01_SatLeast_5 from0 by1 most2 bound3 := by kernel_rfl
theorem S_signalboxlaw01_SatLeast_5 (from0 : Int) (by1 : Int) (most2 : Int) (bound3 : Int) {h : Hp} {Q : Value → Hp → Prop} (hb : B_signalboxlaw01_SatLeast_5 from0 by1 most2 bound3 h Q) : K_signalboxlaw01_SatLeast_5 from0 by1 most2 bound3 h Q :=
  Cut.of_ev Try.func9 mixed C_signalboxlaw01_SatLeast D_signalboxlaw01_SatLeast 400 (by rw [E_signalboxlaw01_SatLeast_5]; exact hb)
def C_signalboxlaw01_SatSums : List (Nat × List Nat) := [(7, [0, 3, 11, 12, 13])]
def D_signalboxlaw01_SatSums : List (Nat × List Nat) := []
def T_signalboxlaw01_SatSums_7 (l0 : Sl) (n3 : Int) (t11 : Sl) (t12 : Int) (t13 : Int) : Env := mkEnv [(0, .slice l0.p l0.n l0.c), (3, .int .u64 n3), (11, .slice t11.p t11.n t11.c), (12, .int .i64 t12), (13, .int .i64 t13)] 25 0
def K_signalboxlaw01_SatSums_7 (l0 : Sl) (n3 : Int) (t11 : Sl) (t12 : Int) (t13 : Int) : M Value := Cut Try.prog 10 (todoOf Try.f10 7) (T_signalboxlaw01_SatSums_7 l0 n3 t11 t12 t13)
def B_signalboxlaw01_SatSums (l0 : Sl) : M Value :=
  mBind (N_signalboxlaw01_fixed) fun r6 =>
  unB r6 fun (x6 : Bool) =>
  mIf (!x6) (
    mRet (.bool false)) (
    mIf (decide ((l0.n : Int) > (200 : Int))) (
      mRet (.bool true)) (
      K_signalboxlaw01_SatSums_7 l0 (0 : Int) l0 (l0.n : Int) (0 : Int)))
def B_signalboxlaw01_SatSums_7 (l0 : Sl) (n3 : Int) (t11 : Sl) (t12 : Int) (t13 : Int) : M Value :=
  mIf (decide (t13 < t12)) (
    mIdx t11 t13 1 fun (x15 : Addr) =>
    mLdI .u64 x15 fun (x16 : Int) =>
    mBind (N_signalboxref01_Add n3 x16) fun r19 =>
    unI .u64 r19 fun (x19 : Int) =>
    K_signalboxlaw01_SatSums_7 l0 x19 t11 t12 (IntKind.i64.wrap (t13 + (1 : Int)))) (
    mBind (N_sat_Sum l0) fun r22 =>
    unI .u64 r22 fun (x22 : Int) =>
    mRet (.bool (x22 == n3)))
theorem E_signalboxlaw01_SatSums (l0 : Sl) : ev Try.prog 10 Try.f10.results.toList C_signalboxlaw01_SatSums D_signalboxlaw01_SatSums 400 false [.code (bodyOf Try.f10)] (List.map some [.slice l0.p l0.n l0.c] ++ List.replicate (Try.f10.ntmps - List.length ([.slice l0.p l0.n l0.c] : List Value)) none) = B_signalboxlaw01_SatSums l0 := by kernel_rfl
theorem S_signalboxlaw01_SatSums (l0 : Sl) {h : Hp} {Q : Value → Hp → Prop} (hb : B_signalboxlaw01_SatSums l0 h Q) : N_signalboxlaw01_SatSums l0 h Q :=
  Nf.of_ev Try.call10 Try.func10 (c := bodyOf Try.f10) rfl mixed C_signalboxlaw01_SatSums D_signalboxlaw01_SatSums 400 (args := [.slice l0.p l0.n l0.c]) (by rw [E_signalboxlaw01_SatSums]; exact hb)
theorem E_signalboxlaw01_SatSums_7 (l0 : Sl) (n3 : Int) (t11 : Sl) (t12 : Int) (t13 : Int) : ev Try.prog 10 Try.f10.results.toList C_signalboxlaw01_SatSums D_signalboxlaw01_SatSums 400 true (todoOf Try.f10 7) (T_signalboxlaw01_SatSums_7 l0 n3 t11 t12 t13) = B_signalboxlaw01_SatSums_7 l0 n3 t11 t12 t13 := by kernel_rfl
theorem S_signalboxlaw01_SatSums_7 (l0 : Sl) (n3 : Int) (t11 : Sl) (t12 : Int) (t13 : Int) {h : Hp} {Q : Value → Hp → Prop} (hb : B_signalboxlaw01_SatSums_7 l0 n3 t11 t12 t13 h Q) : K_signalboxlaw01_SatSums_7 l0 n3 t11 t12 t13 h Q :=
  Cut.of_ev Try.func10 mixed C_signalboxlaw01_SatSums D_signalboxlaw01_SatSums 400 (by rw [E_signalboxlaw01_SatSums_7]; exact hb)
end Go.Proofs.Ytkoenpliddhhoaa
