/- What the functions of this layer come to, as forms of the small logic; written by program. Conditions: none. -/
import Derived.Test.YtkmenmagclojmaaSbU
import Derived.Test.YtkmenmagclojmaaChecked
import Derived.KernelRfl
set_option maxRecDepth 100000
namespace Go.Proofs.Ytkmenmagclojmaa
open Go Go.Sb
theorem mixed : Try.prog.follows .mixedOrders = true := by kernel_rfl
def N_signalboxlaw14_fixed : M Value := Nf Try.prog 28 #[]
def N_lines_New (n0 : Int) : M Value := Nf Try.prog 29 #[.int .i64 n0]
def N_lines_Lines_Mask (l0 : Option Addr) (i1 : Int) : M Value := Nf Try.prog 30 #[.pointer l0, .int .i64 i1]
def N_lines_Lines_Raise (l0 : Option Addr) (i1 : Int) : M Value := Nf Try.prog 31 #[.pointer l0, .int .i64 i1]
def N_lines_Lines_Unmask (l0 : Option Addr) (i1 : Int) : M Value := Nf Try.prog 32 #[.pointer l0, .int .i64 i1]
def N_lines_Lines_Masked (l0 : Option Addr) (i1 : Int) : M Value := Nf Try.prog 39 #[.pointer l0, .int .i64 i1]
def N_lines_Lines_Latched (l0 : Option Addr) (i1 : Int) : M Value := Nf Try.prog 40 #[.pointer l0, .int .i64 i1]
def N_lines_Lines_Len (l0 : Option Addr) : M Value := Nf Try.prog 41 #[.pointer l0]
def N_lines_Lines_at (l0 : Option Addr) (i1 : Int) : M Value := Nf Try.prog 69 #[.pointer l0, .int .i64 i1]
def N_signalboxlaw14_LinesOnce (i0 : Int) (times1 : Int) : M Value := Nf Try.prog 7 #[.int .u8 i0, .int .u8 times1]
def N_signalboxlaw14_LinesPlay (n0 : Int) (l1 : Sl) : M Value := Nf Try.prog 9 #[.int .i64 n0, .slice l1.p l1.n l1.c]
def C_signalboxlaw14_fixed : List (Nat × List Nat) := []
def D_signalboxlaw14_fixed : List (Nat × List Nat) := []
def B_signalboxlaw14_fixed : M Value :=
  mBind (N_lines_New (2 : Int)) fun r13 =>
  unP r13 fun (x13 : Option Addr) =>
  mBind (N_lines_Lines_Raise x13 (1 : Int)) fun r16 =>
  un2 unB (unI .i64) r16 fun (x16_0 : Bool) (x16_1 : Int) =>
  mBind (N_lines_Lines_Mask x13 (1 : Int)) fun r20 =>
  unI .i64 r20 fun (x20 : Int) =>
  mBind (N_lines_Lines_Raise x13 (1 : Int)) fun r23 =>
  un2 unB (unI .i64) r23 fun (x23_0 : Bool) (x23_1 : Int) =>
  mBind (N_lines_Lines_Unmask x13 (1 : Int)) fun r28 =>
  un2 unB (unI .i64) r28 fun (x28_0 : Bool) (x28_1 : Int) =>
  mBind (N_lines_Lines_Unmask x13 (1 : Int)) fun r33 =>
  un2 unB (unI .i64) r33 fun (x33_0 : Bool) (x33_1 : Int) =>
  mBind (N_lines_Lines_Raise x13 (2 : Int)) fun r38 =>
  un2 unB (unI .i64) r38 fun (_x38_0 : Bool) (x38_1 : Int) =>
  mBind (mIf (((((((((x16_0 && (x16_1 == (0 : Int))) && (x20 == (0 : Int))) && (!x23_0)) && (x23_1 == (0 : Int))) && x28_0) && (x28_1 == (0 : Int))) && (!x33_0)) && (x33_1 == (0 : Int))) && (x38_1 == (6 : Int))) (mBind (N_lines_Lines_Len x13) fun r79 =>
    unI .i64 r79 fun (x79 : Int) =>
    mRet (x79 == (2 : Int))) (mRet false)) fun (b9 : Bool) =>
  mRet (.bool b9)
theorem E_signalboxlaw14_fixed : ev Try.prog 28 Try.f28.results.toList C_signalboxlaw14_fixed D_signalboxlaw14_fixed 400 false [.code (bodyOf Try.f28)] (List.map some [] ++ List.replicate (Try.f28.ntmps - List.length ([] : List Value)) none) = B_signalboxlaw14_fixed := by kernel_rfl
theorem S_signalboxlaw14_fixed {h : Hp} {Q : Value → Hp → Prop} (hb : B_signalboxlaw14_fixed h Q) : N_signalboxlaw14_fixed h Q :=
  Nf.of_ev Try.call28 Try.func28 (c := bodyOf Try.f28) rfl mixed C_signalboxlaw14_fixed D_signalboxlaw14_fixed 400 (args := []) (by rw [E_signalboxlaw14_fixed]; exact hb)
def C_lines_New : List (Nat × List Nat) := []
def D_lines_New : List (Nat × List Nat) := []
def B_lines_New (n0 : Int) : M Value :=
  mMake 117 2 #[.bool false, .bool false] (if (8 : Int) < (if (0 : Int) > n0 then (0 : Int) else n0) then (8 : Int) else (if (0 : Int) > n0 then (0 : Int) else n0)) (if (8 : Int) < (if (0 : Int) > n0 then (0 : Int) else n0) then (8 : Int) else (if (0 : Int) > n0 then (0 : Int) else n0)) fun (x6 : Sl) =>
  mNew #[.slice x6.p x6.n x6.c] 113 fun (x8 : Addr) =>
  mRet (.pointer (some x8))
theorem E_lines_New (n0 : Int) : ev Try.prog 29 Try.f29.results.toList C_lines_New D_lines_New 400 false [.code (bodyOf Try.f29)] (List.map some [.int .i64 n0] ++ List.replicate (Try.f29.ntmps - List.length ([.int .i64 n0] : List Value)) none) = B_lines_New n0 := by kernel_rfl
theorem S_lines_New (n0 : Int) {h : Hp} {Q : Value → Hp → Prop} (hb : B_lines_New n0 h Q) : N_lines_New n0 h Q :=
  Nf.of_ev Try.call29 Try.func29 (c := bodyOf Try.f29) rfl mixed C_lines_New D_lines_New 400 (args := [.int .i64 n0]) (by rw [E_lines_New]; exact hb)
def C_lines_Lines_Mask : List (Nat × List Nat) := []
def D_lines_Lines_Mask : List (Nat × List Nat) := []
def B_lines_Lines_Mask (l0 : Option Addr) (i1 : Int) : M Value :=
  mBind (N_lines_Lines_at l0 i1) fun r8 =>
  unP r8 fun (x8 : Option Addr) =>
  mIf x8.isNone (
    mRet (.int .i64 (6 : Int))) (
    mNil x8 fun (a3 : Addr) =>
    mSt a3 (.bool true) <|
    mRet (.int .i64 (0 : Int)))
theorem E_lines_Lines_Mask (l0 : Option Addr) (i1 : Int) : ev Try.prog 30 Try.f30.results.toList C_lines_Lines_Mask D_lines_Lines_Mask 400 false [.code (bodyOf Try.f30)] (List.map some [.pointer l0, .int .i64 i1] ++ List.replicate (Try.f30.ntmps - List.length ([.pointer l0, .int .i64 i1] : List Value)) none) = B_lines_Lines_Mask l0 i1 := by kernel_rfl
theorem S_lines_Lines_Mask (l0 : Option Addr) (i1 : Int) {h : Hp} {Q : Value → Hp → Prop} (hb : B_lines_Lines_Mask l0 i1 h Q) : N_lines_Lines_Mask l0 i1 h Q :=
  Nf.of_ev Try.call30 Try.func30 (c := bodyOf Try.f30) rfl mixed C_lines_Lines_Mask D_lines_Lines_Mask 400 (args := [.pointer l0, .int .i64 i1]) (by rw [E_lines_Lines_Mask]; exact hb)
def C_lines_Lines_Raise : List (Nat × List Nat) := []
def D_lines_Lines_Raise : List (Nat × List Nat) := []
def B_lines_Lines_Raise (l0 : Option Addr) (i1 : Int) : M Value :=
  mBind (N_lines_Lines_at l0 i1) fun r9 =>
  unP r9 fun (x9 : Option Addr) =>
  mIf x9.isNone (
    mRet (.tuple #[.bool false, .int .i64 (6 : Int)])) (
    mNil x9 fun (a3 : Addr) =>
    mLdB a3 fun (x16 : Bool) =>
    mNil x9 fun (a7 : Addr) =>
    mSt (a7.add 1) (.bool x16) <|
    mNil x9 fun (a11 : Addr) =>
    mLdB a11 fun (x22 : Bool) =>
    mRet (.tuple #[.bool (!x22), .int .i64 (0 : Int)]))
theorem E_lines_Lines_Raise (l0 : Option Addr) (i1 : Int) : ev Try.prog 31 Try.f31.results.toList C_lines_Lines_Raise D_lines_Lines_Raise 400 false [.code (bodyOf Try.f31)] (List.map some [.pointer l0, .int .i64 i1] ++ List.replicate (Try.f31.ntmps - List.length ([.pointer l0, .int .i64 i1] : List Value)) none) = B_lines_Lines_Raise l0 i1 := by kernel_rfl
theorem S_lines_Lines_Raise (l0 : Option Addr) (i1 : Int) {h : Hp} {Q : Value → Hp → Prop} (hb : B_lines_Lines_Raise l0 i1 h Q) : N_lines_Lines_Raise l0 i1 h Q :=
  Nf.of_ev Try.call31 Try.func31 (c := bodyOf Try.f31) rfl mixed C_lines_Lines_Raise D_lines_Lines_Raise 400 (args := [.pointer l0, .int .i64 i1]) (by rw [E_lines_Lines_Raise]; exact hb)
def C_lines_Lines_Unmask : List (Nat × List Nat) := []
def D_lines_Lines_Unmask : List (Nat × List Nat) := []
def B_lines_Lines_Unmask (l0 : Option Addr) (i1 : Int) : M Value :=
  mBind (N_lines_Lines_at l0 i1) fun r10 =>
  unP r10 fun (x10 : Option Addr) =>
  mIf x10.isNone (
    mRet (.tuple #[.bool false, .int .i64 (6 : Int)])) (
    mNil x10 fun (a3 : Addr) =>
    mLdB (a3.add 1) fun (x16 : Bool) =>
    mNil x10 fun (a7 : Addr) =>
    mSt a7 (.bool false) <|
    mSt (a7.add 1) (.bool false) <|
    mRet (.tuple #[.bool x16, .int .i64 (0 : Int)]))
theorem E_lines_Lines_Unmask (l0 : Option Addr) (i1 : Int) : ev Try.prog 32 Try.f32.results.toList C_lines_Lines_Unmask D_lines_Lines_Unmask 400 false [.code (bodyOf Try.f32)] (List.map some [.pointer l0, .int .i64 i1] ++ List.replicate (Try.f32.ntmps - List.length ([.pointer l0, .int .i64 i1] : List Value)) none) = B_lines_Lines_Unmask l0 i1 := by kernel_rfl
theorem S_lines_Lines_Unmask (l0 : Option Addr) (i1 : Int) {h : Hp} {Q : Value → Hp → Prop} (hb : B_lines_Lines_Unmask l0 i1 h Q) : N_lines_Lines_Unmask l0 i1 h Q :=
  Nf.of_ev Try.call32 Try.func32 (c := bodyOf Try.f32) rfl mixed C_lines_Lines_Unmask D_lines_Lines_Unmask 400 (args := [.pointer l0, .int .i64 i1]) (by rw [E_lines_Lines_Unmask]; exact hb)
def C_lines_Lines_Masked : List (Nat × List Nat) := []
def D_lines_Lines_Masked : List (Nat × List Nat) := []
def B_lines_Lines_Masked (l0 : Option Addr) (i1 : Int) : M Value :=
  mBind (N_lines_Lines_at l0 i1) fun r8 =>
  unP r8 fun (x8 : Option Addr) =>
  mBind (mIf (!x8.isNone) (mNil x8 fun (a3 : Addr) =>
    mLdB a3 fun (x15 : Bool) =>
    mRet x15) (mRet false)) fun (b6 : Bool) =>
  mRet (.bool b6)
theorem E_lines_Lines_Masked (l0 : Option Addr) (i1 : Int) : ev Try.prog 39 Try.f39.results.toList C_lines_Lines_Masked D_lines_Lines_Masked 400 false [.code (bodyOf Try.f39)] (List.map some [.pointer l0, .int .i64 i1] ++ List.replicate (Try.f39.ntmps - List.length ([.pointer l0, .int .i64 i1] : List Value)) none) = B_lines_Lines_Masked l0 i1 := by kernel_rfl
theorem S_lines_Lines_Masked (l0 : Option Addr) (i1 : Int) {h : Hp} {Q : Value → Hp → Prop} (hb : B_lines_Lines_Masked l0 i1 h Q) : N_lines_Lines_Masked l0 i1 h Q :=
  Nf.of_ev Try.call39 Try.func39 (c := bodyOf Try.f39) rfl mixed C_lines_Lines_Masked D_lines_Lines_Masked 400 (args := [.pointer l0, .int .i64 i1]) (by rw [E_lines_Lines_Masked]; exact hb)
def C_lines_Lines_Latched : List (Nat × List Nat) := []
def D_lines_Lines_Latched : List (Nat × List Nat) := []
def B_lines_Lines_Latched (l0 : Option Addr) (i1 : Int) : M Value :=
  mBind (N_lines_Lines_at l0 i1) fun r8 =>
  unP r8 fun (x8 : Option Addr) =>
  mBind (mIf (!x8.isNone) (mNil x8 fun (a3 : Addr) =>
    mLdB (a3.add 1) fun (x15 : Bool) =>
    mRet x15) (mRet false)) fun (b6 : Bool) =>
  mRet (.bool b6)
theorem E_lines_Lines_Latched (l0 : Option Addr) (i1 : Int) : ev Try.prog 40 Try.f40.results.toList C_lines_Lines_Latched D_lines_Lines_Latched 400 false [.code (bodyOf Try.f40)] (List.map some [.pointer l0, .int .i64 i1] ++ List.replicate (Try.f40.ntmps - List.length ([.pointer l0, .int .i64 i1] : List Value)) none) = B_lines_Lines_Latched l0 i1 := by kernel_rfl
theorem S_lines_Lines_Latched (l0 : Option Addr) (i1 : Int) {h : Hp} {Q : Value → Hp → Prop} (hb : B_lines_Lines_Latched l0 i1 h Q) : N_lines_Lines_Latched l0 i1 h Q :=
  Nf.of_ev Try.call40 Try.func40 (c := bodyOf Try.f40) rfl mixed C_lines_Lines_Latched D_lines_Lines_Latched 400 (args := [.pointer l0, .int .i64 i1]) (by rw [E_lines_Lines_Latched]; exact hb)
def C_lines_Lines_Len : List (Nat × List Nat) := []
def D_lines_Lines_Len : List (Nat × List Nat) := []
def B_lines_Lines_Len (l0 : Option Addr) : M Value :=
  mIf l0.isNone (
    mRet (.int .i64 (0 : Int))) (
    mNil l0 fun (a2 : Addr) =>
    mLdL a2 fun (x8 : Sl) =>
    mRet (.int .i64 (x8.n : Int)))
theorem E_lines_Lines_Len (l0 : Option Addr) : ev Try.prog 41 Try.f41.results.toList C_lines_Lines_Len D_lines_Lines_Len 400 false [.code (bodyOf Try.f41)] (List.map some [.pointer l0] ++ List.replicate (Try.f41.ntmps - List.length ([.pointer l0] : List Value)) none) = B_lines_Lines_Len l0 := by kernel_rfl
theorem S_lines_Lines_Len (l0 : Option Addr) {h : Hp} {Q : Value → Hp → Prop} (hb : B_lines_Lines_Len l0 h Q) : N_lines_Lines_Len l0 h Q :=
  Nf.of_ev Try.call41 Try.func41 (c := bodyOf Try.f41) rfl mixed C_lines_Lines_Len D_lines_Lines_Len 400 (args := [.pointer l0]) (by rw [E_lines_Lines_Len]; exact hb)
def C_lines_Lines_at : List (Nat × List Nat) := []
def D_lines_Lines_at : List (Nat × List Nat) := []
def B_lines_Lines_at (l0 : Option Addr) (i1 : Int) : M Value :=
  mBind (mIf (decide (i1 < (0 : Int))) (mRet true) (mBind (N_lines_Lines_Len l0) fun r10 =>
    unI .i64 r10 fun (x10 : Int) =>
    mRet (decide (i1 ≥ x10)))) fun (b2 : Bool) =>
  mIf b2 (
    mRet (.pointer none)) (
    mNil l0 fun (a4 : Addr) =>
    mLdL a4 fun (x16 : Sl) =>
    mIdx x16 i1 2 fun (x18 : Addr) =>
    mRet (.pointer (some x18)))
theorem E_lines_Lines_at (l0 : Option Addr) (i1 : Int) : ev Try.prog 69 Try.f69.results.toList C_lines_Lines_at D_lines_Lines_at 400 false [.code (bodyOf Try.f69)] (List.map some [.pointer l0, .int .i64 i1] ++ List.replicate (Try.f69.ntmps - List.length ([.pointer l0, .int .i64 i1] : List Value)) none) = B_lines_Lines_at l0 i1 := by kernel_rfl
theorem S_lines_Lines_at (l0 : Option Addr) (i1 : Int) {h : Hp} {Q : Value → Hp → Prop} (hb : B_lines_Lines_at l0 i1 h Q) : N_lines_Lines_at l0 i1 h Q :=
  Nf.of_ev Try.call69 Try.func69 (c := bodyOf Try.f69) rfl mixed C_lines_Lines_at D_lines_Lines_at 400 (args := [.pointer l0, .int .i64 i1]) (by rw [E_lines_Lines_at]; exact hb)
def C_signalboxlaw14_LinesOnce : List (Nat × List Nat) := [(7, [1, 5, 6, 24, 25])]
def D_signalboxlaw14_LinesOnce : List (Nat × List Nat) := []
def T_signalboxlaw14_LinesOnce_7 (times1 : Int) (x5 : Option Addr) (k6 : Int) (t24 : Int) (t25 : Int) : Env := mkEnv [(1, .int .u8 times1), (5, .pointer x5), (6, .int .i64 k6), (24, .int .u8 t24), (25, .int .u8 t25)] 80 0
def K_signalboxlaw14_LinesOnce_7 (times1 : Int) (x5 : Option Addr) (k6 : Int) (t24 : Int) (t25 : Int) : M Value := Cut Try.prog 7 (todoOf Try.f7 7) (T_signalboxlaw14_LinesOnce_7 times1 x5 k6 t24 t25)
def B_signalboxlaw14_LinesOnce (i0 : Int) (times1 : Int) : M Value :=
  mBind (N_signalboxlaw14_fixed) fun r15 =>
  unB r15 fun (x15 : Bool) =>
  mIf (!x15) (
    mRet (.bool false)) (
    mBind (N_lines_New (8 : Int)) fun r17 =>
    unP r17 fun (x17 : Option Addr) =>
    mGuard ((8 : Int) ≠ 0) <|
    mBind (N_lines_Lines_Mask x17 (IntKind.i64.wrap (Int.tmod i0 (8 : Int)))) fun r23 =>
    unI .i64 r23 fun (_x23 : Int) =>
    K_signalboxlaw14_LinesOnce_7 times1 x17 (IntKind.i64.wrap (Int.tmod i0 (8 : Int))) times1 (0 : Int))
def B_signalboxlaw14_LinesOnce_7 (times1 : Int) (x5 : Option Addr) (k6 : Int) (t24 : Int) (t25 : Int) : M Value :=
  mIf (decide (t25 < t24)) (
    mBind (N_lines_Lines_Raise x5 k6) fun r30 =>
    un2 unB (unI .i64) r30 fun (x30_0 : Bool) (x30_1 : Int) =>
    mIf (x30_0 || (x30_1 != (0 : Int))) (
      mRet (.bool false)) (
      K_signalboxlaw14_LinesOnce_7 times1 x5 k6 t24 (IntKind.u8.wrap (t25 + (1 : Int))))) (
    mBind (N_lines_Lines_Unmask x5 k6) fun r42 =>
    un2 unB (unI .i64) r42 fun (x42_0 : Bool) (x42_1 : Int) =>
    mBind (N_lines_Lines_Unmask x5 k6) fun r48 =>
    un2 unB (unI .i64) r48 fun (x48_0 : Bool) (x48_1 : Int) =>
    mBind (N_lines_Lines_Raise x5 k6) fun r54 =>
    un2 unB (unI .i64) r54 fun (x54_0 : Bool) (x54_1 : Int) =>
    mRet (.bool ((((((x42_0 == (decide (times1 > (0 : Int)))) && (x42_1 == (0 : Int))) && (!x48_0)) && (x48_1 == (0 : Int))) && x54_0) && (x54_1 == (0 : Int)))))
theorem E_signalboxlaw14_LinesOnce (i0 : Int) (times1 : Int) : ev Try.prog 7 Try.f7.results.toList C_signalboxlaw14_LinesOnce D_signalboxlaw14_LinesOnce 400 false [.code (bodyOf Try.f7)] (List.map some [.int .u8 i0, .int .u8 times1] ++ List.replicate (Try.f7.ntmps - List.length ([.int .u8 i0, .int .u8 times1] : List Value)) none) = B_signalboxlaw14_LinesOnce i0 times1 := by kernel_rfl
theorem S_signalboxlaw14_LinesOnce (i0 : Int) (times1 : Int) {h : Hp} {Q : Value → Hp → Prop} (hb : B_signalboxlaw14_LinesOnce i0 times1 h Q) : N_signalboxlaw14_LinesOnce i0 times1 h Q :=
  Nf.of_ev Try.call7 Try.func7 (c := bodyOf Try.f7) rfl mixed C_signalboxlaw14_LinesOnce D_signalboxlaw14_LinesOnce 400 (args := [.int .u8 i0, .int .u8 times1]) (by rw [E_signalboxlaw14_LinesOnce]; exact hb)
theorem E_signalboxlaw14_LinesOnce_7 (times1 : Int) (x5 : Option Addr) (k6 : Int) (t24 : Int) (t25 : Int) : ev Try.prog 7 Try.f7.results.toList C_signalboxlaw14_LinesOnce D_signalboxlaw14_LinesOnce 400 true (todoOf Try.f7 7) (T_signalboxlaw14_LinesOnce_7 times1 x5 k6 t24 t25) = B_signalboxlaw14_LinesOnce_7 times1 x5 k6 t24 t25 := by kernel_rfl
theorem S_signalboxlaw14_LinesOnce_7 (times1 : Int) (x5 : Option Addr) (k6 : Int) (t24 : Int) (t25 : Int) {h : Hp} {Q : Value → Hp → Prop} (hb : B_signalboxlaw14_LinesOnce_7 times1 x5 k6 t24 t25 h Q) : K_signalboxlaw14_LinesOnce_7 times1 x5 k6 t24 t25 h Q :=
  Cut.of_ev Try.func7 mixed C_signalboxlaw14_LinesOnce D_signalboxlaw14_LinesOnce 400 (by rw [E_signalboxlaw14_LinesOnce_7]; exact hb)
def C_signalboxlaw14_LinesPlay : List (Nat × List Nat) := [(9, [5, 6, 7, 8, 34, 35, 36]), (15, [5, 6, 7, 8, 10, 11, 12, 34, 35, 36]), (33, [5, 6, 7, 8, 10, 11, 34, 35, 36])]
def D_signalboxlaw14_LinesPlay : List (Nat × List Nat) := [(7, []), (32, [])]
def T_signalboxlaw14_LinesPlay_9 (x5 : Option Addr) (many6 : Int) (masked7 : Sl) (latched8 : Sl) (t34 : Sl) (t35 : Int) (t36 : Int) : Env := mkEnv [(5, .pointer x5), (6, .int .i64 many6), (7, .slice masked7.p masked7.n masked7.c), (8, .slice latched8.p latched8.n latched8.c), (34, .slice t34.p t34.n t34.c), (35, .int .i64 t35), (36, .int .i64 t36)] 199 0
def K_signalboxlaw14_LinesPlay_9 (x5 : Option Addr) (many6 : Int) (masked7 : Sl) (latched8 : Sl) (t34 : Sl) (t35 : Int) (t36 : Int) : M Value := Cut Try.prog 9 (todoOf Try.f9 9) (T_signalboxlaw14_LinesPlay_9 x5 many6 masked7 latched8 t34 t35 t36)
def T_signalboxlaw14_LinesPlay_15 (x5 : Option Addr) (many6 : Int) (masked7 : Sl) (latched8 : Sl) (a10 : Addr) (in11 : Bool) (want12 : Int) (t34 : Sl) (t35 : Int) (t36 : Int) : Env := mkEnv [(5, .pointer x5), (6, .int .i64 many6), (7, .slice masked7.p masked7.n masked7.c), (8, .slice latched8.p latched8.n latched8.c), (10, .pointer (some a10)), (11, .bool in11), (12, .int .i64 want12), (34, .slice t34.p t34.n t34.c), (35, .int .i64 t35), (36, .int .i64 t36)] 199 0
def K_signalboxlaw14_LinesPlay_15 (x5 : Option Addr) (many6 : Int) (masked7 : Sl) (latched8 : Sl) (a10 : Addr) (in11 : Bool) (want12 : Int) (t34 : Sl) (t35 : Int) (t36 : Int) : M Value := Cut Try.prog 9 (todoOf Try.f9 15) (T_signalboxlaw14_LinesPlay_15 x5 many6 masked7 latched8 a10 in11 want12 t34 t35 t36)
def T_signalboxlaw14_LinesPlay_33 (x5 : Option Addr) (many6 : Int) (masked7 : Sl) (latched8 : Sl) (a10 : Addr) (in11 : Bool) (t34 : Sl) (t35 : Int) (t36 : Int) : Env := mkEnv [(5, .pointer x5), (6, .int .i64 many6), (7, .slice masked7.p masked7.n masked7.c), (8, .slice latched8.p latched8.n latched8.c), (10, .pointer (some a10)), (11, .bool in11), (34, .slice t34.p t34.n t34.c), (35, .int .i64 t35), (36, .int .i64 t36)] 199 0
def K_signalboxlaw14_LinesPlay_33 (x5 : Option Addr) (many6 : Int) (masked7 : Sl) (latched8 : Sl) (a10 : Addr) (in11 : Bool) (t34 : Sl) (t35 : Int) (t36 : Int) : M Value := Cut Try.prog 9 (todoOf Try.f9 33) (T_signalboxlaw14_LinesPlay_33 x5 many6 masked7 latched8 a10 in11 t34 t35 t36)
def B_signalboxlaw14_LinesPlay (n0 : Int) (l1 : Sl) : M Value :=
  mBind (N_signalboxlaw14_fixed) fun r20 =>
  unB r20 fun (x20 : Bool) =>
  mIf (!x20) (
    mRet (.bool false)) (
    mIf (decide ((l1.n : Int) > (200 : Int))) (
      mRet (.bool true)) (
      mBind (N_lines_New n0) fun r26 =>
      unP r26 fun (x26 : Option Addr) =>
      mAnd (
        mMake 4 1 #[.bool false] (if (8 : Int) < (if (0 : Int) > n0 then (0 : Int) else n0) then (8 : Int) else (if (0 : Int) > n0 then (0 : Int) else n0)) (if (8 : Int) < (if (0 : Int) > n0 then (0 : Int) else n0) then (8 : Int) else (if (0 : Int) > n0 then (0 : Int) else n0)) fun (x31_5 : Sl) =>
        mMake 4 1 #[.bool false] (if (8 : Int) < (if (0 : Int) > n0 then (0 : Int) else n0) then (8 : Int) else (if (0 : Int) > n0 then (0 : Int) else n0)) (if (8 : Int) < (if (0 : Int) > n0 then (0 : Int) else n0) then (8 : Int) else (if (0 : Int) > n0 then (0 : Int) else n0)) fun (x33_6 : Sl) =>
        K_signalboxlaw14_LinesPlay_9 x26 (if (8 : Int) < (if (0 : Int) > n0 then (0 : Int) else n0) then (8 : Int) else (if (0 : Int) > n0 then (0 : Int) else n0)) x31_5 x33_6 l1 (l1.n : Int) (0 : Int)) (
        mMake 4 1 #[.bool false] (if (8 : Int) < (if (0 : Int) > n0 then (0 : Int) else n0) then (8 : Int) else (if (0 : Int) > n0 then (0 : Int) else n0)) (if (8 : Int) < (if (0 : Int) > n0 then (0 : Int) else n0) then (8 : Int) else (if (0 : Int) > n0 then (0 : Int) else n0)) fun (x33 : Sl) =>
        mMake 4 1 #[.bool false] (if (8 : Int) < (if (0 : Int) > n0 then (0 : Int) else n0) then (8 : Int) else (if (0 : Int) > n0 then (0 : Int) else n0)) (if (8 : Int) < (if (0 : Int) > n0 then (0 : Int) else n0) then (8 : Int) else (if (0 : Int) > n0 then (0 : Int) else n0)) fun (x31 : Sl) =>
        K_signalboxlaw14_LinesPlay_9 x26 (if (8 : Int) < (if (0 : Int) > n0 then (0 : Int) else n0) then (8 : Int) else (if (0 : Int) > n0 then (0 : Int) else n0)) x31 x33 l1 (l1.n : Int) (0 : Int))))
def B_signalboxlaw14_LinesPlay_9 (x5 : Option Addr) (many6 : Int) (masked7 : Sl) (latched8 : Sl) (t34 : Sl) (t35 : Int) (t36 : Int) : M Value :=
  mIf (decide (t36 < t35)) (
    mIdx t34 t36 2 fun (x38 : Addr) =>
    mLdI .u8 x38 fun (x39_0 : Int) =>
    mLdI .i64 (x38.add 1) fun (x39_1 : Int) =>
    mNew #[.int .u8 (0 : Int), .int .i64 (0 : Int)] 60 fun (x10 : Addr) =>
    mSt x10 (.int .u8 x39_0) <|
    mSt (x10.add 1) (.int .i64 x39_1) <|
    mLdI .i64 (x10.add 1) fun (x41 : Int) =>
    mBind (mIf (decide (x41 ≥ (0 : Int))) (mLdI .i64 (x10.add 1) fun (x45 : Int) =>
      mRet (decide (x45 < many6))) (mRet false)) fun (b15 : Bool) =>
    mIf (!b15) (
      K_signalboxlaw14_LinesPlay_15 x5 many6 masked7 latched8 x10 b15 (6 : Int) t34 t35 t36) (
      K_signalboxlaw14_LinesPlay_15 x5 many6 masked7 latched8 x10 b15 (0 : Int) t34 t35 t36)) (
    mBind (N_lines_Lines_Raise none (0 : Int)) fun r168 =>
    un2 unB (unI .i64) r168 fun (_x168_0 : Bool) (x168_1 : Int) =>
    mBind (N_lines_Lines_Len x5) fun r172 =>
    unI .i64 r172 fun (x172 : Int) =>
    mBind (mIf (x172 == many6) (mBind (N_lines_Lines_Len none) fun r177 =>
      unI .i64 r177 fun (x177 : Int) =>
      mRet (x177 == (0 : Int))) (mRet false)) fun (b19 : Bool) =>
    mBind (mIf (b19 && (x168_1 == (6 : Int))) (mBind (N_lines_Lines_Mask none (0 : Int)) fun r186 =>
      unI .i64 r186 fun (x186 : Int) =>
      mRet (x186 == (6 : Int))) (mRet false)) fun (b21 : Bool) =>
    mBind (mIf b21 (mBind (N_lines_Lines_Masked none (0 : Int)) fun r191 =>
      unB r191 fun (x191 : Bool) =>
      mRet (!x191)) (mRet false)) fun (b23 : Bool) =>
    mBind (mIf b23 (mBind (N_lines_Lines_Latched none (0 : Int)) fun r196 =>
      unB r196 fun (x196 : Bool) =>
      mRet (!x196)) (mRet false)) fun (b25 : Bool) =>
    mRet (.bool b25))
def B_signalboxlaw14_LinesPlay_15 (x5 : Option Addr) (many6 : Int) (masked7 : Sl) (latched8 : Sl) (a10 : Addr) (in11 : Bool) (want12 : Int) (t34 : Sl) (t35 : Int) (t36 : Int) : M Value :=
  mLdI .u8 a10 fun (x52 : Int) =>
  mGuard ((3 : Int) ≠ 0) <|
  mIf ((Int.tmod x52 (3 : Int)) == (0 : Int)) (
    mLdI .i64 (a10.add 1) fun (x59 : Int) =>
    mBind (N_lines_Lines_Raise x5 x59) fun r60 =>
    un2 unB (unI .i64) r60 fun (x60_0 : Bool) (x60_1 : Int) =>
    mBind (mIf (x60_1 != want12) (mRet true) (mBind (mIf in11 (mLdI .i64 (a10.add 1) fun (x72 : Int) =>
      mIdx masked7 x72 1 fun (x73 : Addr) =>
      mLdB x73 fun (x74 : Bool) =>
      mRet (!x74)) (mRet false)) fun (b36 : Bool) =>
      mRet (!(x60_0 == b36)))) fun (b37 : Bool) =>
    mIf b37 (
      mRet (.bool false)) (
      mBind (mIf in11 (mLdI .i64 (a10.add 1) fun (x83 : Int) =>
        mIdx masked7 x83 1 fun (x84 : Addr) =>
        mLdB x84 fun (x85 : Bool) =>
        mRet x85) (mRet false)) fun (b42 : Bool) =>
      mIf b42 (
        mLdI .i64 (a10.add 1) fun (x89 : Int) =>
        mIdx latched8 x89 1 fun (x90 : Addr) =>
        mSt x90 (.bool true) <|
        K_signalboxlaw14_LinesPlay_33 x5 many6 masked7 latched8 a10 in11 t34 t35 t36) (
        K_signalboxlaw14_LinesPlay_33 x5 many6 masked7 latched8 a10 in11 t34 t35 t36))) (
    mIf ((Int.tmod x52 (3 : Int)) == (1 : Int)) (
      mLdI .i64 (a10.add 1) fun (x95 : Int) =>
      mBind (N_lines_Lines_Mask x5 x95) fun r96 =>
      unI .i64 r96 fun (x96 : Int) =>
      mIf (x96 != want12) (
        mRet (.bool false)) (
        mIf in11 (
          mLdI .i64 (a10.add 1) fun (x102 : Int) =>
          mIdx masked7 x102 1 fun (x103 : Addr) =>
          mSt x103 (.bool true) <|
          K_signalboxlaw14_LinesPlay_33 x5 many6 masked7 latched8 a10 in11 t34 t35 t36) (
          K_signalboxlaw14_LinesPlay_33 x5 many6 masked7 latched8 a10 in11 t34 t35 t36))) (
      mIf ((Int.tmod x52 (3 : Int)) == (2 : Int)) (
        mLdI .i64 (a10.add 1) fun (x109 : Int) =>
        mBind (N_lines_Lines_Unmask x5 x109) fun r110 =>
        un2 unB (unI .i64) r110 fun (x110_0 : Bool) (x110_1 : Int) =>
        mBind (mIf (x110_1 != want12) (mRet true) (mBind (mIf in11 (mLdI .i64 (a10.add 1) fun (x122 : Int) =>
          mIdx latched8 x122 1 fun (x123 : Addr) =>
          mLdB x123 fun (x124 : Bool) =>
          mRet x124) (mRet false)) fun (b61 : Bool) =>
          mRet (!(x110_0 == b61)))) fun (b62 : Bool) =>
        mIf b62 (
          mRet (.bool false)) (
          mIf in11 (
            mAnd (
              mLdI .i64 (a10.add 1) fun (x131_71 : Int) =>
              mIdx masked7 x131_71 1 fun (x135_72 : Addr) =>
              mAnd (
                mLdI .i64 (a10.add 1) fun (x134_77 : Int) =>
                mSt x135_72 (.bool false) <|
                mIdx latched8 x134_77 1 fun (x136_79 : Addr) =>
                mSt x136_79 (.bool false) <|
                K_signalboxlaw14_LinesPlay_33 x5 many6 masked7 latched8 a10 in11 t34 t35 t36) (
                mSt x135_72 (.bool false) <|
                mLdI .i64 (a10.add 1) fun (x134_74 : Int) =>
                mIdx latched8 x134_74 1 fun (x136_75 : Addr) =>
                mSt x136_75 (.bool false) <|
                K_signalboxlaw14_LinesPlay_33 x5 many6 masked7 latched8 a10 in11 t34 t35 t36)) (
              mLdI .i64 (a10.add 1) fun (x134 : Int) =>
              mLdI .i64 (a10.add 1) fun (x131 : Int) =>
              mIdx masked7 x131 1 fun (x135 : Addr) =>
              mSt x135 (.bool false) <|
              mIdx latched8 x134 1 fun (x136 : Addr) =>
              mSt x136 (.bool false) <|
              K_signalboxlaw14_LinesPlay_33 x5 many6 masked7 latched8 a10 in11 t34 t35 t36)) (
            K_signalboxlaw14_LinesPlay_33 x5 many6 masked7 latched8 a10 in11 t34 t35 t36))) (
        K_signalboxlaw14_LinesPlay_33 x5 many6 masked7 latched8 a10 in11 t34 t35 t36)))
def B_signalboxlaw14_LinesPlay_33 (x5 : Option Addr) (many6 : Int) (masked7 : Sl) (latched8 : Sl) (a10 : Addr) (in11 : Bool) (t34 : Sl) (t35 : Int) (t36 : Int) : M Value :=
  mLdI .i64 (a10.add 1) fun (x139 : Int) =>
  mBind (N_lines_Lines_Masked x5 x139) fun r140 =>
  unB r140 fun (x140 : Bool) =>
  mBind (mIf in11 (mLdI .i64 (a10.add 1) fun (x145 : Int) =>
    mIdx masked7 x145 1 fun (x146 : Addr) =>
    mLdB x146 fun (x147 : Bool) =>
    mRet x147) (mRet false)) fun (b88 : Bool) =>
  mBind (mIf (!(x140 == b88)) (mRet true) (mLdI .i64 (a10.add 1) fun (x153 : Int) =>
    mBind (N_lines_Lines_Latched x5 x153) fun r154 =>
    unB r154 fun (x154 : Bool) =>
    mBind (mIf in11 (mLdI .i64 (a10.add 1) fun (x159 : Int) =>
    mIdx latched8 x159 1 fun (x160 : Addr) =>
    mLdB x160 fun (x161 : Bool) =>
    mRet x161) (mRet false)) fun (b96 : Bool) =>
    mRet (!(x154 == b96)))) fun (b97 : Bool) =>
  mIf b97 (
    mRet (.bool false)) (
    K_signalboxlaw14_LinesPlay_9 x5 many6 masked7 latched8 t34 t35 (IntKind.i64.wrap (t36 + (1 : Int))))
theorem E_signalboxlaw14_LinesPlay (n0 : Int) (l1 : Sl) : ev Try.prog 9 Try.f9.results.toList C_signalboxlaw14_LinesPlay D_signalboxlaw14_LinesPlay 400 false [.code (bodyOf Try.f9)] (List.map some [.int .i64 n0, .slice l1.p l1.n l1.c] ++ List.replicate (Try.f9.ntmps - List.length ([.int .i64 n0, .slice l1.p l1.n l1.c] : List Value)) none) = B_signalboxlaw14_LinesPlay n0 l1 := by kernel_rfl
theorem S_signalboxlaw14_LinesPlay (n0 : Int) (l1 : Sl) {h : Hp} {Q : Value → Hp → Prop} (hb : B_signalboxlaw14_LinesPlay n0 l1 h Q) : N_signalboxlaw14_LinesPlay n0 l1 h Q :=
  Nf.of_ev Try.call9 Try.func9 (c := bodyOf Try.f9) rfl mixed C_signalboxlaw14_LinesPlay D_signalboxlaw14_LinesPlay 400 (args := [.int .i64 n0, .slice l1.p l1.n l1.c]) (by rw [E_signalboxlaw14_LinesPlay]; exact hb)
theorem E_signalboxlaw14_LinesPlay_9 (x5 : Option Addr) (many6 : Int) (masked7 : Sl) (latched8 : Sl) (t34 : Sl) (t35 : Int) (t36 : Int) : ev Try.prog 9 Try.f9.results.toList C_signalboxlaw14_LinesPlay D_signalboxlaw14_LinesPlay 400 true (todoOf Try.f9 9) (T_signalboxlaw14_LinesPlay_9 x5 many6 masked7 latched8 t34 t35 t36) = B_signalboxlaw14_LinesPlay_9 x5 many6 masked7 latched8 t34 t35 t36 := by kernel_rfl
theorem S_signalboxlaw14_LinesPlay_9 (x5 : Option Addr) (many6 : Int) (masked7 : Sl) (latched8 : Sl) (t34 : Sl) (t35 : Int) (t36 : Int) {h : Hp} {Q : Value → Hp → Prop} (hb : B_signalboxlaw14_LinesPlay_9 x5 many6 masked7 latched8 t34 t35 t36 h Q) : K_signalboxlaw14_LinesPlay_9 x5 many6 masked7 latched8 t34 t35 t36 h Q :=
  Cut.of_ev Try.func9 mixed C_signalboxlaw14_LinesPlay D_signalboxlaw14_LinesPlay 400 (by rw [E_signalboxlaw14_LinesPlay_9]; exact hb)
theorem E_signalboxlaw14_LinesPlay_15 (x5 : Option Addr) (many6 : Int) (masked7 : Sl) (latched8 : Sl) (a10 : Addr) (in11 : Bool) (want12 : Int) (t34 : Sl) (t35 : Int) (t36 : Int) : ev Try.prog 9 Try.f9.results.toList C_signalboxlaw14_LinesPlay D_signalboxlaw14_LinesPlay 400 true (todoOf Try.f9 15) (T_signalboxlaw14_LinesPlay_15 x5 many6 masked7 latched8 a10 in11 want12 t34 t35 t36) = B_signalboxlaw14_LinesPlay_15 x5 many6 masked7 latched8 a10 in11 want12 t34 t35 t36 := by kernel_rfl
theorem S_signalboxlaw14_LinesPlay_15 (x5 : Option Addr) (many6 : Int) (masked7 : Sl) (latched8 : Sl) (a10 : Addr) (in11 : Bool) (want12 : Int) (t34 : Sl) (t35 : Int) (t36 : Int) {h : Hp} {Q : Value → Hp → Prop} (hb : B_signalboxlaw14_LinesPlay_15 x5 many6 masked7 latched8 a10 in11 want12 t34 t35 t36 h Q) : K_signalboxlaw14_LinesPlay_15 x5 many6 masked7 latched8 a10 in11 want12 t34 t35 t36 h Q :=
  Cut.of_ev Try.func9 mixed C_signalboxlaw14_LinesPlay D_signalboxlaw14_LinesPlay 400 (by rw [E_signalboxlaw14_LinesPlay_15]; exact hb)
theorem E_signalboxlaw14_LinesPlay_33 (x5 : Option Addr) (many6 : Int) (masked7 : Sl) (latched8 : Sl) (a10 : Addr) (in11 : Bool) (t34 : Sl) (t35 : Int) (t36 : Int) : ev Try.prog 9 Try.f9.results.toList C_signalboxlaw14_LinesPlay D_signalboxlaw14_LinesPlay 400 true (todoOf Try.f9 33) (T_signalboxlaw14_LinesPlay_33 x5 many6 masked7 latched8 a10 in11 t34 t35 t36) = B_signalboxlaw14_LinesPlay_33 x5 many6 masked7 latched8 a10 in11 t34 t35 t36 := by kernel_rfl
theorem S_signalboxlaw14_LinesPlay_33 (x5 : Option Addr) (many6 : Int) (masked7 : Sl) (latched8 : Sl) (a10 : Addr) (in11 : Bool) (t34 : Sl) (t35 : Int) (t36 : Int) {h : Hp} {Q : Value → Hp → Prop} (hb : B_signalboxlaw14_LinesPlay_33 x5 many6 masked7 latched8 a10 in11 t34 t35 t36 h Q) : K_signalboxlaw14_LinesPlay_33 x5 many6 masked7 latched8 a10 in11 t34 t35 t36 h Q :=
  Cut.of_ev Try.func9 mixed C_signalboxlaw14_LinesPlay D_signalboxlaw14_LinesPlay 400 (by rw [E_signalboxlaw14_LinesPlay_33]; exact hb)
end Go.Proofs.Ytkmenmagclojmaa
