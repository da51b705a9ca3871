/- What the functions of this layer come to, as forms of the small logic; written by program. Conditions: none. -/
import Derived.Test.YtkmenmagclojmaaSbU
import Derived.Test.YtkmenmagclojmaaChecked
import Derived.KernelRfl
set_option maxRecDepth 100000
namespace Go.Proofs.Ytkmenmagclojmaa
open Go Go.Sb
theorem mixed : Try.prog.follows .mixedOrders = true := by kernel_rfl
def N_signalboxlaw52_fixed : M Value := Nf Try.prog 33 #[]
def N_watchdog_New (early0 : Int) (late1 : Int) : M Value := Nf Try.prog 34 #[.int .i64 early0, .int .i64 late1]
def N_watchdog_Dog_Start (d0 : Option Addr) : M Value := Nf Try.prog 35 #[.pointer d0]
def N_watchdog_Dog_Pass (d0 : Option Addr) (ticks1 : Int) : M Value := Nf Try.prog 36 #[.pointer d0, .int .i64 ticks1]
def N_watchdog_Dog_Report (d0 : Option Addr) : M Value := Nf Try.prog 37 #[.pointer d0]
def N_watchdog_Dog_Awake (d0 : Option Addr) : M Value := Nf Try.prog 38 #[.pointer d0]
def N_watchdog_Dog_Left (d0 : Option Addr) : M Value := Nf Try.prog 54 #[.pointer d0]
def N_signalboxlaw52_plain_tick (p0 : Option Addr) : M Value := Nf Try.prog 55 #[.pointer p0]
def N_watchdog_Dog_Bites (d0 : Option Addr) : M Value := Nf Try.prog 56 #[.pointer d0]
def N_watchdog_Dog_bite (d0 : Option Addr) (count1 : Option Addr) (what2 : ByteArray) : M Value := Nf Try.prog 70 #[.pointer d0, .pointer count1, .string what2]
def N_signalboxlaw52_WatchdogKept (early0 : Int) (more1 : Int) (l2 : Sl) (soon3 : Bool) : M Value := Nf Try.prog 8 #[.int .u8 early0, .int .u8 more1, .slice l2.p l2.n l2.c, .bool soon3]
def N_signalboxlaw52_WatchdogPlays (early0 : Int) (late1 : Int) (l2 : Sl) : M Value := Nf Try.prog 13 #[.int .i64 early0, .int .i64 late1, .slice l2.p l2.n l2.c]
def C_signalboxlaw52_fixed : List (Nat × List Nat) := []
def D_signalboxlaw52_fixed : List (Nat × List Nat) := []
def B_signalboxlaw52_fixed : M Value :=
  mBind (N_watchdog_New (2 : Int) (5 : Int)) fun r10 =>
  unP r10 fun (x10 : Option Addr) =>
  mBind (N_watchdog_Dog_Report x10) fun r12 =>
  unS r12 fun (x12 : ByteArray) =>
  mBind (N_watchdog_Dog_Start x10) fun _r14 =>
  mBind (N_watchdog_Dog_Pass x10 (1 : Int)) fun r17 =>
  un2 (unI .i64) unS r17 fun (x17_0 : Int) (x17_1 : ByteArray) =>
  mBind (N_watchdog_Dog_Report x10) fun r21 =>
  unS r21 fun (x21 : ByteArray) =>
  mBind (N_watchdog_Dog_Start x10) fun _r23 =>
  mBind (N_watchdog_Dog_Pass x10 (9 : Int)) fun r26 =>
  un2 (unI .i64) unS r26 fun (x26_0 : Int) (x26_1 : ByteArray) =>
  mBind (N_watchdog_Dog_Bites x10) fun r31 =>
  un2 (unI .i64) (unI .i64) r31 fun (x31_0 : Int) (x31_1 : Int) =>
  mBind (mIf (((((((((x12).toList == ((ByteArray.mk #[115, 116, 105, 108, 108])).toList) && (x17_0 == (1 : Int))) && ((x17_1).toList == ((ByteArray.mk #[])).toList)) && ((x21).toList == ((ByteArray.mk #[101, 97, 114, 108, 121])).toList)) && (x26_0 == (5 : Int))) && ((x26_1).toList == ((ByteArray.mk #[108, 97, 116, 101])).toList)) && (x31_0 == (1 : Int))) && (x31_1 == (1 : Int))) (mBind (N_watchdog_Dog_Awake x10) fun r66 =>
    unB r66 fun (x66 : Bool) =>
    mRet (!x66)) (mRet false)) fun (b10 : Bool) =>
  mBind (mIf b10 (mBind (N_watchdog_New (3 : Int) (2 : Int)) fun r70 =>
    unP r70 fun (x70 : Option Addr) =>
    mRet x70.isNone) (mRet false)) fun (b12 : Bool) =>
  mRet (.bool b12)
theorem E_signalboxlaw52_fixed : ev Try.prog 33 Try.f33.results.toList C_signalboxlaw52_fixed D_signalboxlaw52_fixed 400 false [.code (bodyOf Try.f33)] (List.map some [] ++ List.replicate (Try.f33.ntmps - List.length ([] : List Value)) none) = B_signalboxlaw52_fixed := by kernel_rfl
theorem S_signalboxlaw52_fixed {h : Hp} {Q : Value → Hp → Prop} (hb : B_signalboxlaw52_fixed h Q) : N_signalboxlaw52_fixed h Q :=
  Nf.of_ev Try.call33 Try.func33 (c := bodyOf Try.f33) rfl mixed C_signalboxlaw52_fixed D_signalboxlaw52_fixed 400 (args := []) (by rw [E_signalboxlaw52_fixed]; exact hb)
def C_watchdog_New : List (Nat × List Nat) := []
def D_watchdog_New : List (Nat × List Nat) := []
def B_watchdog_New (early0 : Int) (late1 : Int) : M Value :=
  mIf ((((decide (early0 < (0 : Int))) || (decide (late1 < early0))) || (decide (late1 < (1 : Int)))) || (decide (late1 > (16777216 : Int)))) (
    mRet (.pointer none)) (
    mNew #[.int .i64 early0, .int .i64 late1, .int .i64 (0 : Int), .bool false, .int .i64 (0 : Int), .int .i64 (0 : Int)] 119 fun (x23 : Addr) =>
    mRet (.pointer (some x23)))
theorem E_watchdog_New (early0 : Int) (late1 : Int) : ev Try.prog 34 Try.f34.results.toList C_watchdog_New D_watchdog_New 400 false [.code (bodyOf Try.f34)] (List.map some [.int .i64 early0, .int .i64 late1] ++ List.replicate (Try.f34.ntmps - List.length ([.int .i64 early0, .int .i64 late1] : List Value)) none) = B_watchdog_New early0 late1 := by kernel_rfl
theorem S_watchdog_New (early0 : Int) (late1 : Int) {h : Hp} {Q : Value → Hp → Prop} (hb : B_watchdog_New early0 late1 h Q) : N_watchdog_New early0 late1 h Q :=
  Nf.of_ev Try.call34 Try.func34 (c := bodyOf Try.f34) rfl mixed C_watchdog_New D_watchdog_New 400 (args := [.int .i64 early0, .int .i64 late1]) (by rw [E_watchdog_New]; exact hb)
def C_watchdog_Dog_Start : List (Nat × List Nat) := []
def D_watchdog_Dog_Start : List (Nat × List Nat) := []
def B_watchdog_Dog_Start (d0 : Option Addr) : M Value :=
  mIf (!d0.isNone) (
    mNil d0 fun (a2 : Addr) =>
    mSt (a2.add 3) (.bool true) <|
    mNil d0 fun (a6 : Addr) =>
    mSt (a6.add 2) (.int .i64 (0 : Int)) <|
    mRet (.tuple #[])) (
    mRet (.tuple #[]))
theorem E_watchdog_Dog_Start (d0 : Option Addr) : ev Try.prog 35 Try.f35.results.toList C_watchdog_Dog_Start D_watchdog_Dog_Start 400 false [.code (bodyOf Try.f35)] (List.map some [.pointer d0] ++ List.replicate (Try.f35.ntmps - List.length ([.pointer d0] : List Value)) none) = B_watchdog_Dog_Start d0 := by kernel_rfl
theorem S_watchdog_Dog_Start (d0 : Option Addr) {h : Hp} {Q : Value → Hp → Prop} (hb : B_watchdog_Dog_Start d0 h Q) : N_watchdog_Dog_Start d0 h Q :=
  Nf.of_ev Try.call35 Try.func35 (c := bodyOf Try.f35) rfl mixed C_watchdog_Dog_Start D_watchdog_Dog_Start 400 (args := [.pointer d0]) (by rw [E_watchdog_Dog_Start]; exact hb)
def C_watchdog_Dog_Pass : List (Nat × List Nat) := []
def D_watchdog_Dog_Pass : List (Nat × List Nat) := []
def B_watchdog_Dog_Pass (d0 : Option Addr) (ticks1 : Int) : M Value :=
  mBind (N_watchdog_Dog_Awake d0) fun r11 =>
  unB r11 fun (x11 : Bool) =>
  mIf (!x11) (
    mRet (.tuple #[.int .i64 (if (16777216 : Int) < (if (0 : Int) > ticks1 then (0 : Int) else ticks1) then (16777216 : Int) else (if (0 : Int) > ticks1 then (0 : Int) else ticks1)), .string (ByteArray.mk #[])])) (
    mNil d0 fun (a3 : Addr) =>
    mLdI .i64 (a3.add 1) fun (x17 : Int) =>
    mNil d0 fun (a7 : Addr) =>
    mLdI .i64 (a7.add 2) fun (x21 : Int) =>
    mIf (decide ((if (16777216 : Int) < (if (0 : Int) > ticks1 then (0 : Int) else ticks1) then (16777216 : Int) else (if (0 : Int) > ticks1 then (0 : Int) else ticks1)) ≥ (IntKind.i64.wrap (x17 - x21)))) (
      mNil d0 fun (a11 : Addr) =>
      mLdI .i64 (a11.add 1) fun (x30 : Int) =>
      mNil d0 fun (a15 : Addr) =>
      mSt (a15.add 2) (.int .i64 x30) <|
      mNil d0 fun (a19 : Addr) =>
      mBind (N_watchdog_Dog_bite d0 (some (a19.add 5)) (ByteArray.mk #[108, 97, 116, 101])) fun r38 =>
      unS r38 fun (x38 : ByteArray) =>
      mRet (.tuple #[.int .i64 (IntKind.i64.wrap (x17 - x21)), .string x38])) (
      mNil d0 fun (a23 : Addr) =>
      mLdI .i64 (a23.add 2) fun (x42 : Int) =>
      mNil d0 fun (a27 : Addr) =>
      mSt (a27.add 2) (.int .i64 (IntKind.i64.wrap (x42 + (if (16777216 : Int) < (if (0 : Int) > ticks1 then (0 : Int) else ticks1) then (16777216 : Int) else (if (0 : Int) > ticks1 then (0 : Int) else ticks1))))) <|
      mRet (.tuple #[.int .i64 (if (16777216 : Int) < (if (0 : Int) > ticks1 then (0 : Int) else ticks1) then (16777216 : Int) else (if (0 : Int) > ticks1 then (0 : Int) else ticks1)), .string (ByteArray.mk #[])])))
theorem E_watchdog_Dog_Pass (d0 : Option Addr) (ticks1 : Int) : ev Try.prog 36 Try.f36.results.toList C_watchdog_Dog_Pass D_watchdog_Dog_Pass 400 false [.code (bodyOf Try.f36)] (List.map some [.pointer d0, .int .i64 ticks1] ++ List.replicate (Try.f36.ntmps - List.length ([.pointer d0, .int .i64 ticks1] : List Value)) none) = B_watchdog_Dog_Pass d0 ticks1 := by kernel_rfl
theorem S_watchdog_Dog_Pass (d0 : Option Addr) (ticks1 : Int) {h : Hp} {Q : Value → Hp → Prop} (hb : B_watchdog_Dog_Pass d0 ticks1 h Q) : N_watchdog_Dog_Pass d0 ticks1 h Q :=
  Nf.of_ev Try.call36 Try.func36 (c := bodyOf Try.f36) rfl mixed C_watchdog_Dog_Pass D_watchdog_Dog_Pass 400 (args := [.pointer d0, .int .i64 ticks1]) (by rw [E_watchdog_Dog_Pass]; exact hb)
def C_watchdog_Dog_Report : List (Nat × List Nat) := []
def D_watchdog_Dog_Report : List (Nat × List Nat) := []
def B_watchdog_Dog_Report (d0 : Option Addr) : M Value :=
  mBind (N_watchdog_Dog_Awake d0) fun r5 =>
  unB r5 fun (x5 : Bool) =>
  mIf (!x5) (
    mRet (.string (ByteArray.mk #[115, 116, 105, 108, 108]))) (
    mNil d0 fun (a3 : Addr) =>
    mLdI .i64 (a3.add 2) fun (x11 : Int) =>
    mNil d0 fun (a7 : Addr) =>
    mLdI .i64 a7 fun (x15 : Int) =>
    mIf (decide (x11 < x15)) (
      mNil d0 fun (a11 : Addr) =>
      mBind (N_watchdog_Dog_bite d0 (some (a11.add 4)) (ByteArray.mk #[101, 97, 114, 108, 121])) fun r21 =>
      unS r21 fun (x21 : ByteArray) =>
      mRet (.string x21)) (
      mNil d0 fun (a15 : Addr) =>
      mSt (a15.add 2) (.int .i64 (0 : Int)) <|
      mRet (.string (ByteArray.mk #[102, 105, 110, 101]))))
theorem E_watchdog_Dog_Report (d0 : Option Addr) : ev Try.prog 37 Try.f37.results.toList C_watchdog_Dog_Report D_watchdog_Dog_Report 400 false [.code (bodyOf Try.f37)] (List.map some [.pointer d0] ++ List.replicate (Try.f37.ntmps - List.length ([.pointer d0] : List Value)) none) = B_watchdog_Dog_Report d0 := by kernel_rfl
theorem S_watchdog_Dog_Report (d0 : Option Addr) {h : Hp} {Q : Value → Hp → Prop} (hb : B_watchdog_Dog_Report d0 h Q) : N_watchdog_Dog_Report d0 h Q :=
  Nf.of_ev Try.call37 Try.func37 (c := bodyOf Try.f37) rfl mixed C_watchdog_Dog_Report D_watchdog_Dog_Report 400 (args := [.pointer d0]) (by rw [E_watchdog_Dog_Report]; exact hb)
def C_watchdog_Dog_Awake : List (Nat × List Nat) := []
def D_watchdog_Dog_Awake : List (Nat × List Nat) := []
def B_watchdog_Dog_Awake (d0 : Option Addr) : M Value :=
  mBind (mIf (!d0.isNone) (mNil d0 fun (a2 : Addr) =>
    mLdB (a2.add 3) fun (x9 : Bool) =>
    mRet x9) (mRet false)) fun (b5 : Bool) =>
  mRet (.bool b5)
theorem E_watchdog_Dog_Awake (d0 : Option Addr) : ev Try.prog 38 Try.f38.results.toList C_watchdog_Dog_Awake D_watchdog_Dog_Awake 400 false [.code (bodyOf Try.f38)] (List.map some [.pointer d0] ++ List.replicate (Try.f38.ntmps - List.length ([.pointer d0] : List Value)) none) = B_watchdog_Dog_Awake d0 := by kernel_rfl
theorem S_watchdog_Dog_Awake (d0 : Option Addr) {h : Hp} {Q : Value → Hp → Prop} (hb : B_watchdog_Dog_Awake d0 h Q) : N_watchdog_Dog_Awake d0 h Q :=
  Nf.of_ev Try.call38 Try.func38 (c := bodyOf Try.f38) rfl mixed C_watchdog_Dog_Awake D_watchdog_Dog_Awake 400 (args := [.pointer d0]) (by rw [E_watchdog_Dog_Awake]; exact hb)
def C_watchdog_Dog_Left : List (Nat × List Nat) := []
def D_watchdog_Dog_Left : List (Nat × List Nat) := []
def B_watchdog_Dog_Left (d0 : Option Addr) : M Value :=
  mBind (N_watchdog_Dog_Awake d0) fun r6 =>
  unB r6 fun (x6 : Bool) =>
  mIf (!x6) (
    mRet (.tuple #[.int .i64 (0 : Int), .int .i64 (0 : Int), .bool false])) (
    mNil d0 fun (a3 : Addr) =>
    mLdI .i64 a3 fun (x11 : Int) =>
    mNil d0 fun (a7 : Addr) =>
    mLdI .i64 (a7.add 2) fun (x15 : Int) =>
    mNil d0 fun (a11 : Addr) =>
    mLdI .i64 (a11.add 1) fun (x21 : Int) =>
    mNil d0 fun (a15 : Addr) =>
    mLdI .i64 (a15.add 2) fun (x25 : Int) =>
    mRet (.tuple #[.int .i64 (if (0 : Int) > (IntKind.i64.wrap (x11 - x15)) then (0 : Int) else (IntKind.i64.wrap (x11 - x15))), .int .i64 (IntKind.i64.wrap (x21 - x25)), .bool true]))
theorem E_watchdog_Dog_Left (d0 : Option Addr) : ev Try.prog 54 Try.f54.results.toList C_watchdog_Dog_Left D_watchdog_Dog_Left 400 false [.code (bodyOf Try.f54)] (List.map some [.pointer d0] ++ List.replicate (Try.f54.ntmps - List.length ([.pointer d0] : List Value)) none) = B_watchdog_Dog_Left d0 := by kernel_rfl
theorem S_watchdog_Dog_Left (d0 : Option Addr) {h : Hp} {Q : Value → Hp → Prop} (hb : B_watchdog_Dog_Left d0 h Q) : N_watchdog_Dog_Left d0 h Q :=
  Nf.of_ev Try.call54 Try.func54 (c := bodyOf Try.f54) rfl mixed C_watchdog_Dog_Left D_watchdog_Dog_Left 400 (args := [.pointer d0]) (by rw [E_watchdog_Dog_Left]; exact hb)
def C_signalboxlaw52_plain_tick : List (Nat × List Nat) := []
def D_signalboxlaw52_plain_tick : List (Nat × List Nat) := []
def B_signalboxlaw52_plain_tick (p0 : Option Addr) : M Value :=
  mNil p0 fun (a2 : Addr) =>
  mLdI .i64 (a2.add 2) fun (x6 : Int) =>
  mNil p0 fun (a6 : Addr) =>
  mSt (a6.add 2) (.int .i64 (IntKind.i64.wrap (x6 + (1 : Int)))) <|
  mNil p0 fun (a10 : Addr) =>
  mLdI .i64 (a10.add 2) fun (x13 : Int) =>
  mNil p0 fun (a14 : Addr) =>
  mLdI .i64 (a14.add 1) fun (x17 : Int) =>
  mIf (x13 == x17) (
    mNil p0 fun (a18 : Addr) =>
    mSt (a18.add 3) (.bool false) <|
    mNil p0 fun (a22 : Addr) =>
    mLdI .i64 (a22.add 5) fun (x25 : Int) =>
    mNil p0 fun (a26 : Addr) =>
    mSt (a26.add 5) (.int .i64 (IntKind.i64.wrap (x25 + (1 : Int)))) <|
    mRet (.bool true)) (
    mRet (.bool false))
theorem E_signalboxlaw52_plain_tick (p0 : Option Addr) : ev Try.prog 55 Try.f55.results.toList C_signalboxlaw52_plain_tick D_signalboxlaw52_plain_tick 400 false [.code (bodyOf Try.f55)] (List.map some [.pointer p0] ++ List.replicate (Try.f55.ntmps - List.length ([.pointer p0] : List Value)) none) = B_signalboxlaw52_plain_tick p0 := by kernel_rfl
theorem S_signalboxlaw52_plain_tick (p0 : Option Addr) {h : Hp} {Q : Value → Hp → Prop} (hb : B_signalboxlaw52_plain_tick p0 h Q) : N_signalboxlaw52_plain_tick p0 h Q :=
  Nf.of_ev Try.call55 Try.func55 (c := bodyOf Try.f55) rfl mixed C_signalboxlaw52_plain_tick D_signalboxlaw52_plain_tick 400 (args := [.pointer p0]) (by rw [E_signalboxlaw52_plain_tick]; exact hb)
def C_watchdog_Dog_Bites : List (Nat × List Nat) := []
def D_watchdog_Dog_Bites : List (Nat × List Nat) := []
def B_watchdog_Dog_Bites (d0 : Option Addr) : M Value :=
  mIf d0.isNone (
    mRet (.tuple #[.int .i64 (0 : Int), .int .i64 (0 : Int)])) (
    mNil d0 fun (a2 : Addr) =>
    mLdI .i64 (a2.add 4) fun (x9 : Int) =>
    mNil d0 fun (a6 : Addr) =>
    mLdI .i64 (a6.add 5) fun (x13 : Int) =>
    mRet (.tuple #[.int .i64 x9, .int .i64 x13]))
theorem E_watchdog_Dog_Bites (d0 : Option Addr) : ev Try.prog 56 Try.f56.results.toList C_watchdog_Dog_Bites D_watchdog_Dog_Bites 400 false [.code (bodyOf Try.f56)] (List.map some [.pointer d0] ++ List.replicate (Try.f56.ntmps - List.length ([.pointer d0] : List Value)) none) = B_watchdog_Dog_Bites d0 := by kernel_rfl
theorem S_watchdog_Dog_Bites (d0 : Option Addr) {h : Hp} {Q : Value → Hp → Prop} (hb : B_watchdog_Dog_Bites d0 h Q) : N_watchdog_Dog_Bites d0 h Q :=
  Nf.of_ev Try.call56 Try.func56 (c := bodyOf Try.f56) rfl mixed C_watchdog_Dog_Bites D_watchdog_Dog_Bites 400 (args := [.pointer d0]) (by rw [E_watchdog_Dog_Bites]; exact hb)
def C_watchdog_Dog_bite : List (Nat × List Nat) := []
def D_watchdog_Dog_bite : List (Nat × List Nat) := []
def B_watchdog_Dog_bite (d0 : Option Addr) (count1 : Option Addr) (what2 : ByteArray) : M Value :=
  mNil count1 fun (a2 : Addr) =>
  mLdI .i64 a2 fun (x9 : Int) =>
  mNil count1 fun (a5 : Addr) =>
  mSt a5 (.int .i64 (IntKind.i64.wrap (x9 + (1 : Int)))) <|
  mNil d0 fun (a8 : Addr) =>
  mSt (a8.add 3) (.bool false) <|
  mRet (.string what2)
theorem E_watchdog_Dog_bite (d0 : Option Addr) (count1 : Option Addr) (what2 : ByteArray) : ev Try.prog 70 Try.f70.results.toList C_watchdog_Dog_bite D_watchdog_Dog_bite 400 false [.code (bodyOf Try.f70)] (List.map some [.pointer d0, .pointer count1, .string what2] ++ List.replicate (Try.f70.ntmps - List.length ([.pointer d0, .pointer count1, .string what2] : List Value)) none) = B_watchdog_Dog_bite d0 count1 what2 := by kernel_rfl
theorem S_watchdog_Dog_bite (d0 : Option Addr) (count1 : Option Addr) (what2 : ByteArray) {h : Hp} {Q : Value → Hp → Prop} (hb : B_watchdog_Dog_bite d0 count1 what2 h Q) : N_watchdog_Dog_bite d0 count1 what2 h Q :=
  Nf.of_ev Try.call70 Try.func70 (c := bodyOf Try.f70) rfl mixed C_watchdog_Dog_bite D_watchdog_Dog_bite 400 (args := [.pointer d0, .pointer count1, .string what2]) (by rw [E_watchdog_Dog_bite]; exact hb)
def C_signalboxlaw52_WatchdogKept : List (Nat × List Nat) := [(10, [3, 9, 10, 11, 35, 36, 37])]
def D_signalboxlaw52_WatchdogKept : List (Nat × List Nat) := []
def T_signalboxlaw52_WatchdogKept_10 (soon3 : Bool) (e9 : Int) (last10 : Int) (d11 : Option Addr) (t35 : Sl) (t36 : Int) (t37 : Int) : Env := mkEnv [(3, .bool soon3), (9, .int .i64 e9), (10, .int .i64 last10), (11, .pointer d11), (35, .slice t35.p t35.n t35.c), (36, .int .i64 t36), (37, .int .i64 t37)] 107 0
def K_signalboxlaw52_WatchdogKept_10 (soon3 : Bool) (e9 : Int) (last10 : Int) (d11 : Option Addr) (t35 : Sl) (t36 : Int) (t37 : Int) : M Value := Cut Try.prog 8 (todoOf Try.f8 10) (T_signalboxlaw52_WatchdogKept_10 soon3 e9 last10 d11 t35 t36 t37)
def B_signalboxlaw52_WatchdogKept (early0 : Int) (more1 : Int) (l2 : Sl) (soon3 : Bool) : M Value :=
  mBind (N_signalboxlaw52_fixed) fun r18 =>
  unB r18 fun (x18 : Bool) =>
  mIf (!x18) (
    mRet (.bool false)) (
    mIf (decide ((l2.n : Int) > (200 : Int))) (
      mRet (.bool true)) (
      mBind (N_watchdog_New (IntKind.i64.wrap early0) (IntKind.i64.wrap ((IntKind.i64.wrap ((IntKind.i64.wrap early0) + (1 : Int))) + (IntKind.i64.wrap more1)))) fun r32 =>
      unP r32 fun (x32 : Option Addr) =>
      mBind (N_watchdog_Dog_Start x32) fun _r34 =>
      K_signalboxlaw52_WatchdogKept_10 soon3 (IntKind.i64.wrap early0) (IntKind.i64.wrap ((IntKind.i64.wrap ((IntKind.i64.wrap early0) + (1 : Int))) + (IntKind.i64.wrap more1))) x32 l2 (l2.n : Int) (0 : Int)))
def B_signalboxlaw52_WatchdogKept_10 (soon3 : Bool) (e9 : Int) (last10 : Int) (d11 : Option Addr) (t35 : Sl) (t36 : Int) (t37 : Int) : M Value :=
  mIf (decide (t37 < t36)) (
    mIdx t35 t37 1 fun (x39 : Addr) =>
    mLdI .u8 x39 fun (x40 : Int) =>
    mGuard ((IntKind.i64.wrap (last10 - e9)) ≠ 0) <|
    mBind (N_watchdog_Dog_Pass d11 (IntKind.i64.wrap (e9 + (Int.tmod (IntKind.i64.wrap x40) (IntKind.i64.wrap (last10 - e9)))))) fun r51 =>
    un2 (unI .i64) unS r51 fun (x51_0 : Int) (x51_1 : ByteArray) =>
    mBind (mIf (!((x51_1).toList == ((ByteArray.mk #[])).toList)) (mRet true) (mGuard ((IntKind.i64.wrap (last10 - e9)) ≠ 0) <|
      mRet (x51_0 != (IntKind.i64.wrap (e9 + (Int.tmod (IntKind.i64.wrap x40) (IntKind.i64.wrap (last10 - e9)))))))) fun (b9 : Bool) =>
    mIf b9 (
      mRet (.bool false)) (
      mBind (N_watchdog_Dog_Report d11) fun r69 =>
      unS r69 fun (x69 : ByteArray) =>
      mIf (!((x69).toList == ((ByteArray.mk #[102, 105, 110, 101])).toList)) (
        mRet (.bool false)) (
        K_signalboxlaw52_WatchdogKept_10 soon3 e9 last10 d11 t35 t36 (IntKind.i64.wrap (t37 + (1 : Int)))))) (
    mIf (soon3 && (decide (e9 > (0 : Int)))) (
      mBind (N_watchdog_Dog_Pass d11 (IntKind.i64.wrap (e9 - (1 : Int)))) fun r80 =>
      un2 (unI .i64) unS r80 fun (_x80_0 : Int) (_x80_1 : ByteArray) =>
      mBind (N_watchdog_Dog_Report d11) fun r82 =>
      unS r82 fun (x82 : ByteArray) =>
      mBind (mIf ((x82).toList == ((ByteArray.mk #[101, 97, 114, 108, 121])).toList) (mBind (N_watchdog_Dog_Awake d11) fun r86 =>
        unB r86 fun (x86 : Bool) =>
        mRet (!x86)) (mRet false)) fun (b14 : Bool) =>
      mRet (.bool b14)) (
      mBind (N_watchdog_Dog_Pass d11 last10) fun r92 =>
      un2 (unI .i64) unS r92 fun (x92_0 : Int) (x92_1 : ByteArray) =>
      mBind (mIf ((x92_0 == last10) && ((x92_1).toList == ((ByteArray.mk #[108, 97, 116, 101])).toList)) (mBind (N_watchdog_Dog_Awake d11) fun r104 =>
        unB r104 fun (x104 : Bool) =>
        mRet (!x104)) (mRet false)) fun (b17 : Bool) =>
      mRet (.bool b17)))
theorem E_signalboxlaw52_WatchdogKept (early0 : Int) (more1 : Int) (l2 : Sl) (soon3 : Bool) : ev Try.prog 8 Try.f8.results.toList C_signalboxlaw52_WatchdogKept D_signalboxlaw52_WatchdogKept 400 false [.code (bodyOf Try.f8)] (List.map some [.int .u8 early0, .int .u8 more1, .slice l2.p l2.n l2.c, .bool soon3] ++ List.replicate (Try.f8.ntmps - List.length ([.int .u8 early0, .int .u8 more1, .slice l2.p l2.n l2.c, .bool soon3] : List Value)) none) = B_signalboxlaw52_WatchdogKept early0 more1 l2 soon3 := by kernel_rfl
theorem S_signalboxlaw52_WatchdogKept (early0 : Int) (more1 : Int) (l2 : Sl) (soon3 : Bool) {h : Hp} {Q : Value → Hp → Prop} (hb : B_signalboxlaw52_WatchdogKept early0 more1 l2 soon3 h Q) : N_signalboxlaw52_WatchdogKept early0 more1 l2 soon3 h Q :=
  Nf.of_ev Try.call8 Try.func8 (c := bodyOf Try.f8) rfl mixed C_signalboxlaw52_WatchdogKept D_signalboxlaw52_WatchdogKept 400 (args := [.int .u8 early0, .int .u8 more1, .slice l2.p l2.n l2.c, .bool soon3]) (by rw [E_signalboxlaw52_WatchdogKept]; exact hb)
theorem E_signalboxlaw52_WatchdogKept_10 (soon3 : Bool) (e9 : Int) (last10 : Int) (d11 : Option Addr) (t35 : Sl) (t36 : Int) (t37 : Int) : ev Try.prog 8 Try.f8.results.toList C_signalboxlaw52_WatchdogKept D_signalboxlaw52_WatchdogKept 400 true (todoOf Try.f8 10) (T_signalboxlaw52_WatchdogKept_10 soon3 e9 last10 d11 t35 t36 t37) = B_signalboxlaw52_WatchdogKept_10 soon3 e9 last10 d11 t35 t36 t37 := by kernel_rfl
theorem S_signalboxlaw52_WatchdogKept_10 (soon3 : Bool) (e9 : Int) (last10 : Int) (d11 : Option Addr) (t35 : Sl) (t36 : Int) (t37 : Int) {h : Hp} {Q : Value → Hp → Prop} (hb : B_signalboxlaw52_WatchdogKept_10 soon3 e9 last10 d11 t35 t36 t37 h Q) : K_signalboxlaw52_WatchdogKept_10 soon3 e9 last10 d11 t35 t36 t37 h Q :=
  Cut.of_ev Try.func8 mixed C_signalboxlaw52_WatchdogKept D_signalboxlaw52_WatchdogKept 400 (by rw [E_signalboxlaw52_WatchdogKept_10]; exact hb)
def C_signalboxlaw52_WatchdogPlays : List (Nat × List Nat) := [(13, [7, 13, 92, 93, 94]), (36, [7, 13, 15, 17, 18, 19, 20, 92, 93, 94]), (43, [7, 13, 92, 93, 94])]
def D_signalboxlaw52_WatchdogPlays : List (Nat × List Nat) := []
def T_signalboxlaw52_WatchdogPlays_13 (d7 : Option Addr) (p13 : Addr) (t92 : Sl) (t93 : Int) (t94 : Int) : Env := mkEnv [(7, .pointer d7), (13, .pointer (some p13)), (92, .slice t92.p t92.n t92.c), (93, .int .i64 t93), (94, .int .i64 t94)] 273 0
def K_signalboxlaw52_WatchdogPlays_13 (d7 : Option Addr) (p13 : Addr) (t92 : Sl) (t93 : Int) (t94 : Int) : M Value := Cut Try.prog 13 (todoOf Try.f13 13) (T_signalboxlaw52_WatchdogPlays_13 d7 p13 t92 t93 t94)
def T_signalboxlaw52_WatchdogPlays_36 (d7 : Option Addr) (p13 : Addr) (a15 : Addr) (ticks17 : Int) (want18 : Int) (what19 : ByteArray) (n20 : Int) (t92 : Sl) (t93 : Int) (t94 : Int) : Env := mkEnv [(7, .pointer d7), (13, .pointer (some p13)), (15, .pointer (some a15)), (17, .int .i64 ticks17), (18, .int .i64 want18), (19, .string what19), (20, .int .i64 n20), (92, .slice t92.p t92.n t92.c), (93, .int .i64 t93), (94, .int .i64 t94)] 273 0
def K_signalboxlaw52_WatchdogPlays_36 (d7 : Option Addr) (p13 : Addr) (a15 : Addr) (ticks17 : Int) (want18 : Int) (what19 : ByteArray) (n20 : Int) (t92 : Sl) (t93 : Int) (t94 : Int) : M Value := Cut Try.prog 13 (todoOf Try.f13 36) (T_signalboxlaw52_WatchdogPlays_36 d7 p13 a15 ticks17 want18 what19 n20 t92 t93 t94)
def T_signalboxlaw52_WatchdogPlays_43 (d7 : Option Addr) (p13 : Addr) (t92 : Sl) (t93 : Int) (t94 : Int) : Env := mkEnv [(7, .pointer d7), (13, .pointer (some p13)), (92, .slice t92.p t92.n t92.c), (93, .int .i64 t93), (94, .int .i64 t94)] 273 0
def K_signalboxlaw52_WatchdogPlays_43 (d7 : Option Addr) (p13 : Addr) (t92 : Sl) (t93 : Int) (t94 : Int) : M Value := Cut Try.prog 13 (todoOf Try.f13 43) (T_signalboxlaw52_WatchdogPlays_43 d7 p13 t92 t93 t94)
def B_signalboxlaw52_WatchdogPlays (early0 : Int) (late1 : Int) (l2 : Sl) : M Value :=
  mBind (N_signalboxlaw52_fixed) fun r28 =>
  unB r28 fun (x28 : Bool) =>
  mIf (!x28) (
    mRet (.bool false)) (
    mIf (decide ((l2.n : Int) > (100 : Int))) (
      mRet (.bool true)) (
      mBind (N_watchdog_New early0 late1) fun r35 =>
      unP r35 fun (x35 : Option Addr) =>
      mIf ((((decide (early0 < (0 : Int))) || (decide (late1 < early0))) || (decide (late1 < (1 : Int)))) || (decide (late1 > (16777216 : Int)))) (
        mBind (N_watchdog_Dog_Start x35) fun _r52 =>
        mBind (N_watchdog_Dog_Pass x35 (3 : Int)) fun r55 =>
        un2 (unI .i64) unS r55 fun (x55_0 : Int) (x55_1 : ByteArray) =>
        mBind (N_watchdog_Dog_Left x35) fun r60 =>
        un3 (unI .i64) (unI .i64) unB r60 fun (_x60_0 : Int) (_x60_1 : Int) (x60_2 : Bool) =>
        mBind (mIf x35.isNone (mBind (N_watchdog_Dog_Report x35) fun r68 =>
          unS r68 fun (x68 : ByteArray) =>
          mRet ((x68).toList == ((ByteArray.mk #[115, 116, 105, 108, 108])).toList)) (mRet false)) fun (b7 : Bool) =>
        mBind (mIf (((b7 && (x55_0 == (3 : Int))) && ((x55_1).toList == ((ByteArray.mk #[])).toList)) && (!x60_2)) (mBind (N_watchdog_Dog_Awake x35) fun r85 =>
          unB r85 fun (x85 : Bool) =>
          mRet (!x85)) (mRet false)) fun (b9 : Bool) =>
        mRet (.bool b9)) (
        mNew #[.int .i64 early0, .int .i64 late1, .int .i64 (0 : Int), .bool false, .int .i64 (0 : Int), .int .i64 (0 : Int)] 86 fun (x91 : Addr) =>
        K_signalboxlaw52_WatchdogPlays_13 x35 x91 l2 (l2.n : Int) (0 : Int))))
def B_signalboxlaw52_WatchdogPlays_13 (d7 : Option Addr) (p13 : Addr) (t92 : Sl) (t93 : Int) (t94 : Int) : M Value :=
  mIf (decide (t94 < t93)) (
    mIdx t92 t94 2 fun (x96 : Addr) =>
    mLdI .u8 x96 fun (x97_0 : Int) =>
    mLdI .i64 (x96.add 1) fun (x97_1 : Int) =>
    mNew #[.int .u8 (0 : Int), .int .i64 (0 : Int)] 88 fun (x15 : Addr) =>
    mSt x15 (.int .u8 x97_0) <|
    mSt (x15.add 1) (.int .i64 x97_1) <|
    mLdI .u8 x15 fun (x99 : Int) =>
    mGuard ((3 : Int) ≠ 0) <|
    mIf ((Int.tmod x99 (3 : Int)) == (0 : Int)) (
      mBind (N_watchdog_Dog_Start d7) fun _r104 =>
      mSt (p13.add 3) (.bool true) <|
      mSt (p13.add 2) (.int .i64 (0 : Int)) <|
      K_signalboxlaw52_WatchdogPlays_43 d7 p13 t92 t93 t94) (
      mIf ((Int.tmod x99 (3 : Int)) == (1 : Int)) (
        mLdB (p13.add 3) fun (x120 : Bool) =>
        mIf (!x120) (
          mBind (N_watchdog_Dog_Report d7) fun r143 =>
          unS r143 fun (x143 : ByteArray) =>
          mIf (!((x143).toList == ((ByteArray.mk #[115, 116, 105, 108, 108])).toList)) (
            mRet (.bool false)) (
            K_signalboxlaw52_WatchdogPlays_43 d7 p13 t92 t93 t94)) (
          mLdI .i64 (p13.add 2) fun (x126 : Int) =>
          mLdI .i64 p13 fun (x130 : Int) =>
          mIf (decide (x126 < x130)) (
            mSt (p13.add 3) (.bool false) <|
            mLdI .i64 (p13.add 4) fun (x138 : Int) =>
            mSt (p13.add 4) (.int .i64 (IntKind.i64.wrap (x138 + (1 : Int)))) <|
            mBind (N_watchdog_Dog_Report d7) fun r143_44 =>
            unS r143_44 fun (x143_44 : ByteArray) =>
            mIf (!((x143_44).toList == ((ByteArray.mk #[101, 97, 114, 108, 121])).toList)) (
              mRet (.bool false)) (
              K_signalboxlaw52_WatchdogPlays_43 d7 p13 t92 t93 t94)) (
            mSt (p13.add 2) (.int .i64 (0 : Int)) <|
            mBind (N_watchdog_Dog_Report d7) fun r143_48 =>
            unS r143_48 fun (x143_48 : ByteArray) =>
            mIf (!((x143_48).toList == ((ByteArray.mk #[102, 105, 110, 101])).toList)) (
              mRet (.bool false)) (
              K_signalboxlaw52_WatchdogPlays_43 d7 p13 t92 t93 t94)))) (
        mIf ((Int.tmod x99 (3 : Int)) == (2 : Int)) (
          mLdI .i64 (x15.add 1) fun (x149 : Int) =>
          mLdB (p13.add 3) fun (x155 : Bool) =>
          mBind (mIf (x155 && (decide ((if (16777216 : Int) < (if (0 : Int) > x149 then (0 : Int) else x149) then (16777216 : Int) else (if (0 : Int) > x149 then (0 : Int) else x149)) > (3000 : Int)))) (mLdI .i64 (p13.add 1) fun (x164 : Int) =>
            mLdI .i64 (p13.add 2) fun (x168 : Int) =>
            mRet (decide ((IntKind.i64.wrap (x164 - x168)) > (3000 : Int)))) (mRet false)) fun (b60 : Bool) =>
          mIf b60 (
            mRet (.bool true)) (
            K_signalboxlaw52_WatchdogPlays_36 d7 p13 x15 (if (16777216 : Int) < (if (0 : Int) > x149 then (0 : Int) else x149) then (16777216 : Int) else (if (0 : Int) > x149 then (0 : Int) else x149)) (if (16777216 : Int) < (if (0 : Int) > x149 then (0 : Int) else x149) then (16777216 : Int) else (if (0 : Int) > x149 then (0 : Int) else x149)) (ByteArray.mk #[]) (1 : Int) t92 t93 t94)) (
          K_signalboxlaw52_WatchdogPlays_43 d7 p13 t92 t93 t94)))) (
    mRet (.bool true))
def B_signalboxlaw52_WatchdogPlays_36 (d7 : Option Addr) (p13 : Addr) (a15 : Addr) (ticks17 : Int) (want18 : Int) (what19 : ByteArray) (n20 : Int) (t92 : Sl) (t93 : Int) (t94 : Int) : M Value :=
  mLdB (p13.add 3) fun (x176 : Bool) =>
  mIf (x176 && (decide (n20 ≤ ticks17))) (
    mBind (N_signalboxlaw52_plain_tick (some p13)) fun r185 =>
    unB r185 fun (x185 : Bool) =>
    mIf x185 (
      K_signalboxlaw52_WatchdogPlays_36 d7 p13 a15 ticks17 n20 (ByteArray.mk #[108, 97, 116, 101]) (IntKind.i64.wrap (n20 + (1 : Int))) t92 t93 t94) (
      K_signalboxlaw52_WatchdogPlays_36 d7 p13 a15 ticks17 want18 what19 (IntKind.i64.wrap (n20 + (1 : Int))) t92 t93 t94)) (
    mLdI .i64 (a15.add 1) fun (x190 : Int) =>
    mBind (N_watchdog_Dog_Pass d7 x190) fun r191 =>
    un2 (unI .i64) unS r191 fun (x191_0 : Int) (x191_1 : ByteArray) =>
    mIf ((x191_0 != want18) || (!((x191_1).toList == (what19).toList))) (
      mRet (.bool false)) (
      K_signalboxlaw52_WatchdogPlays_43 d7 p13 t92 t93 t94))
def B_signalboxlaw52_WatchdogPlays_43 (d7 : Option Addr) (p13 : Addr) (t92 : Sl) (t93 : Int) (t94 : Int) : M Value :=
  mBind (N_watchdog_Dog_Bites d7) fun r204 =>
  un2 (unI .i64) (unI .i64) r204 fun (x204_0 : Int) (x204_1 : Int) =>
  mBind (N_watchdog_Dog_Left d7) fun r209 =>
  un3 (unI .i64) (unI .i64) unB r209 fun (x209_0 : Int) (x209_1 : Int) (x209_2 : Bool) =>
  mLdI .i64 (p13.add 4) fun (x217 : Int) =>
  mBind (mIf (x204_0 != x217) (mRet true) (mLdI .i64 (p13.add 5) fun (x224 : Int) =>
    mRet (x204_1 != x224))) fun (b69 : Bool) =>
  mBind (mIf b69 (mRet true) (mQ (N_watchdog_Dog_Awake d7) fun r229 =>
    unB r229 fun (x229 : Bool) =>
    mLdB (p13.add 3) fun (x233 : Bool) =>
    mRet (!(x229 == x233)))) fun (b74 : Bool) =>
  mBind (mIf b74 (mRet true) (mLdB (p13.add 3) fun (x241 : Bool) =>
    mRet (!(x209_2 == x241)))) fun (b78 : Bool) =>
  mIf b78 (
    mRet (.bool false)) (
    mBind (mIf x209_2 (mLdI .i64 p13 fun (x250 : Int) =>
      mLdI .i64 (p13.add 2) fun (x254 : Int) =>
      mBind (mIf (x209_0 != (if (0 : Int) > (IntKind.i64.wrap (x250 - x254)) then (0 : Int) else (IntKind.i64.wrap (x250 - x254)))) (mRet true) (mLdI .i64 (p13.add 1) fun (x263 : Int) =>
      mLdI .i64 (p13.add 2) fun (x267 : Int) =>
      mRet (x209_1 != (IntKind.i64.wrap (x263 - x267))))) fun (b91 : Bool) =>
      mRet b91) (mRet false)) fun (b92 : Bool) =>
    mIf b92 (
      mRet (.bool false)) (
      K_signalboxlaw52_WatchdogPlays_13 d7 p13 t92 t93 (IntKind.i64.wrap (t94 + (1 : Int)))))
theorem E_signalboxlaw52_WatchdogPlays (early0 : Int) (late1 : Int) (l2 : Sl) : ev Try.prog 13 Try.f13.results.toList C_signalboxlaw52_WatchdogPlays D_signalboxlaw52_WatchdogPlays 400 false [.code (bodyOf Try.f13)] (List.map some [.int .i64 early0, .int .i64 late1, .slice l2.p l2.n l2.c] ++ List.replicate (Try.f13.ntmps - List.length ([.int .i64 early0, .int .i64 late1, .slice l2.p l2.n l2.c] : List Value)) none) = B_signalboxlaw52_WatchdogPlays early0 late1 l2 := by kernel_rfl
theorem S_signalboxlaw52_WatchdogPlays (early0 : Int) (late1 : Int) (l2 : Sl) {h : Hp} {Q : Value → Hp → Prop} (hb : B_signalboxlaw52_WatchdogPlays early0 late1 l2 h Q) : N_signalboxlaw52_WatchdogPlays early0 late1 l2 h Q :=
  Nf.of_ev Try.call13 Try.func13 (c := bodyOf Try.f13) rfl mixed C_signalboxlaw52_WatchdogPlays D_signalboxlaw52_WatchdogPlays 400 (args := [.int .i64 early0, .int .i64 late1, .slice l2.p l2.n l2.c]) (by rw [E_signalboxlaw52_WatchdogPlays]; exact hb)
theorem E_signalboxlaw52_WatchdogPlays_13 (d7 : Option Addr) (p13 : Addr) (t92 : Sl) (t93 : Int) (t94 : Int) : ev Try.prog 13 Try.f13.results.toList C_signalboxlaw52_WatchdogPlays D_signalboxlaw52_WatchdogPlays 400 true (todoOf Try.f13 13) (T_signalboxlaw52_WatchdogPlays_13 d7 p13 t92 t93 t94) = B_signalboxlaw52_WatchdogPlays_13 d7 p13 t92 t93 t94 := by kernel_rfl
theorem S_signalboxlaw52_WatchdogPlays_13 (d7 : Option Addr) (p13 : Addr) (t92 : Sl) (t93 : Int) (t94 : Int) {h : Hp} {Q : Value → Hp → Prop} (hb : B_signalboxlaw52_WatchdogPlays_13 d7 p13 t92 t93 t94 h Q) : K_signalboxlaw52_WatchdogPlays_13 d7 p13 t92 t93 t94 h Q :=
  Cut.of_ev Try.func13 mixed C_signalboxlaw52_WatchdogPlays D_signalboxlaw52_WatchdogPlays 400 (by rw [E_signalboxlaw52_WatchdogPlays_13]; exact hb)
theorem E_signalboxlaw52_WatchdogPlays_36 (d7 : Option Addr) (p13 : Addr) (a15 : Addr) (ticks17 : Int) (want18 : Int) (what19 : ByteArray) (n20 : Int) (t92 : Sl) (t93 : Int) (t94 : Int) : ev Try.prog 13 Try.f13.results.toList C_signalboxlaw52_WatchdogPlays D_signalboxlaw52_WatchdogPlays 400 true (todoOf Try.f13 36) (T_signalboxlaw52_WatchdogPlays_36 d7 p13 a15 ticks17 want18 what19 n20 t92 t93 t94) = B_signalboxlaw52_WatchdogPlays_36 d7 p13 a15 ticks17 want18 what19 n20 t92 t93 t94 := by kernel_rfl
theorem S_signalboxlaw52_WatchdogPlays_36 (d7 : Option Addr) (p13 : Addr) (a15 : Addr) (ticks17 : Int) (want18 : Int) (what19 : ByteArray) (n20 : Int) (t92 : Sl) (t93 : Int) (t94 : Int) {h : Hp} {Q : Value → Hp → Prop} (hb : B_signalboxlaw52_WatchdogPlays_36 d7 p13 a15 ticks17 want18 what19 n20 t92 t93 t94 h Q) : K_signalboxlaw52_WatchdogPlays_36 d7 p13 a15 ticks17 want18 what19 n20 t92 t93 t94 h Q :=
  Cut.of_ev Try.func13 mixed C_signalboxlaw52_WatchdogPlays D_signalboxlaw52_WatchdogPlays 400 (by rw [E_signalboxlaw52_WatchdogPlays_36]; exact hb)
theorem E_signalboxlaw52_WatchdogPlays_43 (d7 : Option Addr) (p13 : Addr) (t92 : Sl) (t93 : Int) (t94 : Int) : ev Try.prog 13 Try.f13.results.toList C_signalboxlaw52_WatchdogPlays D_signalboxlaw52_WatchdogPlays 400 true (todoOf Try.f13 43) (T_signalboxlaw52_WatchdogPlays_43 d7 p13 t92 t93 t94) = B_signalboxlaw52_WatchdogPlays_43 d7 p13 t92 t93 t94 := by kernel_rfl
theorem S_signalboxlaw52_WatchdogPlays_43 (d7 : Option Addr) (p13 : Addr) (t92 : Sl) (t93 : Int) (t94 : Int) {h : Hp} {Q : Value → Hp → Prop} (hb : B_signalboxlaw52_WatchdogPlays_43 d7 p13 t92 t93 t94 h Q) : K_signalboxlaw52_WatchdogPlays_43 d7 p13 t92 t93 t94 h Q :=
  Cut.of_ev Try.func13 mixed C_signalboxlaw52_WatchdogPlays D_signalboxlaw52_WatchdogPlays 400 (by rw [E_signalboxlaw52_WatchdogPlays_43]; exact hb)
end Go.Proofs.Ytkmenmagclojmaa
