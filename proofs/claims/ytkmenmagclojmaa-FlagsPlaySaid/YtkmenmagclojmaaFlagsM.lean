/- What the functions of this layer come to, as forms of the small logic; written by program. Conditions: none. -/
import Derived.Test.YtkmenmagclojmaaSbU
import Derived.Test.YtkmenmagclojmaaChecked
import Derived.KernelRfl
set_option maxRecDepth 100000
namespace Go.Proofs.Ytkmenmagclojmaa
open Go Go.Sb
theorem mixed : Try.prog.follows .mixedOrders = true := by kernel_rfl
def N_signalboxlaw11_fixed : M Value := Nf Try.prog 21 #[]
def N_flags_New (n0 : Int) : M Value := Nf Try.prog 22 #[.int .i64 n0]
def N_flags_Groups_Set (g0 : Option Addr) (i1 : Int) (mask2 : Int) : M Value := Nf Try.prog 23 #[.pointer g0, .int .i64 i1, .int .i64 mask2]
def N_flags_Groups_Clear (g0 : Option Addr) (i1 : Int) (mask2 : Int) : M Value := Nf Try.prog 24 #[.pointer g0, .int .i64 i1, .int .i64 mask2]
def N_flags_Groups_Test (g0 : Option Addr) (i1 : Int) (mask2 : Int) (all3 : Bool) : M Value := Nf Try.prog 25 #[.pointer g0, .int .i64 i1, .int .i64 mask2, .bool all3]
def N_flags_Groups_Len (g0 : Option Addr) : M Value := Nf Try.prog 26 #[.pointer g0]
def N_flags_Groups_Value (g0 : Option Addr) (i1 : Int) : M Value := Nf Try.prog 27 #[.pointer g0, .int .i64 i1]
def N_flags_Groups_change (g0 : Option Addr) (i1 : Int) (do2g : Nat) (do2f : Array Value) (do2c : Array Value) : M Value := Nf Try.prog 65 #[.pointer g0, .int .i64 i1, .func (.func do2g) do2f do2c]
def N_flags_Groups_Set_1 (was0 : Int) (fv1 : Option Addr) : M Value := Nf Try.prog 66 #[.int .u8 was0, .pointer fv1]
def N_flags_Groups_Clear_1 (was0 : Int) (fv1 : Option Addr) : M Value := Nf Try.prog 67 #[.int .u8 was0, .pointer fv1]
def N_flags_Groups_Value_1 (was0 : Int) : M Value := Nf Try.prog 68 #[.int .u8 was0]
def N_signalboxlaw11_FlagsPlay (n0 : Int) (l1 : Sl) : M Value := Nf Try.prog 5 #[.int .i64 n0, .slice l1.p l1.n l1.c]
def N_signalboxlaw11_FlagsBack (i0 : Int) (first1 : Int) (mask2 : Int) : M Value := Nf Try.prog 6 #[.int .u8 i0, .int .i64 first1, .int .i64 mask2]
def C_signalboxlaw11_fixed : List (Nat × List Nat) := []
def D_signalboxlaw11_fixed : List (Nat × List Nat) := []
def B_signalboxlaw11_fixed : M Value :=
  mBind (N_flags_New (2 : Int)) fun r14 =>
  unP r14 fun (x14 : Option Addr) =>
  mBind (N_flags_Groups_Set x14 (1 : Int) (3 : Int)) fun r17 =>
  un2 (unI .i64) (unI .i64) r17 fun (x17_0 : Int) (x17_1 : Int) =>
  mBind (N_flags_Groups_Clear x14 (1 : Int) (1 : Int)) fun r22 =>
  un2 (unI .i64) (unI .i64) r22 fun (x22_0 : Int) (x22_1 : Int) =>
  mBind (N_flags_Groups_Value x14 (1 : Int)) fun r27 =>
  un2 (unI .i64) (unI .i64) r27 fun (x27_0 : Int) (x27_1 : Int) =>
  mBind (N_flags_Groups_Test x14 (1 : Int) (3 : Int) true) fun r32 =>
  un2 unB (unI .i64) r32 fun (x32_0 : Bool) (x32_1 : Int) =>
  mBind (N_flags_Groups_Test x14 (1 : Int) (3 : Int) false) fun r37 =>
  un2 unB (unI .i64) r37 fun (x37_0 : Bool) (x37_1 : Int) =>
  mBind (N_flags_Groups_Set x14 (2 : Int) (1 : Int)) fun r42 =>
  un2 (unI .i64) (unI .i64) r42 fun (_x42_0 : Int) (x42_1 : Int) =>
  mBind (mIf (((((((((((x17_0 == (0 : Int)) && (x17_1 == (0 : Int))) && (x22_0 == (3 : Int))) && (x22_1 == (0 : Int))) && (x27_0 == (2 : Int))) && (x27_1 == (0 : Int))) && (!x32_0)) && (x32_1 == (0 : Int))) && x37_0) && (x37_1 == (0 : Int))) && (x42_1 == (6 : Int))) (mBind (N_flags_Groups_Len x14) fun r88 =>
    unI .i64 r88 fun (x88 : Int) =>
    mRet (x88 == (2 : Int))) (mRet false)) fun (b9 : Bool) =>
  mRet (.bool b9)
theorem E_signalboxlaw11_fixed : ev Try.prog 21 Try.f21.results.toList C_signalboxlaw11_fixed D_signalboxlaw11_fixed 400 false [.code (bodyOf Try.f21)] (List.map some [] ++ List.replicate (Try.f21.ntmps - List.length ([] : List Value)) none) = B_signalboxlaw11_fixed := by kernel_rfl
theorem S_signalboxlaw11_fixed {h : Hp} {Q : Value → Hp → Prop} (hb : B_signalboxlaw11_fixed h Q) : N_signalboxlaw11_fixed h Q :=
  Nf.of_ev Try.call21 Try.func21 (c := bodyOf Try.f21) rfl mixed C_signalboxlaw11_fixed D_signalboxlaw11_fixed 400 (args := []) (by rw [E_signalboxlaw11_fixed]; exact hb)
def C_flags_New : List (Nat × List Nat) := []
def D_flags_New : List (Nat × List Nat) := []
def B_flags_New (n0 : Int) : M Value :=
  mMake 109 1 #[.int .u8 (0 : Int)] (if (4 : Int) < (if (0 : Int) > n0 then (0 : Int) else n0) then (4 : Int) else (if (0 : Int) > n0 then (0 : Int) else n0)) (if (4 : Int) < (if (0 : Int) > n0 then (0 : Int) else n0) then (4 : Int) else (if (0 : Int) > n0 then (0 : Int) else n0)) fun (x6 : Sl) =>
  mNew #[.slice x6.p x6.n x6.c] 107 fun (x8 : Addr) =>
  mRet (.pointer (some x8))
theorem E_flags_New (n0 : Int) : ev Try.prog 22 Try.f22.results.toList C_flags_New D_flags_New 400 false [.code (bodyOf Try.f22)] (List.map some [.int .i64 n0] ++ List.replicate (Try.f22.ntmps - List.length ([.int .i64 n0] : List Value)) none) = B_flags_New n0 := by kernel_rfl
theorem S_flags_New (n0 : Int) {h : Hp} {Q : Value → Hp → Prop} (hb : B_flags_New n0 h Q) : N_flags_New n0 h Q :=
  Nf.of_ev Try.call22 Try.func22 (c := bodyOf Try.f22) rfl mixed C_flags_New D_flags_New 400 (args := [.int .i64 n0]) (by rw [E_flags_New]; exact hb)
def C_flags_Groups_Set : List (Nat × List Nat) := []
def D_flags_Groups_Set : List (Nat × List Nat) := []
def B_flags_Groups_Set (g0 : Option Addr) (i1 : Int) (mask2 : Int) : M Value :=
  mNew #[.int .i64 mask2] 3 fun (x5 : Addr) =>
  mBind (N_flags_Groups_change g0 i1 (66) (#[]) (#[.pointer (some x5)])) fun r11 =>
  un2 (unI .i64) (unI .i64) r11 fun (x11_0 : Int) (x11_1 : Int) =>
  mRet (.tuple #[.int .i64 x11_0, .int .i64 x11_1])
theorem E_flags_Groups_Set (g0 : Option Addr) (i1 : Int) (mask2 : Int) : ev Try.prog 23 Try.f23.results.toList C_flags_Groups_Set D_flags_Groups_Set 400 false [.code (bodyOf Try.f23)] (List.map some [.pointer g0, .int .i64 i1, .int .i64 mask2] ++ List.replicate (Try.f23.ntmps - List.length ([.pointer g0, .int .i64 i1, .int .i64 mask2] : List Value)) none) = B_flags_Groups_Set g0 i1 mask2 := by kernel_rfl
theorem S_flags_Groups_Set (g0 : Option Addr) (i1 : Int) (mask2 : Int) {h : Hp} {Q : Value → Hp → Prop} (hb : B_flags_Groups_Set g0 i1 mask2 h Q) : N_flags_Groups_Set g0 i1 mask2 h Q :=
  Nf.of_ev Try.call23 Try.func23 (c := bodyOf Try.f23) rfl mixed C_flags_Groups_Set D_flags_Groups_Set 400 (args := [.pointer g0, .int .i64 i1, .int .i64 mask2]) (by rw [E_flags_Groups_Set]; exact hb)
def C_flags_Groups_Clear : List (Nat × List Nat) := []
def D_flags_Groups_Clear : List (Nat × List Nat) := []
def B_flags_Groups_Clear (g0 : Option Addr) (i1 : Int) (mask2 : Int) : M Value :=
  mNew #[.int .i64 mask2] 3 fun (x5 : Addr) =>
  mBind (N_flags_Groups_change g0 i1 (67) (#[]) (#[.pointer (some x5)])) fun r11 =>
  un2 (unI .i64) (unI .i64) r11 fun (x11_0 : Int) (x11_1 : Int) =>
  mRet (.tuple #[.int .i64 x11_0, .int .i64 x11_1])
theorem E_flags_Groups_Clear (g0 : Option Addr) (i1 : Int) (mask2 : Int) : ev Try.prog 24 Try.f24.results.toList C_flags_Groups_Clear D_flags_Groups_Clear 400 false [.code (bodyOf Try.f24)] (List.map some [.pointer g0, .int .i64 i1, .int .i64 mask2] ++ List.replicate (Try.f24.ntmps - List.length ([.pointer g0, .int .i64 i1, .int .i64 mask2] : List Value)) none) = B_flags_Groups_Clear g0 i1 mask2 := by kernel_rfl
theorem S_flags_Groups_Clear (g0 : Option Addr) (i1 : Int) (mask2 : Int) {h : Hp} {Q : Value → Hp → Prop} (hb : B_flags_Groups_Clear g0 i1 mask2 h Q) : N_flags_Groups_Clear g0 i1 mask2 h Q :=
  Nf.of_ev Try.call24 Try.func24 (c := bodyOf Try.f24) rfl mixed C_flags_Groups_Clear D_flags_Groups_Clear 400 (args := [.pointer g0, .int .i64 i1, .int .i64 mask2]) (by rw [E_flags_Groups_Clear]; exact hb)
def C_flags_Groups_Test : List (Nat × List Nat) := []
def D_flags_Groups_Test : List (Nat × List Nat) := []
def B_flags_Groups_Test (g0 : Option Addr) (i1 : Int) (mask2 : Int) (all3 : Bool) : M Value :=
  mBind (N_flags_Groups_Value g0 i1) fun r16 =>
  un2 (unI .i64) (unI .i64) r16 fun (x16_0 : Int) (x16_1 : Int) =>
  mIf (x16_1 != (0 : Int)) (
    mRet (.tuple #[.bool false, .int .i64 x16_1])) (
    mIf all3 (
      mRet (.tuple #[.bool ((iand .i64 (iand .i64 x16_0 mask2) (255 : Int)) == (iand .i64 mask2 (255 : Int))), .int .i64 (0 : Int)])) (
      mRet (.tuple #[.bool ((iand .i64 (iand .i64 x16_0 mask2) (255 : Int)) != (0 : Int)), .int .i64 (0 : Int)])))
theorem E_flags_Groups_Test (g0 : Option Addr) (i1 : Int) (mask2 : Int) (all3 : Bool) : ev Try.prog 25 Try.f25.results.toList C_flags_Groups_Test D_flags_Groups_Test 400 false [.code (bodyOf Try.f25)] (List.map some [.pointer g0, .int .i64 i1, .int .i64 mask2, .bool all3] ++ List.replicate (Try.f25.ntmps - List.length ([.pointer g0, .int .i64 i1, .int .i64 mask2, .bool all3] : List Value)) none) = B_flags_Groups_Test g0 i1 mask2 all3 := by kernel_rfl
theorem S_flags_Groups_Test (g0 : Option Addr) (i1 : Int) (mask2 : Int) (all3 : Bool) {h : Hp} {Q : Value → Hp → Prop} (hb : B_flags_Groups_Test g0 i1 mask2 all3 h Q) : N_flags_Groups_Test g0 i1 mask2 all3 h Q :=
  Nf.of_ev Try.call25 Try.func25 (c := bodyOf Try.f25) rfl mixed C_flags_Groups_Test D_flags_Groups_Test 400 (args := [.pointer g0, .int .i64 i1, .int .i64 mask2, .bool all3]) (by rw [E_flags_Groups_Test]; exact hb)
def C_flags_Groups_Len : List (Nat × List Nat) := []
def D_flags_Groups_Len : List (Nat × List Nat) := []
def B_flags_Groups_Len (g0 : Option Addr) : M Value :=
  mIf g0.isNone (
    mRet (.int .i64 (0 : Int))) (
    mNil g0 fun (a2 : Addr) =>
    mLdL a2 fun (x8 : Sl) =>
    mRet (.int .i64 (x8.n : Int)))
theorem E_flags_Groups_Len (g0 : Option Addr) : ev Try.prog 26 Try.f26.results.toList C_flags_Groups_Len D_flags_Groups_Len 400 false [.code (bodyOf Try.f26)] (List.map some [.pointer g0] ++ List.replicate (Try.f26.ntmps - List.length ([.pointer g0] : List Value)) none) = B_flags_Groups_Len g0 := by kernel_rfl
theorem S_flags_Groups_Len (g0 : Option Addr) {h : Hp} {Q : Value → Hp → Prop} (hb : B_flags_Groups_Len g0 h Q) : N_flags_Groups_Len g0 h Q :=
  Nf.of_ev Try.call26 Try.func26 (c := bodyOf Try.f26) rfl mixed C_flags_Groups_Len D_flags_Groups_Len 400 (args := [.pointer g0]) (by rw [E_flags_Groups_Len]; exact hb)
def C_flags_Groups_Value : List (Nat × List Nat) := []
def D_flags_Groups_Value : List (Nat × List Nat) := []
def B_flags_Groups_Value (g0 : Option Addr) (i1 : Int) : M Value :=
  mBind (N_flags_Groups_change g0 i1 (68) (#[]) (#[])) fun r8 =>
  un2 (unI .i64) (unI .i64) r8 fun (x8_0 : Int) (x8_1 : Int) =>
  mRet (.tuple #[.int .i64 x8_0, .int .i64 x8_1])
theorem E_flags_Groups_Value (g0 : Option Addr) (i1 : Int) : ev Try.prog 27 Try.f27.results.toList C_flags_Groups_Value D_flags_Groups_Value 400 false [.code (bodyOf Try.f27)] (List.map some [.pointer g0, .int .i64 i1] ++ List.replicate (Try.f27.ntmps - List.length ([.pointer g0, .int .i64 i1] : List Value)) none) = B_flags_Groups_Value g0 i1 := by kernel_rfl
theorem S_flags_Groups_Value (g0 : Option Addr) (i1 : Int) {h : Hp} {Q : Value → Hp → Prop} (hb : B_flags_Groups_Value g0 i1 h Q) : N_flags_Groups_Value g0 i1 h Q :=
  Nf.of_ev Try.call27 Try.func27 (c := bodyOf Try.f27) rfl mixed C_flags_Groups_Value D_flags_Groups_Value 400 (args := [.pointer g0, .int .i64 i1]) (by rw [E_flags_Groups_Value]; exact hb)
def C_flags_Groups_change : List (Nat × List Nat) := []
def D_flags_Groups_change : List (Nat × List Nat) := [(4, [0, 1, 2, 3, 4, 5, 6, 7, 8])]
def B_flags_Groups_change (g0 : Option Addr) (i1 : Int) (do2g : Nat) (do2f : Array Value) (do2c : Array Value) : M Value :=
  mBind (mIf (decide (i1 < (0 : Int))) (mRet true) (mBind (N_flags_Groups_Len g0) fun r14 =>
    unI .i64 r14 fun (x14 : Int) =>
    mRet (decide (i1 ≥ x14)))) fun (b2 : Bool) =>
  mIf b2 (
    mRet (.tuple #[.int .i64 (0 : Int), .int .i64 (6 : Int)])) (
    mNil g0 fun (a4 : Addr) =>
    mLdL a4 fun (x20 : Sl) =>
    mIdx x20 i1 1 fun (x22 : Addr) =>
    mLdI .u8 x22 fun (x23 : Int) =>
    mNil g0 fun (a10 : Addr) =>
    mLdL a10 fun (x27 : Sl) =>
    mQ (Nf Try.prog do2g (do2f ++ #[.int .u8 x23] ++ do2c)) fun r31 =>
    unI .u8 r31 fun (x31 : Int) =>
    mIdx x27 i1 1 fun (x32 : Addr) =>
    mSt x32 (.int .u8 x31) <|
    mRet (.tuple #[.int .i64 (IntKind.i64.wrap x23), .int .i64 (0 : Int)]))
theorem E_flags_Groups_change (g0 : Option Addr) (i1 : Int) (do2g : Nat) (do2f : Array Value) (do2c : Array Value) : ev Try.prog 65 Try.f65.results.toList C_flags_Groups_change D_flags_Groups_change 400 false [.code (bodyOf Try.f65)] (List.map some [.pointer g0, .int .i64 i1, .func (.func do2g) do2f do2c] ++ List.replicate (Try.f65.ntmps - List.length ([.pointer g0, .int .i64 i1, .func (.func do2g) do2f do2c] : List Value)) none) = B_flags_Groups_change g0 i1 do2g do2f do2c := by kernel_rfl
theorem S_flags_Groups_change (g0 : Option Addr) (i1 : Int) (do2g : Nat) (do2f : Array Value) (do2c : Array Value) {h : Hp} {Q : Value → Hp → Prop} (hb : B_flags_Groups_change g0 i1 do2g do2f do2c h Q) : N_flags_Groups_change g0 i1 do2g do2f do2c h Q :=
  Nf.of_ev Try.call65 Try.func65 (c := bodyOf Try.f65) rfl mixed C_flags_Groups_change D_flags_Groups_change 400 (args := [.pointer g0, .int .i64 i1, .func (.func do2g) do2f do2c]) (by rw [E_flags_Groups_change]; exact hb)
def C_flags_Groups_Set_1 : List (Nat × List Nat) := []
def D_flags_Groups_Set_1 : List (Nat × List Nat) := []
def B_flags_Groups_Set_1 (was0 : Int) (fv1 : Option Addr) : M Value :=
  mNil fv1 fun (a2 : Addr) =>
  mLdI .i64 a2 fun (x5 : Int) =>
  mRet (.int .u8 (ior .u8 was0 (IntKind.u8.wrap (iand .i64 x5 (255 : Int)))))
theorem E_flags_Groups_Set_1 (was0 : Int) (fv1 : Option Addr) : ev Try.prog 66 Try.f66.results.toList C_flags_Groups_Set_1 D_flags_Groups_Set_1 400 false [.code (bodyOf Try.f66)] (List.map some [.int .u8 was0, .pointer fv1] ++ List.replicate (Try.f66.ntmps - List.length ([.int .u8 was0, .pointer fv1] : List Value)) none) = B_flags_Groups_Set_1 was0 fv1 := by kernel_rfl
theorem S_flags_Groups_Set_1 (was0 : Int) (fv1 : Option Addr) {h : Hp} {Q : Value → Hp → Prop} (hb : B_flags_Groups_Set_1 was0 fv1 h Q) : N_flags_Groups_Set_1 was0 fv1 h Q :=
  Nf.of_ev Try.call66 Try.func66 (c := bodyOf Try.f66) rfl mixed C_flags_Groups_Set_1 D_flags_Groups_Set_1 400 (args := [.int .u8 was0, .pointer fv1]) (by rw [E_flags_Groups_Set_1]; exact hb)
def C_flags_Groups_Clear_1 : List (Nat × List Nat) := []
def D_flags_Groups_Clear_1 : List (Nat × List Nat) := []
def B_flags_Groups_Clear_1 (was0 : Int) (fv1 : Option Addr) : M Value :=
  mNil fv1 fun (a2 : Addr) =>
  mLdI .i64 a2 fun (x5 : Int) =>
  mRet (.int .u8 (iandn .u8 was0 (IntKind.u8.wrap (iand .i64 x5 (255 : Int)))))
theorem E_flags_Groups_Clear_1 (was0 : Int) (fv1 : Option Addr) : ev Try.prog 67 Try.f67.results.toList C_flags_Groups_Clear_1 D_flags_Groups_Clear_1 400 false [.code (bodyOf Try.f67)] (List.map some [.int .u8 was0, .pointer fv1] ++ List.replicate (Try.f67.ntmps - List.length ([.int .u8 was0, .pointer fv1] : List Value)) none) = B_flags_Groups_Clear_1 was0 fv1 := by kernel_rfl
theorem S_flags_Groups_Clear_1 (was0 : Int) (fv1 : Option Addr) {h : Hp} {Q : Value → Hp → Prop} (hb : B_flags_Groups_Clear_1 was0 fv1 h Q) : N_flags_Groups_Clear_1 was0 fv1 h Q :=
  Nf.of_ev Try.call67 Try.func67 (c := bodyOf Try.f67) rfl mixed C_flags_Groups_Clear_1 D_flags_Groups_Clear_1 400 (args := [.int .u8 was0, .pointer fv1]) (by rw [E_flags_Groups_Clear_1]; exact hb)
def C_flags_Groups_Value_1 : List (Nat × List Nat) := []
def D_flags_Groups_Value_1 : List (Nat × List Nat) := []
def B_flags_Groups_Value_1 (was0 : Int) : M Value :=
  mRet (.int .u8 was0)
theorem E_flags_Groups_Value_1 (was0 : Int) : ev Try.prog 68 Try.f68.results.toList C_flags_Groups_Value_1 D_flags_Groups_Value_1 400 false [.code (bodyOf Try.f68)] (List.map some [.int .u8 was0] ++ List.replicate (Try.f68.ntmps - List.length ([.int .u8 was0] : List Value)) none) = B_flags_Groups_Value_1 was0 := by kernel_rfl
theorem S_flags_Groups_Value_1 (was0 : Int) {h : Hp} {Q : Value → Hp → Prop} (hb : B_flags_Groups_Value_1 was0 h Q) : N_flags_Groups_Value_1 was0 h Q :=
  Nf.of_ev Try.call68 Try.func68 (c := bodyOf Try.f68) rfl mixed C_flags_Groups_Value_1 D_flags_Groups_Value_1 400 (args := [.int .u8 was0]) (by rw [E_flags_Groups_Value_1]; exact hb)
def C_signalboxlaw11_FlagsPlay : List (Nat × List Nat) := [(9, [5, 6, 7, 43, 44, 45]), (17, [5, 6, 7, 9, 10, 11, 12, 13, 14, 43, 44, 45, 64]), (22, [5, 6, 7, 9, 10, 11, 12, 13, 14, 15, 16, 43, 44, 45, 64]), (30, [5, 6, 7, 9, 12, 13, 14, 17, 43, 44, 45])]
def D_signalboxlaw11_FlagsPlay : List (Nat × List Nat) := [(25, [])]
def T_signalboxlaw11_FlagsPlay_9 (g5 : Option Addr) (many6 : Int) (up7 : Sl) (t43 : Sl) (t44 : Int) (t45 : Int) : Env := mkEnv [(5, .pointer g5), (6, .int .i64 many6), (7, .slice up7.p up7.n up7.c), (43, .slice t43.p t43.n t43.c), (44, .int .i64 t44), (45, .int .i64 t45)] 231 0
def K_signalboxlaw11_FlagsPlay_9 (g5 : Option Addr) (many6 : Int) (up7 : Sl) (t43 : Sl) (t44 : Int) (t45 : Int) : M Value := Cut Try.prog 5 (todoOf Try.f5 9) (T_signalboxlaw11_FlagsPlay_9 g5 many6 up7 t43 t44 t45)
def T_signalboxlaw11_FlagsPlay_17 (g5 : Option Addr) (many6 : Int) (up7 : Sl) (a9 : Addr) (in10 : Bool) (was11 : Addr) (number12 : Int) (all13 : Bool) (any14 : Bool) (t43 : Sl) (t44 : Int) (t45 : Int) (t64 : Int) : Env := mkEnv [(5, .pointer g5), (6, .int .i64 many6), (7, .slice up7.p up7.n up7.c), (9, .pointer (some a9)), (10, .bool in10), (11, .pointer (some was11)), (12, .int .i64 number12), (13, .bool all13), (14, .bool any14), (43, .slice t43.p t43.n t43.c), (44, .int .i64 t44), (45, .int .i64 t45), (64, .int .i64 t64)] 231 0
def K_signalboxlaw11_FlagsPlay_17 (g5 : Option Addr) (many6 : Int) (up7 : Sl) (a9 : Addr) (in10 : Bool) (was11 : Addr) (number12 : Int) (all13 : Bool) (any14 : Bool) (t43 : Sl) (t44 : Int) (t45 : Int) (t64 : Int) : M Value := Cut Try.prog 5 (todoOf Try.f5 17) (T_signalboxlaw11_FlagsPlay_17 g5 many6 up7 a9 in10 was11 number12 all13 any14 t43 t44 t45 t64)
def T_signalboxlaw11_FlagsPlay_22 (g5 : Option Addr) (many6 : Int) (up7 : Sl) (a9 : Addr) (in10 : Bool) (was11 : Addr) (number12 : Int) (all13 : Bool) (any14 : Bool) (b15 : Int) (bit16 : Bool) (t43 : Sl) (t44 : Int) (t45 : Int) (t64 : Int) : Env := mkEnv [(5, .pointer g5), (6, .int .i64 many6), (7, .slice up7.p up7.n up7.c), (9, .pointer (some a9)), (10, .bool in10), (11, .pointer (some was11)), (12, .int .i64 number12), (13, .bool all13), (14, .bool any14), (15, .int .i64 b15), (16, .bool bit16), (43, .slice t43.p t43.n t43.c), (44, .int .i64 t44), (45, .int .i64 t45), (64, .int .i64 t64)] 231 0
def K_signalboxlaw11_FlagsPlay_22 (g5 : Option Addr) (many6 : Int) (up7 : Sl) (a9 : Addr) (in10 : Bool) (was11 : Addr) (number12 : Int) (all13 : Bool) (any14 : Bool) (b15 : Int) (bit16 : Bool) (t43 : Sl) (t44 : Int) (t45 : Int) (t64 : Int) : M Value := Cut Try.prog 5 (todoOf Try.f5 22) (T_signalboxlaw11_FlagsPlay_22 g5 many6 up7 a9 in10 was11 number12 all13 any14 b15 bit16 t43 t44 t45 t64)
def T_signalboxlaw11_FlagsPlay_30 (g5 : Option Addr) (many6 : Int) (up7 : Sl) (a9 : Addr) (number12 : Int) (all13 : Bool) (any14 : Bool) (want17 : Int) (t43 : Sl) (t44 : Int) (t45 : Int) : Env := mkEnv [(5, .pointer g5), (6, .int .i64 many6), (7, .slice up7.p up7.n up7.c), (9, .pointer (some a9)), (12, .int .i64 number12), (13, .bool all13), (14, .bool any14), (17, .int .i64 want17), (43, .slice t43.p t43.n t43.c), (44, .int .i64 t44), (45, .int .i64 t45)] 231 0
def K_signalboxlaw11_FlagsPlay_30 (g5 : Option Addr) (many6 : Int) (up7 : Sl) (a9 : Addr) (number12 : Int) (all13 : Bool) (any14 : Bool) (want17 : Int) (t43 : Sl) (t44 : Int) (t45 : Int) : M Value := Cut Try.prog 5 (todoOf Try.f5 30) (T_signalboxlaw11_FlagsPlay_30 g5 many6 up7 a9 number12 all13 any14 want17 t43 t44 t45)
def B_signalboxlaw11_FlagsPlay (n0 : Int) (l1 : Sl) : M Value :=
  mBind (N_signalboxlaw11_fixed) fun r31 =>
  unB r31 fun (x31 : Bool) =>
  mIf (!x31) (
    mRet (.bool false)) (
    mIf (decide ((l1.n : Int) > (150 : Int))) (
      mRet (.bool true)) (
      mBind (N_flags_New n0) fun r37 =>
      unP r37 fun (x37 : Option Addr) =>
      mMake 39 8 #[.bool false, .bool false, .bool false, .bool false, .bool false, .bool false, .bool false, .bool false] (if (4 : Int) < (if (0 : Int) > n0 then (0 : Int) else n0) then (4 : Int) else (if (0 : Int) > n0 then (0 : Int) else n0)) (if (4 : Int) < (if (0 : Int) > n0 then (0 : Int) else n0) then (4 : Int) else (if (0 : Int) > n0 then (0 : Int) else n0)) fun (x42 : Sl) =>
      K_signalboxlaw11_FlagsPlay_9 x37 (if (4 : Int) < (if (0 : Int) > n0 then (0 : Int) else n0) then (4 : Int) else (if (0 : Int) > n0 then (0 : Int) else n0)) x42 l1 (l1.n : Int) (0 : Int)))
def B_signalboxlaw11_FlagsPlay_9 (g5 : Option Addr) (many6 : Int) (up7 : Sl) (t43 : Sl) (t44 : Int) (t45 : Int) : M Value :=
  mIf (decide (t45 < t44)) (
    mIdx t43 t45 3 fun (x47 : Addr) =>
    mLdI .u8 x47 fun (x48_0 : Int) =>
    mLdI .i64 (x47.add 1) fun (x48_1 : Int) =>
    mLdI .i64 (x47.add 2) fun (x48_2 : Int) =>
    mNew #[.int .u8 (0 : Int), .int .i64 (0 : Int), .int .i64 (0 : Int)] 38 fun (x9 : Addr) =>
    mSt x9 (.int .u8 x48_0) <|
    mSt (x9.add 1) (.int .i64 x48_1) <|
    mSt (x9.add 2) (.int .i64 x48_2) <|
    mLdI .i64 (x9.add 1) fun (x50 : Int) =>
    mBind (mIf (decide (x50 ≥ (0 : Int))) (mLdI .i64 (x9.add 1) fun (x54 : Int) =>
      mRet (decide (x54 < many6))) (mRet false)) fun (b12 : Bool) =>
    mNew #[.bool false, .bool false, .bool false, .bool false, .bool false, .bool false, .bool false, .bool false] 39 fun (x11 : Addr) =>
    mIf b12 (
      mLdI .i64 (x9.add 1) fun (x61 : Int) =>
      mIdx up7 x61 8 fun (x62 : Addr) =>
      mLdB x62 fun (x63_0 : Bool) =>
      mLdB (x62.add 1) fun (x63_1 : Bool) =>
      mLdB (x62.add 2) fun (x63_2 : Bool) =>
      mLdB (x62.add 3) fun (x63_3 : Bool) =>
      mLdB (x62.add 4) fun (x63_4 : Bool) =>
      mLdB (x62.add 5) fun (x63_5 : Bool) =>
      mLdB (x62.add 6) fun (x63_6 : Bool) =>
      mLdB (x62.add 7) fun (x63_7 : Bool) =>
      mSt x11 (.bool x63_0) <|
      mSt (x11.add 1) (.bool x63_1) <|
      mSt (x11.add 2) (.bool x63_2) <|
      mSt (x11.add 3) (.bool x63_3) <|
      mSt (x11.add 4) (.bool x63_4) <|
      mSt (x11.add 5) (.bool x63_5) <|
      mSt (x11.add 6) (.bool x63_6) <|
      mSt (x11.add 7) (.bool x63_7) <|
      K_signalboxlaw11_FlagsPlay_17 g5 many6 up7 x9 b12 x11 (0 : Int) true false t43 t44 t45 (0 : Int)) (
      K_signalboxlaw11_FlagsPlay_17 g5 many6 up7 x9 b12 x11 (0 : Int) true false t43 t44 t45 (0 : Int))) (
    mBind (N_flags_Groups_Set none (0 : Int) (1 : Int)) fun r206 =>
    un2 (unI .i64) (unI .i64) r206 fun (_x206_0 : Int) (x206_1 : Int) =>
    mBind (N_flags_Groups_Test none (0 : Int) (1 : Int) true) fun r211 =>
    un2 unB (unI .i64) r211 fun (_x211_0 : Bool) (x211_1 : Int) =>
    mBind (N_flags_Groups_Len g5) fun r215 =>
    unI .i64 r215 fun (x215 : Int) =>
    mBind (mIf (x215 == many6) (mBind (N_flags_Groups_Len none) fun r220 =>
      unI .i64 r220 fun (x220 : Int) =>
      mRet (x220 == (0 : Int))) (mRet false)) fun (b23 : Bool) =>
    mRet (.bool ((b23 && (x206_1 == (6 : Int))) && (x211_1 == (6 : Int)))))
def B_signalboxlaw11_FlagsPlay_17 (g5 : Option Addr) (many6 : Int) (up7 : Sl) (a9 : Addr) (in10 : Bool) (was11 : Addr) (number12 : Int) (all13 : Bool) (any14 : Bool) (t43 : Sl) (t44 : Int) (t45 : Int) (t64 : Int) : M Value :=
  mIf (decide (t64 < (8 : Int))) (
    mLdI .i64 (a9.add 2) fun (x68 : Int) =>
    mGuard (0 ≤ (IntKind.u64.wrap t64)) <|
    mIdx ⟨(some was11), 8, 8⟩ t64 1 fun (x75 : Addr) =>
    mLdB x75 fun (x76 : Bool) =>
    mIf x76 (
      mGuard (0 ≤ (IntKind.u64.wrap t64)) <|
      K_signalboxlaw11_FlagsPlay_22 g5 many6 up7 a9 in10 was11 (IntKind.i64.wrap (number12 + (ishl .i64 (1 : Int) (IntKind.u64.wrap t64)))) all13 any14 t64 ((iand .i64 (ishr .i64 x68 (IntKind.u64.wrap t64)) (1 : Int)) == (1 : Int)) t43 t44 t45 t64) (
      K_signalboxlaw11_FlagsPlay_22 g5 many6 up7 a9 in10 was11 number12 all13 any14 t64 ((iand .i64 (ishr .i64 x68 (IntKind.u64.wrap t64)) (1 : Int)) == (1 : Int)) t43 t44 t45 t64)) (
    mIf (!in10) (
      K_signalboxlaw11_FlagsPlay_30 g5 many6 up7 a9 number12 false false (6 : Int) t43 t44 t45) (
      K_signalboxlaw11_FlagsPlay_30 g5 many6 up7 a9 number12 all13 any14 (0 : Int) t43 t44 t45))
def B_signalboxlaw11_FlagsPlay_22 (g5 : Option Addr) (many6 : Int) (up7 : Sl) (a9 : Addr) (in10 : Bool) (was11 : Addr) (number12 : Int) (all13 : Bool) (any14 : Bool) (b15 : Int) (bit16 : Bool) (t43 : Sl) (t44 : Int) (t45 : Int) (t64 : Int) : M Value :=
  mBind (mIf all13 (mBind (mIf (!bit16) (mRet true) (mIdx ⟨(some was11), 8, 8⟩ b15 1 fun (x88 : Addr) =>
    mLdB x88 fun (x89 : Bool) =>
    mRet x89)) fun (b32 : Bool) =>
    mRet b32) (mRet false)) fun (b33 : Bool) =>
  mBind (mIf any14 (mRet true) (mBind (mIf bit16 (mIdx ⟨(some was11), 8, 8⟩ b15 1 fun (x97 : Addr) =>
    mLdB x97 fun (x98 : Bool) =>
    mRet x98) (mRet false)) fun (b36 : Bool) =>
    mRet b36)) fun (b37 : Bool) =>
  mBind (mIf (in10 && bit16) (mLdI .u8 a9 fun (x107 : Int) =>
    mGuard ((4 : Int) ≠ 0) <|
    mRet (decide ((Int.tmod x107 (4 : Int)) < (2 : Int)))) (mRet false)) fun (b41 : Bool) =>
  mIf b41 (
    mAnd (
      mLdI .i64 (a9.add 1) fun (x113_50 : Int) =>
      mIdx up7 x113_50 8 fun (x119_51 : Addr) =>
      mLdI .u8 a9 fun (x116_52 : Int) =>
      mGuard ((4 : Int) ≠ 0) <|
      mIdx ⟨(some x119_51), 8, 8⟩ b15 1 fun (x120_54 : Addr) =>
      mSt x120_54 (.bool ((Int.tmod x116_52 (4 : Int)) == (0 : Int))) <|
      K_signalboxlaw11_FlagsPlay_17 g5 many6 up7 a9 in10 was11 number12 b33 b37 t43 t44 t45 (IntKind.i64.wrap (t64 + (1 : Int)))) (
      mLdI .u8 a9 fun (x116 : Int) =>
      mGuard ((4 : Int) ≠ 0) <|
      mLdI .i64 (a9.add 1) fun (x113 : Int) =>
      mIdx up7 x113 8 fun (x119 : Addr) =>
      mIdx ⟨(some x119), 8, 8⟩ b15 1 fun (x120 : Addr) =>
      mSt x120 (.bool ((Int.tmod x116 (4 : Int)) == (0 : Int))) <|
      K_signalboxlaw11_FlagsPlay_17 g5 many6 up7 a9 in10 was11 number12 b33 b37 t43 t44 t45 (IntKind.i64.wrap (t64 + (1 : Int))))) (
    K_signalboxlaw11_FlagsPlay_17 g5 many6 up7 a9 in10 was11 number12 b33 b37 t43 t44 t45 (IntKind.i64.wrap (t64 + (1 : Int))))
def B_signalboxlaw11_FlagsPlay_30 (g5 : Option Addr) (many6 : Int) (up7 : Sl) (a9 : Addr) (number12 : Int) (all13 : Bool) (any14 : Bool) (want17 : Int) (t43 : Sl) (t44 : Int) (t45 : Int) : M Value :=
  mLdI .u8 a9 fun (x125 : Int) =>
  mGuard ((4 : Int) ≠ 0) <|
  mIf ((Int.tmod x125 (4 : Int)) == (0 : Int)) (
    mLdI .i64 (a9.add 1) fun (x132 : Int) =>
    mLdI .i64 (a9.add 2) fun (x134 : Int) =>
    mBind (N_flags_Groups_Set g5 x132 x134) fun r135 =>
    un2 (unI .i64) (unI .i64) r135 fun (x135_0 : Int) (x135_1 : Int) =>
    mIf ((x135_0 != number12) || (x135_1 != want17)) (
      mRet (.bool false)) (
      K_signalboxlaw11_FlagsPlay_9 g5 many6 up7 t43 t44 (IntKind.i64.wrap (t45 + (1 : Int))))) (
    mIf ((Int.tmod x125 (4 : Int)) == (1 : Int)) (
      mLdI .i64 (a9.add 1) fun (x151 : Int) =>
      mLdI .i64 (a9.add 2) fun (x153 : Int) =>
      mBind (N_flags_Groups_Clear g5 x151 x153) fun r154 =>
      un2 (unI .i64) (unI .i64) r154 fun (x154_0 : Int) (x154_1 : Int) =>
      mIf ((x154_0 != number12) || (x154_1 != want17)) (
        mRet (.bool false)) (
        K_signalboxlaw11_FlagsPlay_9 g5 many6 up7 t43 t44 (IntKind.i64.wrap (t45 + (1 : Int))))) (
      mIf ((Int.tmod x125 (4 : Int)) == (2 : Int)) (
        mLdI .i64 (a9.add 1) fun (x170 : Int) =>
        mLdI .i64 (a9.add 2) fun (x172 : Int) =>
        mBind (N_flags_Groups_Test g5 x170 x172 true) fun r173 =>
        un2 unB (unI .i64) r173 fun (x173_0 : Bool) (x173_1 : Int) =>
        mIf ((!(x173_0 == all13)) || (x173_1 != want17)) (
          mRet (.bool false)) (
          K_signalboxlaw11_FlagsPlay_9 g5 many6 up7 t43 t44 (IntKind.i64.wrap (t45 + (1 : Int))))) (
        mIf ((Int.tmod x125 (4 : Int)) == (3 : Int)) (
          mLdI .i64 (a9.add 1) fun (x189 : Int) =>
          mLdI .i64 (a9.add 2) fun (x191 : Int) =>
          mBind (N_flags_Groups_Test g5 x189 x191 false) fun r192 =>
          un2 unB (unI .i64) r192 fun (x192_0 : Bool) (x192_1 : Int) =>
          mIf ((!(x192_0 == any14)) || (x192_1 != want17)) (
            mRet (.bool false)) (
            K_signalboxlaw11_FlagsPlay_9 g5 many6 up7 t43 t44 (IntKind.i64.wrap (t45 + (1 : Int))))) (
          K_signalboxlaw11_FlagsPlay_9 g5 many6 up7 t43 t44 (IntKind.i64.wrap (t45 + (1 : Int)))))))
theorem E_signalboxlaw11_FlagsPlay (n0 : Int) (l1 : Sl) : ev Try.prog 5 Try.f5.results.toList C_signalboxlaw11_FlagsPlay D_signalboxlaw11_FlagsPlay 400 false [.code (bodyOf Try.f5)] (List.map some [.int .i64 n0, .slice l1.p l1.n l1.c] ++ List.replicate (Try.f5.ntmps - List.length ([.int .i64 n0, .slice l1.p l1.n l1.c] : List Value)) none) = B_signalboxlaw11_FlagsPlay n0 l1 := by kernel_rfl
theorem S_signalboxlaw11_FlagsPlay (n0 : Int) (l1 : Sl) {h : Hp} {Q : Value → Hp → Prop} (hb : B_signalboxlaw11_FlagsPlay n0 l1 h Q) : N_signalboxlaw11_FlagsPlay n0 l1 h Q :=
  Nf.of_ev Try.call5 Try.func5 (c := bodyOf Try.f5) rfl mixed C_signalboxlaw11_FlagsPlay D_signalboxlaw11_FlagsPlay 400 (args := [.int .i64 n0, .slice l1.p l1.n l1.c]) (by rw [E_signalboxlaw11_FlagsPlay]; exact hb)
theorem E_signalboxlaw11_FlagsPlay_9 (g5 : Option Addr) (many6 : Int) (up7 : Sl) (t43 : Sl) (t44 : Int) (t45 : Int) : ev Try.prog 5 Try.f5.results.toList C_signalboxlaw11_FlagsPlay D_signalboxlaw11_FlagsPlay 400 true (todoOf Try.f5 9) (T_signalboxlaw11_FlagsPlay_9 g5 many6 up7 t43 t44 t45) = B_signalboxlaw11_FlagsPlay_9 g5 many6 up7 t43 t44 t45 := by kernel_rfl
theorem S_signalboxlaw11_FlagsPlay_9 (g5 : Option Addr) (many6 : Int) (up7 : Sl) (t43 : Sl) (t44 : Int) (t45 : Int) {h : Hp} {Q : Value → Hp → Prop} (hb : B_signalboxlaw11_FlagsPlay_9 g5 many6 up7 t43 t44 t45 h Q) : K_signalboxlaw11_FlagsPlay_9 g5 many6 up7 t43 t44 t45 h Q :=
  Cut.of_ev Try.func5 mixed C_signalboxlaw11_FlagsPlay D_signalboxlaw11_FlagsPlay 400 (by rw [E_signalboxlaw11_FlagsPlay_9]; exact hb)
theorem E_signalboxlaw11_FlagsPlay_17 (g5 : Option Addr) (many6 : Int) (up7 : Sl) (a9 : Addr) (in10 : Bool) (was11 : Addr) (number12 : Int) (all13 : Bool) (any14 : Bool) (t43 : Sl) (t44 : Int) (t45 : Int) (t64 : Int) : ev Try.prog 5 Try.f5.results.toList C_signalboxlaw11_FlagsPlay D_signalboxlaw11_FlagsPlay 400 true (todoOf Try.f5 17) (T_signalboxlaw11_FlagsPlay_17 g5 many6 up7 a9 in10 was11 number12 all13 any14 t43 t44 t45 t64) = B_signalboxlaw11_FlagsPlay_17 g5 many6 up7 a9 in10 was11 number12 all13 any14 t43 t44 t45 t64 := by kernel_rfl
theorem S_signalboxlaw11_FlagsPlay_17 (g5 : Option Addr) (many6 : Int) (up7 : Sl) (a9 : Addr) (in10 : Bool) (was11 : Addr) (number12 : Int) (all13 : Bool) (any14 : Bool) (t43 : Sl) (t44 : Int) (t45 : Int) (t64 : Int) {h : Hp} {Q : Value → Hp → Prop} (hb : B_signalboxlaw11_FlagsPlay_17 g5 many6 up7 a9 in10 was11 number12 all13 any14 t43 t44 t45 t64 h Q) : K_signalboxlaw11_FlagsPlay_17 g5 many6 up7 a9 in10 was11 number12 all13 any14 t43 t44 t45 t64 h Q :=
  Cut.of_ev Try.func5 mixed C_signalboxlaw11_FlagsPlay D_signalboxlaw11_FlagsPlay 400 (by rw [E_signalboxlaw11_FlagsPlay_17]; exact hb)
theorem E_signalboxlaw11_FlagsPlay_22 (g5 : Option Addr) (many6 : Int) (up7 : Sl) (a9 : Addr) (in10 : Bool) (was11 : Addr) (number12 : Int) (all13 : Bool) (any14 : Bool) (b15 : Int) (bit16 : Bool) (t43 : Sl) (t44 : Int) (t45 : Int) (t64 : Int) : ev Try.prog 5 Try.f5.results.toList C_signalboxlaw11_FlagsPlay D_signalboxlaw11_FlagsPlay 400 true (todoOf Try.f5 22) (T_signalboxlaw11_FlagsPlay_22 g5 many6 up7 a9 in10 was11 number12 all13 any14 b15 bit16 t43 t44 t45 t64) = B_signalboxlaw11_FlagsPlay_22 g5 many6 up7 a9 in10 was11 number12 all13 any14 b15 bit16 t43 t44 t45 t64 := by kernel_rfl
theorem S_signalboxlaw11_FlagsPlay_22 (g5 : Option Addr) (many6 : Int) (up7 : Sl) (a9 : Addr) (in10 : Bool) (was11 : Addr) (number12 : Int) (all13 : Bool) (any14 : Bool) (b15 : Int) (bit16 : Bool) (t43 : Sl) (t44 : Int) (t45 : Int) (t64 : Int) {h : Hp} {Q : Value → Hp → Prop} (hb : B_signalboxlaw11_FlagsPlay_22 g5 many6 up7 a9 in10 was11 number12 all13 any14 b15 bit16 t43 t44 t45 t64 h Q) : K_signalboxlaw11_FlagsPlay_22 g5 many6 up7 a9 in10 was11 number12 all13 any14 b15 bit16 t43 t44 t45 t64 h Q :=
  Cut.of_ev Try.func5 mixed C_signalboxlaw11_FlagsPlay D_signalboxlaw11_FlagsPlay 400 (by rw [E_signalboxlaw11_FlagsPlay_22]; exact hb)
theorem E_signalboxlaw11_FlagsPlay_30 (g5 : Option Addr) (many6 : Int) (up7 : Sl) (a9 : Addr) (number12 : Int) (all13 : Bool) (any14 : Bool) (want17 : Int) (t43 : Sl) (t44 : Int) (t45 : Int) : ev Try.prog 5 Try.f5.results.toList C_signalboxlaw11_FlagsPlay D_signalboxlaw11_FlagsPlay 400 true (todoOf Try.f5 30) (T_signalboxlaw11_FlagsPlay_30 g5 many6 up7 a9 number12 all13 any14 want17 t43 t44 t45) = B_signalboxlaw11_FlagsPlay_30 g5 many6 up7 a9 number12 all13 any14 want17 t43 t44 t45 := by kernel_rfl
theorem S_signalboxlaw11_FlagsPlay_30 (g5 : Option Addr) (many6 : Int) (up7 : Sl) (a9 : Addr) (number12 : Int) (all13 : Bool) (any14 : Bool) (want17 : Int) (t43 : Sl) (t44 : Int) (t45 : Int) {h : Hp} {Q : Value → Hp → Prop} (hb : B_signalboxlaw11_FlagsPlay_30 g5 many6 up7 a9 number12 all13 any14 want17 t43 t44 t45 h Q) : K_signalboxlaw11_FlagsPlay_30 g5 many6 up7 a9 number12 all13 any14 want17 t43 t44 t45 h Q :=
  Cut.of_ev Try.func5 mixed C_signalboxlaw11_FlagsPlay D_signalboxlaw11_FlagsPlay 400 (by rw [E_signalboxlaw11_FlagsPlay_30]; exact hb)
def C_signalboxlaw11_FlagsBack : List (Nat × List Nat) := []
def D_signalboxlaw11_FlagsBack : List (Nat × List Nat) := []
def B_signalboxlaw11_FlagsBack (i0 : Int) (first1 : Int) (mask2 : Int) : M Value :=
  mBind (N_signalboxlaw11_fixed) fun r15 =>
  unB r15 fun (x15 : Bool) =>
  mIf (!x15) (
    mRet (.bool false)) (
    mBind (N_flags_New (4 : Int)) fun r17 =>
    unP r17 fun (x17 : Option Addr) =>
    mGuard ((4 : Int) ≠ 0) <|
    mBind (N_flags_Groups_Set x17 (IntKind.i64.wrap (Int.tmod i0 (4 : Int))) first1) fun r24 =>
    un2 (unI .i64) (unI .i64) r24 fun (_x24_0 : Int) (_x24_1 : Int) =>
    mBind (N_flags_Groups_Set x17 (IntKind.i64.wrap (Int.tmod i0 (4 : Int))) mask2) fun r29 =>
    un2 (unI .i64) (unI .i64) r29 fun (x29_0 : Int) (x29_1 : Int) =>
    mBind (N_flags_Groups_Clear x17 (IntKind.i64.wrap (Int.tmod i0 (4 : Int))) mask2) fun r36 =>
    un2 (unI .i64) (unI .i64) r36 fun (x36_0 : Int) (x36_1 : Int) =>
    mBind (N_flags_Groups_Value x17 (IntKind.i64.wrap (Int.tmod i0 (4 : Int)))) fun r42 =>
    un2 (unI .i64) (unI .i64) r42 fun (x42_0 : Int) (x42_1 : Int) =>
    mRet (.bool ((((((x29_1 == (0 : Int)) && (x36_1 == (0 : Int))) && (x42_1 == (0 : Int))) && (x29_0 == (iand .i64 first1 (255 : Int)))) && (x36_0 == (iand .i64 (ior .i64 first1 mask2) (255 : Int)))) && (x42_0 == (iand .i64 (iandn .i64 first1 mask2) (255 : Int))))))
theorem E_signalboxlaw11_FlagsBack (i0 : Int) (first1 : Int) (mask2 : Int) : ev Try.prog 6 Try.f6.results.toList C_signalboxlaw11_FlagsBack D_signalboxlaw11_FlagsBack 400 false [.code (bodyOf Try.f6)] (List.map some [.int .u8 i0, .int .i64 first1, .int .i64 mask2] ++ List.replicate (Try.f6.ntmps - List.length ([.int .u8 i0, .int .i64 first1, .int .i64 mask2] : List Value)) none) = B_signalboxlaw11_FlagsBack i0 first1 mask2 := by kernel_rfl
theorem S_signalboxlaw11_FlagsBack (i0 : Int) (first1 : Int) (mask2 : Int) {h : Hp} {Q : Value → Hp → Prop} (hb : B_signalboxlaw11_FlagsBack i0 first1 mask2 h Q) : N_signalboxlaw11_FlagsBack i0 first1 mask2 h Q :=
  Nf.of_ev Try.call6 Try.func6 (c := bodyOf Try.f6) rfl mixed C_signalboxlaw11_FlagsBack D_signalboxlaw11_FlagsBack 400 (args := [.int .u8 i0, .int .i64 first1, .int .i64 mask2]) (by rw [E_signalboxlaw11_FlagsBack]; exact hb)
end Go.Proofs.Ytkmenmagclojmaa
