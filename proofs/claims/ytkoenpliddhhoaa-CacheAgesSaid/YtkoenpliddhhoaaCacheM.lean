/- What the functions of this layer come to, as forms of the small logic; written by program. Conditions: none. -/
import Derived.Test.YtkoenpliddhhoaaSbU
import Derived.Test.YtkoenpliddhhoaaChecked
import Derived.KernelRfl
set_option maxRecDepth 100000
namespace Go.Proofs.Ytkoenpliddhhoaa
open Go Go.Sb
theorem mixed : Try.prog.follows .mixedOrders = true := by kernel_rfl
def N_signalboxlaw08_fixed : M Value := Nf Try.prog 21 #[]
def N_cache_New (sets0 : Int) (ways1 : Int) : M Value := Nf Try.prog 22 #[.int .i64 sets0, .int .i64 ways1]
def N_cache_Cache_Access (c0 : Option Addr) (block1 : Int) : M Value := Nf Try.prog 23 #[.pointer c0, .int .i64 block1]
def N_cache_Cache_Twin (c0 : Option Addr) : M Value := Nf Try.prog 24 #[.pointer c0]
def N_cache_Cache_Set (c0 : Option Addr) (i1 : Int) : M Value := Nf Try.prog 57 #[.pointer c0, .int .i64 i1]
def N_cache_Cache_Age (c0 : Option Addr) (block1 : Int) : M Value := Nf Try.prog 58 #[.pointer c0, .int .i64 block1]
def N_cache_Cache_Of (c0 : Option Addr) (block1 : Int) : M Value := Nf Try.prog 59 #[.pointer c0, .int .i64 block1]
def N_slices_Index_int_int (s0 : Sl) (v1 : Int) : M Value := Nf Try.prog 73 #[.slice s0.p s0.n s0.c, .int .i64 v1]
def N_signalboxlaw08_CacheAges (sets0 : Int) (ways1 : Int) (l2 : Sl) (block3 : Int) (m4 : Sl) : M Value := Nf Try.prog 5 #[.int .u8 sets0, .int .u8 ways1, .slice l2.p l2.n l2.c, .int .u8 block3, .slice m4.p m4.n m4.c]
def N_signalboxlaw08_CacheTwin (sets0 : Int) (ways1 : Int) (l2 : Sl) (m3 : Sl) : M Value := Nf Try.prog 6 #[.int .u8 sets0, .int .u8 ways1, .slice l2.p l2.n l2.c, .slice m3.p m3.n m3.c]
def C_signalboxlaw08_fixed : List (Nat × List Nat) := []
def D_signalboxlaw08_fixed : List (Nat × List Nat) := []
def B_signalboxlaw08_fixed : M Value :=
  mBind (N_cache_New (2 : Int) (2 : Int)) fun r11 =>
  unP r11 fun (x11 : Option Addr) =>
  mBind (N_cache_Cache_Access x11 (4 : Int)) fun r14 =>
  un2 unB (unI .i64) r14 fun (x14_0 : Bool) (x14_1 : Int) =>
  mBind (N_cache_Cache_Access x11 (2 : Int)) fun r19 =>
  un2 unB (unI .i64) r19 fun (x19_0 : Bool) (x19_1 : Int) =>
  mBind (N_cache_Cache_Access x11 (4 : Int)) fun r24 =>
  un2 unB (unI .i64) r24 fun (x24_0 : Bool) (x24_1 : Int) =>
  mBind (N_cache_Cache_Access x11 (-1 : Int)) fun r29 =>
  un2 unB (unI .i64) r29 fun (_x29_0 : Bool) (x29_1 : Int) =>
  mBind (N_cache_Cache_Set x11 (0 : Int)) fun r33 =>
  unL r33 fun (x33 : Sl) =>
  mBind (mIf ((((((((!x14_0) && (x14_1 == (0 : Int))) && (!x19_0)) && (x19_1 == (0 : Int))) && x24_0) && (x24_1 == (0 : Int))) && (x29_1 == (5 : Int))) && ((x33.n : Int) == (2 : Int))) (mIdx x33 (0 : Int) 1 fun (x66 : Addr) =>
    mLdI .i64 x66 fun (x67 : Int) =>
    mRet (x67 == (4 : Int))) (mRet false)) fun (b9 : Bool) =>
  mBind (mIf b9 (mBind (N_cache_Cache_Age x11 (2 : Int)) fun r72 =>
    unI .i64 r72 fun (x72 : Int) =>
    mRet (x72 == (1 : Int))) (mRet false)) fun (b11 : Bool) =>
  mBind (mIf b11 (mBind (N_cache_Cache_Of x11 (3 : Int)) fun r77 =>
    unI .i64 r77 fun (x77 : Int) =>
    mRet (x77 == (1 : Int))) (mRet false)) fun (b13 : Bool) =>
  mBind (mIf b13 (mBind (N_cache_New (0 : Int) (1 : Int)) fun r81 =>
    unP r81 fun (x81 : Option Addr) =>
    mRet x81.isNone) (mRet false)) fun (b15 : Bool) =>
  mRet (.bool b15)
theorem E_signalboxlaw08_fixed : ev Try.prog 21 Try.f21.results.toList C_signalboxlaw08_fixed D_signalboxlaw08_fixed 400 false [.code (bodyOf Try.f21)] (List.map some [] ++ List.replicate (Try.f21.ntmps - List.length ([] : List Value)) none) = B_signalboxlaw08_fixed := by kernel_rfl
theorem S_signalboxlaw08_fixed {h : Hp} {Q : Value → Hp → Prop} (hb : B_signalboxlaw08_fixed h Q) : N_signalboxlaw08_fixed h Q :=
  Nf.of_ev Try.call21 Try.func21 (c := bodyOf Try.f21) rfl mixed C_signalboxlaw08_fixed D_signalboxlaw08_fixed 400 (args := []) (by rw [E_signalboxlaw08_fixed]; exact hb)
def C_cache_New : List (Nat × List Nat) := []
def D_cache_New : List (Nat × List Nat) := []
def B_cache_New (sets0 : Int) (ways1 : Int) : M Value :=
  mIf ((((decide (sets0 < (1 : Int))) || (decide (sets0 > (16 : Int)))) || (decide (ways1 < (1 : Int)))) || (decide (ways1 > (4 : Int)))) (
    mRet (.pointer none)) (
    mMake 24 24 #[.slice none (0) (0)] sets0 sets0 fun (x21 : Sl) =>
    mNew #[.int .i64 ways1, .slice x21.p x21.n x21.c] 115 fun (x23 : Addr) =>
    mRet (.pointer (some x23)))
theorem E_cache_New (sets0 : Int) (ways1 : Int) : ev Try.prog 22 Try.f22.results.toList C_cache_New D_cache_New 400 false [.code (bodyOf Try.f22)] (List.map some [.int .i64 sets0, .int .i64 ways1] ++ List.replicate (Try.f22.ntmps - List.length ([.int .i64 sets0, .int .i64 ways1] : List Value)) none) = B_cache_New sets0 ways1 := by kernel_rfl
theorem S_cache_New (sets0 : Int) (ways1 : Int) {h : Hp} {Q : Value → Hp → Prop} (hb : B_cache_New sets0 ways1 h Q) : N_cache_New sets0 ways1 h Q :=
  Nf.of_ev Try.call22 Try.func22 (c := bodyOf Try.f22) rfl mixed C_cache_New D_cache_New 400 (args := [.int .i64 sets0, .int .i64 ways1]) (by rw [E_cache_New]; exact hb)
def C_cache_Cache_Access : List (Nat × List Nat) := [(13, [0, 1, 6, 7, 8, 9])]
def D_cache_Cache_Access : List (Nat × List Nat) := [(13, [])]
def T_cache_Cache_Access_13 (c0 : Option Addr) (block1 : Int) (set6 : Int) (at7 : Int) (row8 : Sl) (hit9 : Bool) : Env := mkEnv [(0, .pointer c0), (1, .int .i64 block1), (6, .int .i64 set6), (7, .int .i64 at7), (8, .slice row8.p row8.n row8.c), (9, .bool hit9)] 64 0
def K_cache_Cache_Access_13 (c0 : Option Addr) (block1 : Int) (set6 : Int) (at7 : Int) (row8 : Sl) (hit9 : Bool) : M Value := Cut Try.prog 23 (todoOf Try.f23 13) (T_cache_Cache_Access_13 c0 block1 set6 at7 row8 hit9)
def B_cache_Cache_Access (c0 : Option Addr) (block1 : Int) : M Value :=
  mIf c0.isNone (
    mRet (.tuple #[.bool false, .int .i64 (1 : Int)])) (
    mBind (N_cache_Cache_Of c0 block1) fun r14 =>
    unI .i64 r14 fun (x14 : Int) =>
    mIf (x14 == (-1 : Int)) (
      mRet (.tuple #[.bool false, .int .i64 (5 : Int)])) (
      mBind (N_cache_Cache_Age c0 block1) fun r19 =>
      unI .i64 r19 fun (x19 : Int) =>
      mNil c0 fun (a4 : Addr) =>
      mLdL (a4.add 1) fun (x23 : Sl) =>
      mIdx x23 x14 1 fun (x25 : Addr) =>
      mLdL x25 fun (x26 : Sl) =>
      mIf (!(x19 != (-1 : Int))) (
        mNil c0 fun (a10 : Addr) =>
        mLdI .i64 a10 fun (x36 : Int) =>
        mIf (decide ((x26.n : Int) < x36)) (
          mNew #[.int .i64 block1] 3 fun (x40 : Addr) =>
          mApp 3 1 8 #[.int .i64 (0 : Int)] x26 ⟨(some x40), 1, 1⟩ fun (x41 : Sl) =>
          K_cache_Cache_Access_13 c0 block1 x14 (IntKind.i64.wrap ((x41.n : Int) - (1 : Int))) x41 (x19 != (-1 : Int))) (
          K_cache_Cache_Access_13 c0 block1 x14 (IntKind.i64.wrap ((x26.n : Int) - (1 : Int))) x26 (x19 != (-1 : Int)))) (
        K_cache_Cache_Access_13 c0 block1 x14 x19 x26 (x19 != (-1 : Int)))))
def B_cache_Cache_Access_13 (c0 : Option Addr) (block1 : Int) (set6 : Int) (at7 : Int) (row8 : Sl) (hit9 : Bool) : M Value :=
  mSlc row8 1 (1 : Int) (IntKind.i64.wrap (at7 + (1 : Int))) (row8.c : Int) fun (x48 : Sl) =>
  mSlc row8 1 (0 : Int) at7 (row8.c : Int) fun (x51 : Sl) =>
  mCopy 1 x48 x51 fun (_x52 : Int) =>
  mIdx row8 (0 : Int) 1 fun (x55 : Addr) =>
  mSt x55 (.int .i64 block1) <|
  mNil c0 fun (a21 : Addr) =>
  mLdL (a21.add 1) fun (x59 : Sl) =>
  mIdx x59 set6 1 fun (x62 : Addr) =>
  mSt x62 (.slice row8.p row8.n row8.c) <|
  mRet (.tuple #[.bool hit9, .int .i64 (0 : Int)])
theorem E_cache_Cache_Access (c0 : Option Addr) (block1 : Int) : ev Try.prog 23 Try.f23.results.toList C_cache_Cache_Access D_cache_Cache_Access 400 false [.code (bodyOf Try.f23)] (List.map some [.pointer c0, .int .i64 block1] ++ List.replicate (Try.f23.ntmps - List.length ([.pointer c0, .int .i64 block1] : List Value)) none) = B_cache_Cache_Access c0 block1 := by kernel_rfl
theorem S_cache_Cache_Access (c0 : Option Addr) (block1 : Int) {h : Hp} {Q : Value → Hp → Prop} (hb : B_cache_Cache_Access c0 block1 h Q) : N_cache_Cache_Access c0 block1 h Q :=
  Nf.of_ev Try.call23 Try.func23 (c := bodyOf Try.f23) rfl mixed C_cache_Cache_Access D_cache_Cache_Access 400 (args := [.pointer c0, .int .i64 block1]) (by rw [E_cache_Cache_Access]; exact hb)
theorem E_cache_Cache_Access_13 (c0 : Option Addr) (block1 : Int) (set6 : Int) (at7 : Int) (row8 : Sl) (hit9 : Bool) : ev Try.prog 23 Try.f23.results.toList C_cache_Cache_Access D_cache_Cache_Access 400 true (todoOf Try.f23 13) (T_cache_Cache_Access_13 c0 block1 set6 at7 row8 hit9) = B_cache_Cache_Access_13 c0 block1 set6 at7 row8 hit9 := by kernel_rfl
theorem S_cache_Cache_Access_13 (c0 : Option Addr) (block1 : Int) (set6 : Int) (at7 : Int) (row8 : Sl) (hit9 : Bool) {h : Hp} {Q : Value → Hp → Prop} (hb : B_cache_Cache_Access_13 c0 block1 set6 at7 row8 hit9 h Q) : K_cache_Cache_Access_13 c0 block1 set6 at7 row8 hit9 h Q :=
  Cut.of_ev Try.func23 mixed C_cache_Cache_Access D_cache_Cache_Access 400 (by rw [E_cache_Cache_Access_13]; exact hb)
def C_cache_Cache_Twin : List (Nat × List Nat) := [(5, [0, 3, 21, 22])]
def D_cache_Cache_Twin : List (Nat × List Nat) := [(3, []), (7, [])]
def T_cache_Cache_Twin_5 (c0 : Option Addr) (out3 : Option Addr) (t21 : Int) (t22 : Int) : Env := mkEnv [(0, .pointer c0), (3, .pointer out3), (21, .int .i64 t21), (22, .int .i64 t22)] 36 0
def K_cache_Cache_Twin_5 (c0 : Option Addr) (out3 : Option Addr) (t21 : Int) (t22 : Int) : M Value := Cut Try.prog 24 (todoOf Try.f24 5) (T_cache_Cache_Twin_5 c0 out3 t21 t22)
def B_cache_Cache_Twin (c0 : Option Addr) : M Value :=
  mIf c0.isNone (
    mRet (.pointer none)) (
    mNil c0 fun (a2 : Addr) =>
    mNil c0 fun (a5 : Addr) =>
    mAnd (
      mLdL (a2.add 1) fun (x10_14 : Sl) =>
      mLdI .i64 a5 fun (x15_15 : Int) =>
      mBind (N_cache_New (x10_14.n : Int) x15_15) fun r16_16 =>
      unP r16_16 fun (x16_16 : Option Addr) =>
      mNil c0 fun (a18 : Addr) =>
      mLdL (a18.add 1) fun (x20_20 : Sl) =>
      K_cache_Cache_Twin_5 c0 x16_16 (x20_20.n : Int) (0 : Int)) (
      mLdI .i64 a5 fun (x15 : Int) =>
      mLdL (a2.add 1) fun (x10 : Sl) =>
      mBind (N_cache_New (x10.n : Int) x15) fun r16 =>
      unP r16 fun (x16 : Option Addr) =>
      mNil c0 fun (a11 : Addr) =>
      mLdL (a11.add 1) fun (x20 : Sl) =>
      K_cache_Cache_Twin_5 c0 x16 (x20.n : Int) (0 : Int)))
def B_cache_Cache_Twin_5 (c0 : Option Addr) (out3 : Option Addr) (t21 : Int) (t22 : Int) : M Value :=
  mIf (decide (t22 < t21)) (
    mNil out3 fun (a22 : Addr) =>
    mAnd (
      mLdL (a22.add 1) fun (x28_28 : Sl) =>
      mBind (N_cache_Cache_Set c0 t22) fun r32_29 =>
      unL r32_29 fun (x32_29 : Sl) =>
      mIdx x28_28 t22 1 fun (x33_30 : Addr) =>
      mSt x33_30 (.slice x32_29.p x32_29.n x32_29.c) <|
      K_cache_Cache_Twin_5 c0 out3 t21 (IntKind.i64.wrap (t22 + (1 : Int)))) (
      mBind (N_cache_Cache_Set c0 t22) fun r32 =>
      unL r32 fun (x32 : Sl) =>
      mLdL (a22.add 1) fun (x28 : Sl) =>
      mIdx x28 t22 1 fun (x33 : Addr) =>
      mSt x33 (.slice x32.p x32.n x32.c) <|
      K_cache_Cache_Twin_5 c0 out3 t21 (IntKind.i64.wrap (t22 + (1 : Int))))) (
    mRet (.pointer out3))
theorem E_cache_Cache_Twin (c0 : Option Addr) : ev Try.prog 24 Try.f24.results.toList C_cache_Cache_Twin D_cache_Cache_Twin 400 false [.code (bodyOf Try.f24)] (List.map some [.pointer c0] ++ List.replicate (Try.f24.ntmps - List.length ([.pointer c0] : List Value)) none) = B_cache_Cache_Twin c0 := by kernel_rfl
theorem S_cache_Cache_Twin (c0 : Option Addr) {h : Hp} {Q : Value → Hp → Prop} (hb : B_cache_Cache_Twin c0 h Q) : N_cache_Cache_Twin c0 h Q :=
  Nf.of_ev Try.call24 Try.func24 (c := bodyOf Try.f24) rfl mixed C_cache_Cache_Twin D_cache_Cache_Twin 400 (args := [.pointer c0]) (by rw [E_cache_Cache_Twin]; exact hb)
theorem E_cache_Cache_Twin_5 (c0 : Option Addr) (out3 : Option Addr) (t21 : Int) (t22 : Int) : ev Try.prog 24 Try.f24.results.toList C_cache_Cache_Twin D_cache_Cache_Twin 400 true (todoOf Try.f24 5) (T_cache_Cache_Twin_5 c0 out3 t21 t22) = B_cache_Cache_Twin_5 c0 out3 t21 t22 := by kernel_rfl
theorem S_cache_Cache_Twin_5 (c0 : Option Addr) (out3 : Option Addr) (t21 : Int) (t22 : Int) {h : Hp} {Q : Value → Hp → Prop} (hb : B_cache_Cache_Twin_5 c0 out3 t21 t22 h Q) : K_cache_Cache_Twin_5 c0 out3 t21 t22 h Q :=
  Cut.of_ev Try.func24 mixed C_cache_Cache_Twin D_cache_Cache_Twin 400 (by rw [E_cache_Cache_Twin_5]; exact hb)
def C_cache_Cache_Set : List (Nat × List Nat) := []
def D_cache_Cache_Set : List (Nat × List Nat) := []
def B_cache_Cache_Set (c0 : Option Addr) (i1 : Int) : M Value :=
  mBind (mIf (c0.isNone || (decide (i1 < (0 : Int)))) (mRet true) (mNil c0 fun (a2 : Addr) =>
    mLdL (a2.add 1) fun (x17 : Sl) =>
    mRet (decide (i1 ≥ (x17.n : Int))))) fun (b5 : Bool) =>
  mIf b5 (
    mRet (.slice none (0) (0))) (
    mNil c0 fun (a7 : Addr) =>
    mLdL (a7.add 1) fun (x24 : Sl) =>
    mIdx x24 i1 1 fun (x26 : Addr) =>
    mLdL x26 fun (x27 : Sl) =>
    mSlc x27 1 (0 : Int) (0 : Int) (0 : Int) fun (x29 : Sl) =>
    mApp 3 1 8 #[.int .i64 (0 : Int)] x29 x27 fun (x31 : Sl) =>
    mRet (.slice x31.p x31.n x31.c))
theorem E_cache_Cache_Set (c0 : Option Addr) (i1 : Int) : ev Try.prog 57 Try.f57.results.toList C_cache_Cache_Set D_cache_Cache_Set 400 false [.code (bodyOf Try.f57)] (List.map some [.pointer c0, .int .i64 i1] ++ List.replicate (Try.f57.ntmps - List.length ([.pointer c0, .int .i64 i1] : List Value)) none) = B_cache_Cache_Set c0 i1 := by kernel_rfl
theorem S_cache_Cache_Set (c0 : Option Addr) (i1 : Int) {h : Hp} {Q : Value → Hp → Prop} (hb : B_cache_Cache_Set c0 i1 h Q) : N_cache_Cache_Set c0 i1 h Q :=
  Nf.of_ev Try.call57 Try.func57 (c := bodyOf Try.f57) rfl mixed C_cache_Cache_Set D_cache_Cache_Set 400 (args := [.pointer c0, .int .i64 i1]) (by rw [E_cache_Cache_Set]; exact hb)
def C_cache_Cache_Age : List (Nat × List Nat) := []
def D_cache_Cache_Age : List (Nat × List Nat) := []
def B_cache_Cache_Age (c0 : Option Addr) (block1 : Int) : M Value :=
  mBind (N_cache_Cache_Of c0 block1) fun r8 =>
  unI .i64 r8 fun (x8 : Int) =>
  mIf (x8 == (-1 : Int)) (
    mRet (.int .i64 (-1 : Int))) (
    mNil c0 fun (a3 : Addr) =>
    mLdL (a3.add 1) fun (x14 : Sl) =>
    mIdx x14 x8 1 fun (x16 : Addr) =>
    mLdL x16 fun (x17 : Sl) =>
    mBind (N_slices_Index_int_int x17 block1) fun r19 =>
    unI .i64 r19 fun (x19 : Int) =>
    mRet (.int .i64 x19))
theorem E_cache_Cache_Age (c0 : Option Addr) (block1 : Int) : ev Try.prog 58 Try.f58.results.toList C_cache_Cache_Age D_cache_Cache_Age 400 false [.code (bodyOf Try.f58)] (List.map some [.pointer c0, .int .i64 block1] ++ List.replicate (Try.f58.ntmps - List.length ([.pointer c0, .int .i64 block1] : List Value)) none) = B_cache_Cache_Age c0 block1 := by kernel_rfl
theorem S_cache_Cache_Age (c0 : Option Addr) (block1 : Int) {h : Hp} {Q : Value → Hp → Prop} (hb : B_cache_Cache_Age c0 block1 h Q) : N_cache_Cache_Age c0 block1 h Q :=
  Nf.of_ev Try.call58 Try.func58 (c := bodyOf Try.f58) rfl mixed C_cache_Cache_Age D_cache_Cache_Age 400 (args := [.pointer c0, .int .i64 block1]) (by rw [E_cache_Cache_Age]; exact hb)
def C_cache_Cache_Of : List (Nat × List Nat) := []
def D_cache_Cache_Of : List (Nat × List Nat) := []
def B_cache_Cache_Of (c0 : Option Addr) (block1 : Int) : M Value :=
  mIf ((c0.isNone || (decide (block1 < (0 : Int)))) || (decide (block1 > (255 : Int)))) (
    mRet (.int .i64 (-1 : Int))) (
    mNil c0 fun (a2 : Addr) =>
    mLdL (a2.add 1) fun (x19 : Sl) =>
    mGuard ((x19.n : Int) ≠ 0) <|
    mRet (.int .i64 (Int.tmod block1 (x19.n : Int))))
theorem E_cache_Cache_Of (c0 : Option Addr) (block1 : Int) : ev Try.prog 59 Try.f59.results.toList C_cache_Cache_Of D_cache_Cache_Of 400 false [.code (bodyOf Try.f59)] (List.map some [.pointer c0, .int .i64 block1] ++ List.replicate (Try.f59.ntmps - List.length ([.pointer c0, .int .i64 block1] : List Value)) none) = B_cache_Cache_Of c0 block1 := by kernel_rfl
theorem S_cache_Cache_Of (c0 : Option Addr) (block1 : Int) {h : Hp} {Q : Value → Hp → Prop} (hb : B_cache_Cache_Of c0 block1 h Q) : N_cache_Cache_Of c0 block1 h Q :=
  Nf.of_ev Try.call59 Try.func59 (c := bodyOf Try.f59) rfl mixed C_cache_Cache_Of D_cache_Cache_Of 400 (args := [.pointer c0, .int .i64 block1]) (by rw [E_cache_Cache_Of]; exact hb)
def C_slices_Index_int_int : List (Nat × List Nat) := [(2, [0, 1, 7, 8])]
def D_slices_Index_int_int : List (Nat × List Nat) := []
def T_slices_Index_int_int_2 (s0 : Sl) (v1 : Int) (t7 : Int) (t8 : Int) : Env := mkEnv [(0, .slice s0.p s0.n s0.c), (1, .int .i64 v1), (7, .int .i64 t7), (8, .int .i64 t8)] 19 0
def K_slices_Index_int_int_2 (s0 : Sl) (v1 : Int) (t7 : Int) (t8 : Int) : M Value := Cut Try.prog 73 (todoOf Try.f73 2) (T_slices_Index_int_int_2 s0 v1 t7 t8)
def B_slices_Index_int_int (s0 : Sl) (v1 : Int) : M Value :=
  K_slices_Index_int_int_2 s0 v1 (s0.n : Int) (0 : Int)
def B_slices_Index_int_int_2 (s0 : Sl) (v1 : Int) (t7 : Int) (t8 : Int) : M Value :=
  mIf (decide (t8 < t7)) (
    mIdx s0 t8 1 fun (x14 : Addr) =>
    mLdI .i64 x14 fun (x15 : Int) =>
    mIf (v1 == x15) (
      mRet (.int .i64 t8)) (
      K_slices_Index_int_int_2 s0 v1 t7 (IntKind.i64.wrap (t8 + (1 : Int))))) (
    mRet (.int .i64 (-1 : Int)))
theorem E_slices_Index_int_int (s0 : Sl) (v1 : Int) : ev Try.prog 73 Try.f73.results.toList C_slices_Index_int_int D_slices_Index_int_int 400 false [.code (bodyOf Try.f73)] (List.map some [.slice s0.p s0.n s0.c, .int .i64 v1] ++ List.replicate (Try.f73.ntmps - List.length ([.slice s0.p s0.n s0.c, .int .i64 v1] : List Value)) none) = B_slices_Index_int_int s0 v1 := by kernel_rfl
theorem S_slices_Index_int_int (s0 : Sl) (v1 : Int) {h : Hp} {Q : Value → Hp → Prop} (hb : B_slices_Index_int_int s0 v1 h Q) : N_slices_Index_int_int s0 v1 h Q :=
  Nf.of_ev Try.call73 Try.func73 (c := bodyOf Try.f73) rfl mixed C_slices_Index_int_int D_slices_Index_int_int 400 (args := [.slice s0.p s0.n s0.c, .int .i64 v1]) (by rw [E_slices_Index_int_int]; exact hb)
theorem E_slices_Index_int_int_2 (s0 : Sl) (v1 : Int) (t7 : Int) (t8 : Int) : ev Try.prog 73 Try.f73.results.toList C_slices_Index_int_int D_slices_Index_int_int 400 true (todoOf Try.f73 2) (T_slices_Index_int_int_2 s0 v1 t7 t8) = B_slices_Index_int_int_2 s0 v1 t7 t8 := by kernel_rfl
theorem S_slices_Index_int_int_2 (s0 : Sl) (v1 : Int) (t7 : Int) (t8 : Int) {h : Hp} {Q : Value → Hp → Prop} (hb : B_slices_Index_int_int_2 s0 v1 t7 t8 h Q) : K_slices_Index_int_int_2 s0 v1 t7 t8 h Q :=
  Cut.of_ev Try.func73 mixed C_slices_Index_int_int D_slices_Index_int_int 400 (by rw [E_slices_Index_int_int_2]; exact hb)
def C_signalboxlaw08_CacheAges : List (Nat × List Nat) := [(8, [3, 4, 11, 12, 13, 43, 44, 45]), (16, [3, 11, 12, 13, 16, 17, 59, 60, 61])]
def D_signalboxlaw08_CacheAges : List (Nat × List Nat) := []
def T_signalboxlaw08_CacheAges_8 (block3 : Int) (m4 : Sl) (s11 : Int) (w12 : Int) (c13 : Option Addr) (t43 : Sl) (t44 : Int) (t45 : Int) : Env := mkEnv [(3, .int .u8 block3), (4, .slice m4.p m4.n m4.c), (11, .int .i64 s11), (12, .int .i64 w12), (13, .pointer c13), (43, .slice t43.p t43.n t43.c), (44, .int .i64 t44), (45, .int .i64 t45)] 110 0
def K_signalboxlaw08_CacheAges_8 (block3 : Int) (m4 : Sl) (s11 : Int) (w12 : Int) (c13 : Option Addr) (t43 : Sl) (t44 : Int) (t45 : Int) : M Value := Cut Try.prog 5 (todoOf Try.f5 8) (T_signalboxlaw08_CacheAges_8 block3 m4 s11 w12 c13 t43 t44 t45)
def T_signalboxlaw08_CacheAges_16 (block3 : Int) (s11 : Int) (w12 : Int) (c13 : Option Addr) (others16 : Option Nat) (again17 : Bool) (t59 : Sl) (t60 : Int) (t61 : Int) : Env := mkEnv [(3, .int .u8 block3), (11, .int .i64 s11), (12, .int .i64 w12), (13, .pointer c13), (16, .map others16), (17, .bool again17), (59, .slice t59.p t59.n t59.c), (60, .int .i64 t60), (61, .int .i64 t61)] 110 0
def K_signalboxlaw08_CacheAges_16 (block3 : Int) (s11 : Int) (w12 : Int) (c13 : Option Addr) (others16 : Option Nat) (again17 : Bool) (t59 : Sl) (t60 : Int) (t61 : Int) : M Value := Cut Try.prog 5 (todoOf Try.f5 16) (T_signalboxlaw08_CacheAges_16 block3 s11 w12 c13 others16 again17 t59 t60 t61)
def B_signalboxlaw08_CacheAges (sets0 : Int) (ways1 : Int) (l2 : Sl) (block3 : Int) (m4 : Sl) : M Value :=
  mBind (N_signalboxlaw08_fixed) fun r22 =>
  unB r22 fun (x22 : Bool) =>
  mIf (!x22) (
    mRet (.bool false)) (
    mIf ((decide ((l2.n : Int) > (100 : Int))) || (decide ((m4.n : Int) > (100 : Int)))) (
      mRet (.bool true)) (
      mGuard ((16 : Int) ≠ 0) <|
      mGuard ((4 : Int) ≠ 0) <|
      mBind (N_cache_New (IntKind.i64.wrap ((1 : Int) + (IntKind.i64.wrap (Int.tmod sets0 (16 : Int))))) (IntKind.i64.wrap ((1 : Int) + (IntKind.i64.wrap (Int.tmod ways1 (4 : Int)))))) fun r42 =>
      unP r42 fun (x42 : Option Addr) =>
      K_signalboxlaw08_CacheAges_8 block3 m4 (IntKind.i64.wrap ((1 : Int) + (IntKind.i64.wrap (Int.tmod sets0 (16 : Int))))) (IntKind.i64.wrap ((1 : Int) + (IntKind.i64.wrap (Int.tmod ways1 (4 : Int))))) x42 l2 (l2.n : Int) (0 : Int)))
def B_signalboxlaw08_CacheAges_8 (block3 : Int) (m4 : Sl) (s11 : Int) (w12 : Int) (c13 : Option Addr) (t43 : Sl) (t44 : Int) (t45 : Int) : M Value :=
  mIf (decide (t45 < t44)) (
    mIdx t43 t45 1 fun (x47 : Addr) =>
    mLdI .u8 x47 fun (x48 : Int) =>
    mBind (N_cache_Cache_Access c13 (IntKind.i64.wrap x48)) fun r52 =>
    un2 unB (unI .i64) r52 fun (_x52_0 : Bool) (_x52_1 : Int) =>
    K_signalboxlaw08_CacheAges_8 block3 m4 s11 w12 c13 t43 t44 (IntKind.i64.wrap (t45 + (1 : Int)))) (
    mBind (N_cache_Cache_Access c13 (IntKind.i64.wrap block3)) fun r57 =>
    un2 unB (unI .i64) r57 fun (_x57_0 : Bool) (_x57_1 : Int) =>
    mMapNew fun (x58 : Nat) =>
    K_signalboxlaw08_CacheAges_16 block3 s11 w12 c13 (some x58) false m4 (m4.n : Int) (0 : Int))
def B_signalboxlaw08_CacheAges_16 (block3 : Int) (s11 : Int) (w12 : Int) (c13 : Option Addr) (others16 : Option Nat) (again17 : Bool) (t59 : Sl) (t60 : Int) (t61 : Int) : M Value :=
  mIf (decide (t61 < t60)) (
    mIdx t59 t61 1 fun (x63 : Addr) =>
    mLdI .u8 x63 fun (x64 : Int) =>
    mBind (N_cache_Cache_Access c13 (IntKind.i64.wrap x64)) fun r68 =>
    un2 unB (unI .i64) r68 fun (_x68_0 : Bool) (_x68_1 : Int) =>
    mBind (mIf (x64 != block3) (mGuard (s11 ≠ 0) <|
      mGuard (s11 ≠ 0) <|
      mRet ((Int.tmod (IntKind.i64.wrap x64) s11) == (Int.tmod (IntKind.i64.wrap block3) s11))) (mRet false)) fun (b15 : Bool) =>
    mIf b15 (
      mNilM others16 fun (m17 : Nat) =>
      mMapSet .u8 m17 x64 (.bool true) <|
      K_signalboxlaw08_CacheAges_16 block3 s11 w12 c13 others16 (again17 || (x64 == block3)) t59 t60 (IntKind.i64.wrap (t61 + (1 : Int)))) (
      K_signalboxlaw08_CacheAges_16 block3 s11 w12 c13 others16 (again17 || (x64 == block3)) t59 t60 (IntKind.i64.wrap (t61 + (1 : Int))))) (
    mIf again17 (
      mRet (.bool true)) (
      mBind (N_cache_Cache_Access c13 (IntKind.i64.wrap block3)) fun r97 =>
      un2 unB (unI .i64) r97 fun (x97_0 : Bool) (x97_1 : Int) =>
      mBind (mIf (x97_1 == (0 : Int)) (mNilM others16 fun (m20 : Nat) =>
        mMapLen .u8 m20 fun (x105 : Nat) =>
        mRet (x97_0 == (decide ((x105 : Int) < w12)))) (mRet false)) fun (b21 : Bool) =>
      mRet (.bool b21)))
theorem E_signalboxlaw08_CacheAges (sets0 : Int) (ways1 : Int) (l2 : Sl) (block3 : Int) (m4 : Sl) : ev Try.prog 5 Try.f5.results.toList C_signalboxlaw08_CacheAges D_signalboxlaw08_CacheAges 400 false [.code (bodyOf Try.f5)] (List.map some [.int .u8 sets0, .int .u8 ways1, .slice l2.p l2.n l2.c, .int .u8 block3, .slice m4.p m4.n m4.c] ++ List.replicate (Try.f5.ntmps - List.length ([.int .u8 sets0, .int .u8 ways1, .slice l2.p l2.n l2.c, .int .u8 block3, .slice m4.p m4.n m4.c] : List Value)) none) = B_signalboxlaw08_CacheAges sets0 ways1 l2 block3 m4 := by kernel_rfl
theorem S_signalboxlaw08_CacheAges (sets0 : Int) (ways1 : Int) (l2 : Sl) (block3 : Int) (m4 : Sl) {h : Hp} {Q : Value → Hp → Prop} (hb : B_signalboxlaw08_CacheAges sets0 ways1 l2 block3 m4 h Q) : N_signalboxlaw08_CacheAges sets0 ways1 l2 block3 m4 h Q :=
  Nf.of_ev Try.call5 Try.func5 (c := bodyOf Try.f5) rfl mixed C_signalboxlaw08_CacheAges D_signalboxlaw08_CacheAges 400 (args := [.int .u8 sets0, .int .u8 ways1, .slice l2.p l2.n l2.c, .int .u8 block3, .slice m4.p m4.n m4.c]) (by rw [E_signalboxlaw08_CacheAges]; exact hb)
theorem E_signalboxlaw08_CacheAges_8 (block3 : Int) (m4 : Sl) (s11 : Int) (w12 : Int) (c13 : Option Addr) (t43 : Sl) (t44 : Int) (t45 : Int) : ev Try.prog 5 Try.f5.results.toList C_signalboxlaw08_CacheAges D_signalboxlaw08_CacheAges 400 true (todoOf Try.f5 8) (T_signalboxlaw08_CacheAges_8 block3 m4 s11 w12 c13 t43 t44 t45) = B_signalboxlaw08_CacheAges_8 block3 m4 s11 w12 c13 t43 t44 t45 := by kernel_rfl
theorem S_signalboxlaw08_CacheAges_8 (block3 : Int) (m4 : Sl) (s11 : Int) (w12 : Int) (c13 : Option Addr) (t43 : Sl) (t44 : Int) (t45 : Int) {h : Hp} {Q : Value → Hp → Prop} (hb : B_signalboxlaw08_CacheAges_8 block3 m4 s11 w12 c13 t43 t44 t45 h Q) : K_signalboxlaw08_CacheAges_8 block3 m4 s11 w12 c13 t43 t44 t45 h Q :=
  Cut.of_ev Try.func5 mixed C_signalboxlaw08_CacheAges D_signalboxlaw08_CacheAges 400 (by rw [E_signalboxlaw08_CacheAges_8]; exact hb)
theorem E_signalboxlaw08_CacheAges_16 (block3 : Int) (s11 : Int) (w12 : Int) (c13 : Option Addr) (others16 : Option Nat) (again17 : Bool) (t59 : Sl) (t60 : Int) (t61 : Int) : ev Try.prog 5 Try.f5.results.toList C_signalboxlaw08_CacheAges D_signalboxlaw08_CacheAges 400 true (todoOf Try.f5 16) (T_signalboxlaw08_CacheAges_16 block3 s11 w12 c13 others16 again17 t59 t60 t61) = B_signalboxlaw08_CacheAges_16 block3 s11 w12 c13 others16 again17 t59 t60 t61 := by kernel_rfl
theorem S_signalboxlaw08_CacheAges_16 (block3 : Int) (s11 : Int) (w12 : Int) (c13 : Option Addr) (others16 : Option Nat) (again17 : Bool) (t59 : Sl) (t60 : Int) (t61 : Int) {h : Hp} {Q : Value → Hp → Prop} (hb : B_signalboxlaw08_CacheAges_16 block3 s11 w12 c13 others16 again17 t59 t60 t61 h Q) : K_signalboxlaw08_CacheAges_16 block3 s11 w12 c13 others16 again17 t59 t60 t61 h Q :=
  Cut.of_ev Try.func5 mixed C_signalboxlaw08_CacheAges D_signalboxlaw08_CacheAges 400 (by rw [E_signalboxlaw08_CacheAges_16]; exact hb)
def C_signalboxlaw08_CacheTwin : List (Nat × List Nat) := [(7, [3, 9, 41, 42, 43]), (14, [3, 9, 12, 13, 54, 55, 56]), (20, [12, 13, 72, 73, 74])]
def D_signalboxlaw08_CacheTwin : List (Nat × List Nat) := []
def T_signalboxlaw08_CacheTwin_7 (m3 : Sl) (c9 : Option Addr) (t41 : Sl) (t42 : Int) (t43 : Int) : Env := mkEnv [(3, .slice m3.p m3.n m3.c), (9, .pointer c9), (41, .slice t41.p t41.n t41.c), (42, .int .i64 t42), (43, .int .i64 t43)] 93 0
def K_signalboxlaw08_CacheTwin_7 (m3 : Sl) (c9 : Option Addr) (t41 : Sl) (t42 : Int) (t43 : Int) : M Value := Cut Try.prog 6 (todoOf Try.f6 7) (T_signalboxlaw08_CacheTwin_7 m3 c9 t41 t42 t43)
def T_signalboxlaw08_CacheTwin_14 (m3 : Sl) (c9 : Option Addr) (t12 : Option Addr) (hits13 : Sl) (t54 : Sl) (t55 : Int) (t56 : Int) : Env := mkEnv [(3, .slice m3.p m3.n m3.c), (9, .pointer c9), (12, .pointer t12), (13, .slice hits13.p hits13.n hits13.c), (54, .slice t54.p t54.n t54.c), (55, .int .i64 t55), (56, .int .i64 t56)] 93 0
def K_signalboxlaw08_CacheTwin_14 (m3 : Sl) (c9 : Option Addr) (t12 : Option Addr) (hits13 : Sl) (t54 : Sl) (t55 : Int) (t56 : Int) : M Value := Cut Try.prog 6 (todoOf Try.f6 14) (T_signalboxlaw08_CacheTwin_14 m3 c9 t12 hits13 t54 t55 t56)
def T_signalboxlaw08_CacheTwin_20 (t12 : Option Addr) (hits13 : Sl) (t72 : Sl) (t73 : Int) (t74 : Int) : Env := mkEnv [(12, .pointer t12), (13, .slice hits13.p hits13.n hits13.c), (72, .slice t72.p t72.n t72.c), (73, .int .i64 t73), (74, .int .i64 t74)] 93 0
def K_signalboxlaw08_CacheTwin_20 (t12 : Option Addr) (hits13 : Sl) (t72 : Sl) (t73 : Int) (t74 : Int) : M Value := Cut Try.prog 6 (todoOf Try.f6 20) (T_signalboxlaw08_CacheTwin_20 t12 hits13 t72 t73 t74)
def B_signalboxlaw08_CacheTwin (sets0 : Int) (ways1 : Int) (l2 : Sl) (m3 : Sl) : M Value :=
  mBind (N_signalboxlaw08_fixed) fun r22 =>
  unB r22 fun (x22 : Bool) =>
  mIf (!x22) (
    mRet (.bool false)) (
    mIf ((decide ((l2.n : Int) > (100 : Int))) || (decide ((m3.n : Int) > (100 : Int)))) (
      mRet (.bool true)) (
      mGuard ((16 : Int) ≠ 0) <|
      mGuard ((4 : Int) ≠ 0) <|
      mBind (N_cache_New (IntKind.i64.wrap ((1 : Int) + (IntKind.i64.wrap (Int.tmod sets0 (16 : Int))))) (IntKind.i64.wrap ((1 : Int) + (IntKind.i64.wrap (Int.tmod ways1 (4 : Int)))))) fun r40 =>
      unP r40 fun (x40 : Option Addr) =>
      K_signalboxlaw08_CacheTwin_7 m3 x40 l2 (l2.n : Int) (0 : Int)))
def B_signalboxlaw08_CacheTwin_7 (m3 : Sl) (c9 : Option Addr) (t41 : Sl) (t42 : Int) (t43 : Int) : M Value :=
  mIf (decide (t43 < t42)) (
    mIdx t41 t43 1 fun (x45 : Addr) =>
    mLdI .u8 x45 fun (x46 : Int) =>
    mBind (N_cache_Cache_Access c9 (IntKind.i64.wrap x46)) fun r50 =>
    un2 unB (unI .i64) r50 fun (_x50_0 : Bool) (_x50_1 : Int) =>
    K_signalboxlaw08_CacheTwin_7 m3 c9 t41 t42 (IntKind.i64.wrap (t43 + (1 : Int)))) (
    mBind (N_cache_Cache_Twin c9) fun r53 =>
    unP r53 fun (x53 : Option Addr) =>
    K_signalboxlaw08_CacheTwin_14 m3 c9 x53 (Sl.mk none 0 0) m3 (m3.n : Int) (0 : Int))
def B_signalboxlaw08_CacheTwin_14 (m3 : Sl) (c9 : Option Addr) (t12 : Option Addr) (hits13 : Sl) (t54 : Sl) (t55 : Int) (t56 : Int) : M Value :=
  mIf (decide (t56 < t55)) (
    mIdx t54 t56 1 fun (x58 : Addr) =>
    mLdI .u8 x58 fun (x59 : Int) =>
    mBind (N_cache_Cache_Access c9 (IntKind.i64.wrap x59)) fun r64 =>
    un2 unB (unI .i64) r64 fun (x64_0 : Bool) (_x64_1 : Int) =>
    mNew #[.bool x64_0] 4 fun (x69 : Addr) =>
    mApp 4 1 1 #[.bool false] hits13 ⟨(some x69), 1, 1⟩ fun (x70 : Sl) =>
    K_signalboxlaw08_CacheTwin_14 m3 c9 t12 x70 t54 t55 (IntKind.i64.wrap (t56 + (1 : Int)))) (
    K_signalboxlaw08_CacheTwin_20 t12 hits13 m3 (m3.n : Int) (0 : Int))
def B_signalboxlaw08_CacheTwin_20 (t12 : Option Addr) (hits13 : Sl) (t72 : Sl) (t73 : Int) (t74 : Int) : M Value :=
  mIf (decide (t74 < t73)) (
    mIdx t72 t74 1 fun (x77 : Addr) =>
    mLdI .u8 x77 fun (x78 : Int) =>
    mBind (N_cache_Cache_Access t12 (IntKind.i64.wrap x78)) fun r83 =>
    un2 unB (unI .i64) r83 fun (x83_0 : Bool) (_x83_1 : Int) =>
    mIdx hits13 t74 1 fun (x89 : Addr) =>
    mLdB x89 fun (x90 : Bool) =>
    mIf (!(x83_0 == x90)) (
      mRet (.bool false)) (
      K_signalboxlaw08_CacheTwin_20 t12 hits13 t72 t73 (IntKind.i64.wrap (t74 + (1 : Int))))) (
    mRet (.bool true))
theorem E_signalboxlaw08_CacheTwin (sets0 : Int) (ways1 : Int) (l2 : Sl) (m3 : Sl) : ev Try.prog 6 Try.f6.results.toList C_signalboxlaw08_CacheTwin D_signalboxlaw08_CacheTwin 400 false [.code (bodyOf Try.f6)] (List.map some [.int .u8 sets0, .int .u8 ways1, .slice l2.p l2.n l2.c, .slice m3.p m3.n m3.c] ++ List.replicate (Try.f6.ntmps - List.length ([.int .u8 sets0, .int .u8 ways1, .slice l2.p l2.n l2.c, .slice m3.p m3.n m3.c] : List Value)) none) = B_signalboxlaw08_CacheTwin sets0 ways1 l2 m3 := by kernel_rfl
theorem S_signalboxlaw08_CacheTwin (sets0 : Int) (ways1 : Int) (l2 : Sl) (m3 : Sl) {h : Hp} {Q : Value → Hp → Prop} (hb : B_signalboxlaw08_CacheTwin sets0 ways1 l2 m3 h Q) : N_signalboxlaw08_CacheTwin sets0 ways1 l2 m3 h Q :=
  Nf.of_ev Try.call6 Try.func6 (c := bodyOf Try.f6) rfl mixed C_signalboxlaw08_CacheTwin D_signalboxlaw08_CacheTwin 400 (args := [.int .u8 sets0, .int .u8 ways1, .slice l2.p l2.n l2.c, .slice m3.p m3.n m3.c]) (by rw [E_signalboxlaw08_CacheTwin]; exact hb)
theorem E_signalboxlaw08_CacheTwin_7 (m3 : Sl) (c9 : Option Addr) (t41 : Sl) (t42 : Int) (t43 : Int) : ev Try.prog 6 Try.f6.results.toList C_signalboxlaw08_CacheTwin D_signalboxlaw08_CacheTwin 400 true (todoOf Try.f6 7) (T_signalboxlaw08_CacheTwin_7 m3 c9 t41 t42 t43) = B_signalboxlaw08_CacheTwin_7 m3 c9 t41 t42 t43 := by kernel_rfl
theorem S_signalboxlaw08_CacheTwin_7 (m3 : Sl) (c9 : Option Addr) (t41 : Sl) (t42 : Int) (t43 : Int) {h : Hp} {Q : Value → Hp → Prop} (hb : B_signalboxlaw08_CacheTwin_7 m3 c9 t41 t42 t43 h Q) : K_signalboxlaw08_CacheTwin_7 m3 c9 t41 t42 t43 h Q :=
  Cut.of_ev Try.func6 mixed C_signalboxlaw08_CacheTwin D_signalboxlaw08_CacheTwin 400 (by rw [E_signalboxlaw08_CacheTwin_7]; exact hb)
theorem E_signalboxlaw08_CacheTwin_14 (m3 : Sl) (c9 : Option Addr) (t12 : Option Addr) (hits13 : Sl) (t54 : Sl) (t55 : Int) (t56 : Int) : ev Try.prog 6 Try.f6.results.toList C_signalboxlaw08_CacheTwin D_signalboxlaw08_CacheTwin 400 true (todoOf Try.f6 14) (T_signalboxlaw08_CacheTwin_14 m3 c9 t12 hits13 t54 t55 t56) = B_signalboxlaw08_CacheTwin_14 m3 c9 t12 hits13 t54 t55 t56 := by kernel_rfl
theorem S_signalboxlaw08_CacheTwin_14 (m3 : Sl) (c9 : Option Addr) (t12 : Option Addr) (hits13 : Sl) (t54 : Sl) (t55 : Int) (t56 : Int) {h : Hp} {Q : Value → Hp → Prop} (hb : B_signalboxlaw08_CacheTwin_14 m3 c9 t12 hits13 t54 t55 t56 h Q) : K_signalboxlaw08_CacheTwin_14 m3 c9 t12 hits13 t54 t55 t56 h Q :=
  Cut.of_ev Try.func6 mixed C_signalboxlaw08_CacheTwin D_signalboxlaw08_CacheTwin 400 (by rw [E_signalboxlaw08_CacheTwin_14]; exact hb)
theorem E_signalboxlaw08_CacheTwin_20 (t12 : Option Addr) (hits13 : Sl) (t72 : Sl) (t73 : Int) (t74 : Int) : ev Try.prog 6 Try.f6.results.toList C_signalboxlaw08_CacheTwin D_signalboxlaw08_CacheTwin 400 true (todoOf Try.f6 20) (T_signalboxlaw08_CacheTwin_20 t12 hits13 t72 t73 t74) = B_signalboxlaw08_CacheTwin_20 t12 hits13 t72 t73 t74 := by kernel_rfl
theorem S_signalboxlaw08_CacheTwin_20 (t12 : Option Addr) (hits13 : Sl) (t72 : Sl) (t73 : Int) (t74 : Int) {h : Hp} {Q : Value → Hp → Prop} (hb : B_signalboxlaw08_CacheTwin_20 t12 hits13 t72 t73 t74 h Q) : K_signalboxlaw08_CacheTwin_20 t12 hits13 t72 t73 t74 h Q :=
  Cut.of_ev Try.func6 mixed C_signalboxlaw08_CacheTwin D_signalboxlaw08_CacheTwin 400 (by rw [E_signalboxlaw08_CacheTwin_20]; exact hb)
end Go.Proofs.Ytkoenpliddhhoaa
