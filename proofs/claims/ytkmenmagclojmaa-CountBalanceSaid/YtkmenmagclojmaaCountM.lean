/- What the functions of this layer come to, as forms of the small logic; written by program. Conditions: none. -/
import Derived.Test.YtkmenmagclojmaaSbU
import Derived.Test.YtkmenmagclojmaaChecked
import Derived.KernelRfl
set_option maxRecDepth 100000
namespace Go.Proofs.Ytkmenmagclojmaa
open Go Go.Sb
theorem mixed : Try.prog.follows .mixedOrders = true := by kernel_rfl
def N_signalboxlaw12_fixed : M Value := Nf Try.prog 15 #[]
def N_count_New (mosts0 : Sl) : M Value := Nf Try.prog 16 #[.slice mosts0.p mosts0.n mosts0.c]
def N_count_Counts_Take (c0 : Option Addr) (i1 : Int) : M Value := Nf Try.prog 17 #[.pointer c0, .int .i64 i1]
def N_count_Counts_Give (c0 : Option Addr) (i1 : Int) : M Value := Nf Try.prog 18 #[.pointer c0, .int .i64 i1]
def N_count_Counts_Value (c0 : Option Addr) (i1 : Int) : M Value := Nf Try.prog 19 #[.pointer c0, .int .i64 i1]
def N_count_Counts_Len (c0 : Option Addr) : M Value := Nf Try.prog 20 #[.pointer c0]
def N_count_Counts_add (c0 : Option Addr) (i1 : Int) (by2 : Int) (refused3 : Int) : M Value := Nf Try.prog 64 #[.pointer c0, .int .i64 i1, .int .i64 by2, .int .i64 refused3]
def N_signalboxlaw12_CountPlays (mosts0 : Sl) (l1 : Sl) (take2 : Sl) : M Value := Nf Try.prog 3 #[.slice mosts0.p mosts0.n mosts0.c, .slice l1.p l1.n l1.c, .slice take2.p take2.n take2.c]
def N_signalboxlaw12_CountBalance (most0 : Int) (take1 : Sl) : M Value := Nf Try.prog 4 #[.int .u8 most0, .slice take1.p take1.n take1.c]
def C_signalboxlaw12_fixed : List (Nat × List Nat) := []
def D_signalboxlaw12_fixed : List (Nat × List Nat) := []
def B_signalboxlaw12_fixed : M Value :=
  mNew #[.int .i64 (1 : Int)] 3 fun (x12 : Addr) =>
  mBind (N_count_New (Sl.mk (some x12) 1 1)) fun r13 =>
  unP r13 fun (x13 : Option Addr) =>
  mBind (N_count_Counts_Give x13 (0 : Int)) fun r16 =>
  unT r16 fun x16l =>
  unC x16l fun x16v0 x16l0 =>
  unI .i64 x16v0 fun (x16_0 : Int) =>
  unC x16l0 fun x16v1 x16l1 =>
  unI .i64 x16v1 fun (x16_1 : Int) =>
  unE x16l1 <|
  mBind (N_count_Counts_Give x13 (0 : Int)) fun r21 =>
  unT r21 fun x21l =>
  unC x21l fun x21v0 x21l0 =>
  unI .i64 x21v0 fun (x21_0 : Int) =>
  unC x21l0 fun x21v1 x21l1 =>
  unI .i64 x21v1 fun (x21_1 : Int) =>
  unE x21l1 <|
  mBind (N_count_Counts_Take x13 (0 : Int)) fun r26 =>
  unT r26 fun x26l =>
  unC x26l fun x26v0 x26l0 =>
  unI .i64 x26v0 fun (x26_0 : Int) =>
  unC x26l0 fun x26v1 x26l1 =>
  unI .i64 x26v1 fun (x26_1 : Int) =>
  unE x26l1 <|
  mBind (N_count_Counts_Take x13 (0 : Int)) fun r31 =>
  unT r31 fun x31l =>
  unC x31l fun x31v0 x31l0 =>
  unI .i64 x31v0 fun (_x31_0 : Int) =>
  unC x31l0 fun x31v1 x31l1 =>
  unI .i64 x31v1 fun (x31_1 : Int) =>
  unE x31l1 <|
  mBind (N_count_Counts_Value x13 (1 : Int)) fun r36 =>
  unT r36 fun x36l =>
  unC x36l fun x36v0 x36l0 =>
  unI .i64 x36v0 fun (_x36_0 : Int) =>
  unC x36l0 fun x36v1 x36l1 =>
  unI .i64 x36v1 fun (x36_1 : Int) =>
  unE x36l1 <|
  mBind (mIf ((((((((x16_0 == (1 : Int)) && (x16_1 == (0 : Int))) && (x21_0 == (1 : Int))) && (x21_1 == (7 : Int))) && (x26_0 == (0 : Int))) && (x26_1 == (0 : Int))) && (x31_1 == (8 : Int))) && (x36_1 == (6 : Int))) (mBind (N_count_Counts_Len x13) fun r71 =>
    unI .i64 r71 fun (x71 : Int) =>
    mRet (x71 == (1 : Int))) (mRet false)) fun (b9 : Bool) =>
  mRet (.bool b9)
theorem E_signalboxlaw12_fixed : ev Try.prog 15 Try.f15.results.toList C_signalboxlaw12_fixed D_signalboxlaw12_fixed 400 false [.code (bodyOf Try.f15)] (List.map some [] ++ List.replicate (Try.f15.ntmps - List.length ([] : List Value)) none) = B_signalboxlaw12_fixed := by kernel_rfl
theorem S_signalboxlaw12_fixed {h : Hp} {Q : Value → Hp → Prop} (hb : B_signalboxlaw12_fixed h Q) : N_signalboxlaw12_fixed h Q :=
  Nf.of_ev Try.call15 Try.func15 (c := bodyOf Try.f15) rfl mixed C_signalboxlaw12_fixed D_signalboxlaw12_fixed 400 (args := []) (by rw [E_signalboxlaw12_fixed]; exact hb)
def C_count_New : List (Nat × List Nat) := [(3, [3, 8, 9, 10]), (7, [3, 5, 8, 9, 10])]
def D_count_New : List (Nat × List Nat) := []
def T_count_New_3 (c3 : Addr) (t8 : Sl) (t9 : Int) (t10 : Int) : Env := mkEnv [(3, .pointer (some c3)), (8, .slice t8.p t8.n t8.c), (9, .int .i64 t9), (10, .int .i64 t10)] 33 0
def K_count_New_3 (c3 : Addr) (t8 : Sl) (t9 : Int) (t10 : Int) : M Value := Cut Try.prog 16 (todoOf Try.f16 3) (T_count_New_3 c3 t8 t9 t10)
def T_count_New_7 (c3 : Addr) (n5 : Int) (t8 : Sl) (t9 : Int) (t10 : Int) : Env := mkEnv [(3, .pointer (some c3)), (5, .int .i64 n5), (8, .slice t8.p t8.n t8.c), (9, .int .i64 t9), (10, .int .i64 t10)] 33 0
def K_count_New_7 (c3 : Addr) (n5 : Int) (t8 : Sl) (t9 : Int) (t10 : Int) : M Value := Cut Try.prog 16 (todoOf Try.f16 7) (T_count_New_7 c3 n5 t8 t9 t10)
def B_count_New (mosts0 : Sl) : M Value :=
  mNew #[.slice none (0) (0)] 101 fun (x7 : Addr) =>
  K_count_New_3 x7 mosts0 (mosts0.n : Int) (0 : Int)
def B_count_New_3 (c3 : Addr) (t8 : Sl) (t9 : Int) (t10 : Int) : M Value :=
  mIf (decide (t10 < t9)) (
    mIdx t8 t10 1 fun (x12 : Addr) =>
    mLdI .i64 x12 fun (x13 : Int) =>
    mIf ((decide (x13 < (1 : Int))) || (decide (x13 > (8 : Int)))) (
      K_count_New_7 c3 (1 : Int) t8 t9 t10) (
      K_count_New_7 c3 x13 t8 t9 t10)) (
    mRet (.pointer (some c3)))
def B_count_New_7 (c3 : Addr) (n5 : Int) (t8 : Sl) (t9 : Int) (t10 : Int) : M Value :=
  mLdL c3 fun (x24 : Sl) =>
  mNew #[.int .i64 (0 : Int), .int .i64 n5] 103 fun (x27 : Addr) =>
  mApp 103 2 16 #[.int .i64 (0 : Int), .int .i64 (0 : Int)] x24 ⟨(some x27), 1, 1⟩ fun (x28 : Sl) =>
  mSt c3 (.slice x28.p x28.n x28.c) <|
  K_count_New_3 c3 t8 t9 (IntKind.i64.wrap (t10 + (1 : Int)))
theorem E_count_New (mosts0 : Sl) : ev Try.prog 16 Try.f16.results.toList C_count_New D_count_New 400 false [.code (bodyOf Try.f16)] (List.map some [.slice mosts0.p mosts0.n mosts0.c] ++ List.replicate (Try.f16.ntmps - List.length ([.slice mosts0.p mosts0.n mosts0.c] : List Value)) none) = B_count_New mosts0 := by kernel_rfl
theorem S_count_New (mosts0 : Sl) {h : Hp} {Q : Value → Hp → Prop} (hb : B_count_New mosts0 h Q) : N_count_New mosts0 h Q :=
  Nf.of_ev Try.call16 Try.func16 (c := bodyOf Try.f16) rfl mixed C_count_New D_count_New 400 (args := [.slice mosts0.p mosts0.n mosts0.c]) (by rw [E_count_New]; exact hb)
theorem E_count_New_3 (c3 : Addr) (t8 : Sl) (t9 : Int) (t10 : Int) : ev Try.prog 16 Try.f16.results.toList C_count_New D_count_New 400 true (todoOf Try.f16 3) (T_count_New_3 c3 t8 t9 t10) = B_count_New_3 c3 t8 t9 t10 := by kernel_rfl
theorem S_count_New_3 (c3 : Addr) (t8 : Sl) (t9 : Int) (t10 : Int) {h : Hp} {Q : Value → Hp → Prop} (hb : B_count_New_3 c3 t8 t9 t10 h Q) : K_count_New_3 c3 t8 t9 t10 h Q :=
  Cut.of_ev Try.func16 mixed C_count_New D_count_New 400 (by rw [E_count_New_3]; exact hb)
theorem E_count_New_7 (c3 : Addr) (n5 : Int) (t8 : Sl) (t9 : Int) (t10 : Int) : ev Try.prog 16 Try.f16.results.toList C_count_New D_count_New 400 true (todoOf Try.f16 7) (T_count_New_7 c3 n5 t8 t9 t10) = B_count_New_7 c3 n5 t8 t9 t10 := by kernel_rfl
theorem S_count_New_7 (c3 : Addr) (n5 : Int) (t8 : Sl) (t9 : Int) (t10 : Int) {h : Hp} {Q : Value → Hp → Prop} (hb : B_count_New_7 c3 n5 t8 t9 t10 h Q) : K_count_New_7 c3 n5 t8 t9 t10 h Q :=
  Cut.of_ev Try.func16 mixed C_count_New D_count_New 400 (by rw [E_count_New_7]; exact hb)
def C_count_Counts_Take : List (Nat × List Nat) := []
def D_count_Counts_Take : List (Nat × List Nat) := []
def B_count_Counts_Take (c0 : Option Addr) (i1 : Int) : M Value :=
  mBind (N_count_Counts_add c0 i1 (-1 : Int) (8 : Int)) fun r8 =>
  unT r8 fun x8l =>
  unC x8l fun x8v0 x8l0 =>
  unI .i64 x8v0 fun (x8_0 : Int) =>
  unC x8l0 fun x8v1 x8l1 =>
  unI .i64 x8v1 fun (x8_1 : Int) =>
  unE x8l1 <|
  mRet (.tuple #[.int .i64 x8_0, .int .i64 x8_1])
theorem E_count_Counts_Take (c0 : Option Addr) (i1 : Int) : ev Try.prog 17 Try.f17.results.toList C_count_Counts_Take D_count_Counts_Take 400 false [.code (bodyOf Try.f17)] (List.map some [.pointer c0, .int .i64 i1] ++ List.replicate (Try.f17.ntmps - List.length ([.pointer c0, .int .i64 i1] : List Value)) none) = B_count_Counts_Take c0 i1 := by kernel_rfl
theorem S_count_Counts_Take (c0 : Option Addr) (i1 : Int) {h : Hp} {Q : Value → Hp → Prop} (hb : B_count_Counts_Take c0 i1 h Q) : N_count_Counts_Take c0 i1 h Q :=
  Nf.of_ev Try.call17 Try.func17 (c := bodyOf Try.f17) rfl mixed C_count_Counts_Take D_count_Counts_Take 400 (args := [.pointer c0, .int .i64 i1]) (by rw [E_count_Counts_Take]; exact hb)
def C_count_Counts_Give : List (Nat × List Nat) := []
def D_count_Counts_Give : List (Nat × List Nat) := []
def B_count_Counts_Give (c0 : Option Addr) (i1 : Int) : M Value :=
  mBind (N_count_Counts_add c0 i1 (1 : Int) (7 : Int)) fun r8 =>
  unT r8 fun x8l =>
  unC x8l fun x8v0 x8l0 =>
  unI .i64 x8v0 fun (x8_0 : Int) =>
  unC x8l0 fun x8v1 x8l1 =>
  unI .i64 x8v1 fun (x8_1 : Int) =>
  unE x8l1 <|
  mRet (.tuple #[.int .i64 x8_0, .int .i64 x8_1])
theorem E_count_Counts_Give (c0 : Option Addr) (i1 : Int) : ev Try.prog 18 Try.f18.results.toList C_count_Counts_Give D_count_Counts_Give 400 false [.code (bodyOf Try.f18)] (List.map some [.pointer c0, .int .i64 i1] ++ List.replicate (Try.f18.ntmps - List.length ([.pointer c0, .int .i64 i1] : List Value)) none) = B_count_Counts_Give c0 i1 := by kernel_rfl
theorem S_count_Counts_Give (c0 : Option Addr) (i1 : Int) {h : Hp} {Q : Value → Hp → Prop} (hb : B_count_Counts_Give c0 i1 h Q) : N_count_Counts_Give c0 i1 h Q :=
  Nf.of_ev Try.call18 Try.func18 (c := bodyOf Try.f18) rfl mixed C_count_Counts_Give D_count_Counts_Give 400 (args := [.pointer c0, .int .i64 i1]) (by rw [E_count_Counts_Give]; exact hb)
def C_count_Counts_Value : List (Nat × List Nat) := []
def D_count_Counts_Value : List (Nat × List Nat) := []
def B_count_Counts_Value (c0 : Option Addr) (i1 : Int) : M Value :=
  mBind (N_count_Counts_add c0 i1 (0 : Int) (0 : Int)) fun r8 =>
  unT r8 fun x8l =>
  unC x8l fun x8v0 x8l0 =>
  unI .i64 x8v0 fun (x8_0 : Int) =>
  unC x8l0 fun x8v1 x8l1 =>
  unI .i64 x8v1 fun (x8_1 : Int) =>
  unE x8l1 <|
  mRet (.tuple #[.int .i64 x8_0, .int .i64 x8_1])
theorem E_count_Counts_Value (c0 : Option Addr) (i1 : Int) : ev Try.prog 19 Try.f19.results.toList C_count_Counts_Value D_count_Counts_Value 400 false [.code (bodyOf Try.f19)] (List.map some [.pointer c0, .int .i64 i1] ++ List.replicate (Try.f19.ntmps - List.length ([.pointer c0, .int .i64 i1] : List Value)) none) = B_count_Counts_Value c0 i1 := by kernel_rfl
theorem S_count_Counts_Value (c0 : Option Addr) (i1 : Int) {h : Hp} {Q : Value → Hp → Prop} (hb : B_count_Counts_Value c0 i1 h Q) : N_count_Counts_Value c0 i1 h Q :=
  Nf.of_ev Try.call19 Try.func19 (c := bodyOf Try.f19) rfl mixed C_count_Counts_Value D_count_Counts_Value 400 (args := [.pointer c0, .int .i64 i1]) (by rw [E_count_Counts_Value]; exact hb)
def C_count_Counts_Len : List (Nat × List Nat) := []
def D_count_Counts_Len : List (Nat × List Nat) := []
def B_count_Counts_Len (c0 : Option Addr) : M Value :=
  mIf c0.isNone (
    mRet (.int .i64 (0 : Int))) (
    mNil c0 fun (a2 : Addr) =>
    mLdL a2 fun (x8 : Sl) =>
    mRet (.int .i64 (x8.n : Int)))
theorem E_count_Counts_Len (c0 : Option Addr) : ev Try.prog 20 Try.f20.results.toList C_count_Counts_Len D_count_Counts_Len 400 false [.code (bodyOf Try.f20)] (List.map some [.pointer c0] ++ List.replicate (Try.f20.ntmps - List.length ([.pointer c0] : List Value)) none) = B_count_Counts_Len c0 := by kernel_rfl
theorem S_count_Counts_Len (c0 : Option Addr) {h : Hp} {Q : Value → Hp → Prop} (hb : B_count_Counts_Len c0 h Q) : N_count_Counts_Len c0 h Q :=
  Nf.of_ev Try.call20 Try.func20 (c := bodyOf Try.f20) rfl mixed C_count_Counts_Len D_count_Counts_Len 400 (args := [.pointer c0]) (by rw [E_count_Counts_Len]; exact hb)
def C_count_Counts_add : List (Nat × List Nat) := []
def D_count_Counts_add : List (Nat × List Nat) := []
def B_count_Counts_add (c0 : Option Addr) (i1 : Int) (by2 : Int) (refused3 : Int) : M Value :=
  mBind (mIf (decide (i1 < (0 : Int))) (mRet true) (mBind (N_count_Counts_Len c0) fun r17 =>
    unI .i64 r17 fun (x17 : Int) =>
    mRet (decide (i1 ≥ x17)))) fun (b2 : Bool) =>
  mIf b2 (
    mRet (.tuple #[.int .i64 (0 : Int), .int .i64 (6 : Int)])) (
    mNil c0 fun (a4 : Addr) =>
    mLdL a4 fun (x23 : Sl) =>
    mIdx x23 i1 2 fun (x25 : Addr) =>
    mLdI .i64 x25 fun (x29 : Int) =>
    mBind (mIf (decide ((IntKind.i64.wrap (x29 + by2)) < (0 : Int))) (mRet true) (mLdI .i64 (x25.add 1) fun (x39 : Int) =>
      mRet (decide ((IntKind.i64.wrap (x29 + by2)) > x39)))) fun (b14 : Bool) =>
    mIf b14 (
      mLdI .i64 x25 fun (x45 : Int) =>
      mRet (.tuple #[.int .i64 x45, .int .i64 refused3])) (
      mLdI .i64 x25 fun (x50 : Int) =>
      mSt x25 (.int .i64 (IntKind.i64.wrap (x50 + by2))) <|
      mLdI .i64 x25 fun (x58 : Int) =>
      mRet (.tuple #[.int .i64 x58, .int .i64 (0 : Int)])))
theorem E_count_Counts_add (c0 : Option Addr) (i1 : Int) (by2 : Int) (refused3 : Int) : ev Try.prog 64 Try.f64.results.toList C_count_Counts_add D_count_Counts_add 400 false [.code (bodyOf Try.f64)] (List.map some [.pointer c0, .int .i64 i1, .int .i64 by2, .int .i64 refused3] ++ List.replicate (Try.f64.ntmps - List.length ([.pointer c0, .int .i64 i1, .int .i64 by2, .int .i64 refused3] : List Value)) none) = B_count_Counts_add c0 i1 by2 refused3 := by kernel_rfl
theorem S_count_Counts_add (c0 : Option Addr) (i1 : Int) (by2 : Int) (refused3 : Int) {h : Hp} {Q : Value → Hp → Prop} (hb : B_count_Counts_add c0 i1 by2 refused3 h Q) : N_count_Counts_add c0 i1 by2 refused3 h Q :=
  Nf.of_ev Try.call64 Try.func64 (c := bodyOf Try.f64) rfl mixed C_count_Counts_add D_count_Counts_add 400 (args := [.pointer c0, .int .i64 i1, .int .i64 by2, .int .i64 refused3]) (by rw [E_count_Counts_add]; exact hb)
def C_signalboxlaw12_CountPlays : List (Nat × List Nat) := [(8, [0, 2, 7, 8, 36, 37, 38]), (16, [0, 2, 7, 8, 10, 11, 12, 13, 36, 37, 38]), (22, [0, 2, 7, 8, 10, 11, 12, 13, 14, 36, 37, 38]), (30, [0, 2, 7, 8, 10, 12, 13, 14, 15, 36, 37, 38])]
def D_signalboxlaw12_CountPlays : List (Nat × List Nat) := []
def T_signalboxlaw12_CountPlays_8 (mosts0 : Sl) (take2 : Sl) (c7 : Option Addr) (now8 : Sl) (t36 : Sl) (t37 : Int) (t38 : Int) : Env := mkEnv [(0, .slice mosts0.p mosts0.n mosts0.c), (2, .slice take2.p take2.n take2.c), (7, .pointer c7), (8, .slice now8.p now8.n now8.c), (36, .slice t36.p t36.n t36.c), (37, .int .i64 t37), (38, .int .i64 t38)] 184 0
def K_signalboxlaw12_CountPlays_8 (mosts0 : Sl) (take2 : Sl) (c7 : Option Addr) (now8 : Sl) (t36 : Sl) (t37 : Int) (t38 : Int) : M Value := Cut Try.prog 3 (todoOf Try.f3 8) (T_signalboxlaw12_CountPlays_8 mosts0 take2 c7 now8 t36 t37 t38)
def T_signalboxlaw12_CountPlays_16 (mosts0 : Sl) (take2 : Sl) (c7 : Option Addr) (now8 : Sl) (i10 : Int) (taken11 : Bool) (n12 : Int) (e13 : Int) (t36 : Sl) (t37 : Int) (t38 : Int) : Env := mkEnv [(0, .slice mosts0.p mosts0.n mosts0.c), (2, .slice take2.p take2.n take2.c), (7, .pointer c7), (8, .slice now8.p now8.n now8.c), (10, .int .i64 i10), (11, .bool taken11), (12, .int .i64 n12), (13, .int .i64 e13), (36, .slice t36.p t36.n t36.c), (37, .int .i64 t37), (38, .int .i64 t38)] 184 0
def K_signalboxlaw12_CountPlays_16 (mosts0 : Sl) (take2 : Sl) (c7 : Option Addr) (now8 : Sl) (i10 : Int) (taken11 : Bool) (n12 : Int) (e13 : Int) (t36 : Sl) (t37 : Int) (t38 : Int) : M Value := Cut Try.prog 3 (todoOf Try.f3 16) (T_signalboxlaw12_CountPlays_16 mosts0 take2 c7 now8 i10 taken11 n12 e13 t36 t37 t38)
def T_signalboxlaw12_CountPlays_22 (mosts0 : Sl) (take2 : Sl) (c7 : Option Addr) (now8 : Sl) (i10 : Int) (taken11 : Bool) (n12 : Int) (e13 : Int) (most14 : Int) (t36 : Sl) (t37 : Int) (t38 : Int) : Env := mkEnv [(0, .slice mosts0.p mosts0.n mosts0.c), (2, .slice take2.p take2.n take2.c), (7, .pointer c7), (8, .slice now8.p now8.n now8.c), (10, .int .i64 i10), (11, .bool taken11), (12, .int .i64 n12), (13, .int .i64 e13), (14, .int .i64 most14), (36, .slice t36.p t36.n t36.c), (37, .int .i64 t37), (38, .int .i64 t38)] 184 0
def K_signalboxlaw12_CountPlays_22 (mosts0 : Sl) (take2 : Sl) (c7 : Option Addr) (now8 : Sl) (i10 : Int) (taken11 : Bool) (n12 : Int) (e13 : Int) (most14 : Int) (t36 : Sl) (t37 : Int) (t38 : Int) : M Value := Cut Try.prog 3 (todoOf Try.f3 22) (T_signalboxlaw12_CountPlays_22 mosts0 take2 c7 now8 i10 taken11 n12 e13 most14 t36 t37 t38)
def T_signalboxlaw12_CountPlays_30 (mosts0 : Sl) (take2 : Sl) (c7 : Option Addr) (now8 : Sl) (i10 : Int) (n12 : Int) (e13 : Int) (most14 : Int) (want15 : Int) (t36 : Sl) (t37 : Int) (t38 : Int) : Env := mkEnv [(0, .slice mosts0.p mosts0.n mosts0.c), (2, .slice take2.p take2.n take2.c), (7, .pointer c7), (8, .slice now8.p now8.n now8.c), (10, .int .i64 i10), (12, .int .i64 n12), (13, .int .i64 e13), (14, .int .i64 most14), (15, .int .i64 want15), (36, .slice t36.p t36.n t36.c), (37, .int .i64 t37), (38, .int .i64 t38)] 184 0
def K_signalboxlaw12_CountPlays_30 (mosts0 : Sl) (take2 : Sl) (c7 : Option Addr) (now8 : Sl) (i10 : Int) (n12 : Int) (e13 : Int) (most14 : Int) (want15 : Int) (t36 : Sl) (t37 : Int) (t38 : Int) : M Value := Cut Try.prog 3 (todoOf Try.f3 30) (T_signalboxlaw12_CountPlays_30 mosts0 take2 c7 now8 i10 n12 e13 most14 want15 t36 t37 t38)
def B_signalboxlaw12_CountPlays (mosts0 : Sl) (l1 : Sl) (take2 : Sl) : M Value :=
  mBind (N_signalboxlaw12_fixed) fun r21 =>
  unB r21 fun (x21 : Bool) =>
  mIf (!x21) (
    mRet (.bool false)) (
    mIf ((decide ((mosts0.n : Int) > (20 : Int))) || (decide ((l1.n : Int) > (200 : Int)))) (
      mRet (.bool true)) (
      mBind (N_count_New mosts0) fun r32 =>
      unP r32 fun (x32 : Option Addr) =>
      mMake 3 8 #[.int .i64 (0 : Int)] (mosts0.n : Int) (mosts0.n : Int) fun (x35 : Sl) =>
      K_signalboxlaw12_CountPlays_8 mosts0 take2 x32 x35 l1 (l1.n : Int) (0 : Int)))
def B_signalboxlaw12_CountPlays_8 (mosts0 : Sl) (take2 : Sl) (c7 : Option Addr) (now8 : Sl) (t36 : Sl) (t37 : Int) (t38 : Int) : M Value :=
  mIf (decide (t38 < t37)) (
    mIdx t36 t38 1 fun (x41 : Addr) =>
    mLdI .i64 x41 fun (x42 : Int) =>
    mBind (mIf (decide (t38 < (take2.n : Int))) (mIdx take2 t38 1 fun (x50 : Addr) =>
      mLdB x50 fun (x51 : Bool) =>
      mRet x51) (mRet false)) fun (b8 : Bool) =>
    mIf b8 (
      mBind (N_count_Counts_Take c7 x42) fun r57 =>
      unT r57 fun x57l =>
      unC x57l fun x57v0 x57l0 =>
      unI .i64 x57v0 fun (x57_0 : Int) =>
      unC x57l0 fun x57v1 x57l1 =>
      unI .i64 x57v1 fun (x57_1 : Int) =>
      unE x57l1 <|
      K_signalboxlaw12_CountPlays_16 mosts0 take2 c7 now8 x42 b8 x57_0 x57_1 t36 t37 t38) (
      mBind (N_count_Counts_Give c7 x42) fun r63 =>
      unT r63 fun x63l =>
      unC x63l fun x63v0 x63l0 =>
      unI .i64 x63v0 fun (x63_0 : Int) =>
      unC x63l0 fun x63v1 x63l1 =>
      unI .i64 x63v1 fun (x63_1 : Int) =>
      unE x63l1 <|
      K_signalboxlaw12_CountPlays_16 mosts0 take2 c7 now8 x42 b8 x63_0 x63_1 t36 t37 t38)) (
    mBind (N_count_Counts_Give none (0 : Int)) fun r167 =>
    unT r167 fun x167l =>
    unC x167l fun x167v0 x167l0 =>
    unI .i64 x167v0 fun (_x167_0 : Int) =>
    unC x167l0 fun x167v1 x167l1 =>
    unI .i64 x167v1 fun (x167_1 : Int) =>
    unE x167l1 <|
    mBind (N_count_Counts_Len c7) fun r171 =>
    unI .i64 r171 fun (x171 : Int) =>
    mBind (mIf (x171 == (mosts0.n : Int)) (mBind (N_count_Counts_Len none) fun r177 =>
      unI .i64 r177 fun (x177 : Int) =>
      mRet (x177 == (0 : Int))) (mRet false)) fun (b14 : Bool) =>
    mRet (.bool (b14 && (x167_1 == (6 : Int)))))
def B_signalboxlaw12_CountPlays_16 (mosts0 : Sl) (take2 : Sl) (c7 : Option Addr) (now8 : Sl) (i10 : Int) (taken11 : Bool) (n12 : Int) (e13 : Int) (t36 : Sl) (t37 : Int) (t38 : Int) : M Value :=
  mIf ((decide (i10 < (0 : Int))) || (decide (i10 ≥ (mosts0.n : Int)))) (
    mIf ((n12 != (0 : Int)) || (e13 != (6 : Int))) (
      mRet (.bool false)) (
      K_signalboxlaw12_CountPlays_8 mosts0 take2 c7 now8 t36 t37 (IntKind.i64.wrap (t38 + (1 : Int))))) (
    mIdx mosts0 i10 1 fun (x82 : Addr) =>
    mLdI .i64 x82 fun (x83 : Int) =>
    mBind (mIf (decide (x83 ≥ (1 : Int))) (mIdx mosts0 i10 1 fun (x88 : Addr) =>
      mLdI .i64 x88 fun (x89 : Int) =>
      mRet (decide (x89 ≤ (8 : Int)))) (mRet false)) fun (b19 : Bool) =>
    mIf b19 (
      mIdx mosts0 i10 1 fun (x94 : Addr) =>
      mLdI .i64 x94 fun (x95 : Int) =>
      K_signalboxlaw12_CountPlays_22 mosts0 take2 c7 now8 i10 taken11 n12 e13 x95 t36 t37 t38) (
      K_signalboxlaw12_CountPlays_22 mosts0 take2 c7 now8 i10 taken11 n12 e13 (1 : Int) t36 t37 t38))
def B_signalboxlaw12_CountPlays_22 (mosts0 : Sl) (take2 : Sl) (c7 : Option Addr) (now8 : Sl) (i10 : Int) (taken11 : Bool) (n12 : Int) (e13 : Int) (most14 : Int) (t36 : Sl) (t37 : Int) (t38 : Int) : M Value :=
  mBind (mIf taken11 (mIdx now8 i10 1 fun (x107 : Addr) =>
    mLdI .i64 x107 fun (x108 : Int) =>
    mRet (x108 == (0 : Int))) (mRet false)) fun (b24 : Bool) =>
  mIf b24 (
    K_signalboxlaw12_CountPlays_30 mosts0 take2 c7 now8 i10 n12 e13 most14 (8 : Int) t36 t37 t38) (
    mIf taken11 (
      mIdx now8 i10 1 fun (x115 : Addr) =>
      mLdI .i64 x115 fun (x116 : Int) =>
      mIdx now8 i10 1 fun (x118 : Addr) =>
      mSt x118 (.int .i64 (IntKind.i64.wrap (x116 - (1 : Int)))) <|
      K_signalboxlaw12_CountPlays_30 mosts0 take2 c7 now8 i10 n12 e13 most14 (0 : Int) t36 t37 t38) (
      mIdx now8 i10 1 fun (x122 : Addr) =>
      mLdI .i64 x122 fun (x123 : Int) =>
      mIf (x123 == most14) (
        K_signalboxlaw12_CountPlays_30 mosts0 take2 c7 now8 i10 n12 e13 most14 (7 : Int) t36 t37 t38) (
        mIdx now8 i10 1 fun (x98 : Addr) =>
        mLdI .i64 x98 fun (x99 : Int) =>
        mIdx now8 i10 1 fun (x101 : Addr) =>
        mSt x101 (.int .i64 (IntKind.i64.wrap (x99 + (1 : Int)))) <|
        K_signalboxlaw12_CountPlays_30 mosts0 take2 c7 now8 i10 n12 e13 most14 (0 : Int) t36 t37 t38)))
def B_signalboxlaw12_CountPlays_30 (mosts0 : Sl) (take2 : Sl) (c7 : Option Addr) (now8 : Sl) (i10 : Int) (n12 : Int) (e13 : Int) (most14 : Int) (want15 : Int) (t36 : Sl) (t37 : Int) (t38 : Int) : M Value :=
  mBind (N_count_Counts_Value c7 i10) fun r129 =>
  unT r129 fun x129l =>
  unC x129l fun x129v0 x129l0 =>
  unI .i64 x129v0 fun (x129_0 : Int) =>
  unC x129l0 fun x129v1 x129l1 =>
  unI .i64 x129v1 fun (x129_1 : Int) =>
  unE x129l1 <|
  mBind (mIf (e13 != want15) (mRet true) (mIdx now8 i10 1 fun (x139 : Addr) =>
    mLdI .i64 x139 fun (x140 : Int) =>
    mRet (n12 != x140))) fun (b38 : Bool) =>
  mBind (mIf b38 (mRet true) (mIdx now8 i10 1 fun (x147 : Addr) =>
    mLdI .i64 x147 fun (x148 : Int) =>
    mRet (x129_0 != x148))) fun (b41 : Bool) =>
  mIf (((b41 || (x129_1 != (0 : Int))) || (decide (x129_0 < (0 : Int)))) || (decide (x129_0 > most14))) (
    mRet (.bool false)) (
    K_signalboxlaw12_CountPlays_8 mosts0 take2 c7 now8 t36 t37 (IntKind.i64.wrap (t38 + (1 : Int))))
theorem E_signalboxlaw12_CountPlays (mosts0 : Sl) (l1 : Sl) (take2 : Sl) : ev Try.prog 3 Try.f3.results.toList C_signalboxlaw12_CountPlays D_signalboxlaw12_CountPlays 400 false [.code (bodyOf Try.f3)] (List.map some [.slice mosts0.p mosts0.n mosts0.c, .slice l1.p l1.n l1.c, .slice take2.p take2.n take2.c] ++ List.replicate (Try.f3.ntmps - List.length ([.slice mosts0.p mosts0.n mosts0.c, .slice l1.p l1.n l1.c, .slice take2.p take2.n take2.c] : List Value)) none) = B_signalboxlaw12_CountPlays mosts0 l1 take2 := by kernel_rfl
theorem S_signalboxlaw12_CountPlays (mosts0 : Sl) (l1 : Sl) (take2 : Sl) {h : Hp} {Q : Value → Hp → Prop} (hb : B_signalboxlaw12_CountPlays mosts0 l1 take2 h Q) : N_signalboxlaw12_CountPlays mosts0 l1 take2 h Q :=
  Nf.of_ev Try.call3 Try.func3 (c := bodyOf Try.f3) rfl mixed C_signalboxlaw12_CountPlays D_signalboxlaw12_CountPlays 400 (args := [.slice mosts0.p mosts0.n mosts0.c, .slice l1.p l1.n l1.c, .slice take2.p take2.n take2.c]) (by rw [E_signalboxlaw12_CountPlays]; exact hb)
theorem E_signalboxlaw12_CountPlays_8 (mosts0 : Sl) (take2 : Sl) (c7 : Option Addr) (now8 : Sl) (t36 : Sl) (t37 : Int) (t38 : Int) : ev Try.prog 3 Try.f3.results.toList C_signalboxlaw12_CountPlays D_signalboxlaw12_CountPlays 400 true (todoOf Try.f3 8) (T_signalboxlaw12_CountPlays_8 mosts0 take2 c7 now8 t36 t37 t38) = B_signalboxlaw12_CountPlays_8 mosts0 take2 c7 now8 t36 t37 t38 := by kernel_rfl
theorem S_signalboxlaw12_CountPlays_8 (mosts0 : Sl) (take2 : Sl) (c7 : Option Addr) (now8 : Sl) (t36 : Sl) (t37 : Int) (t38 : Int) {h : Hp} {Q : Value → Hp → Prop} (hb : B_signalboxlaw12_CountPlays_8 mosts0 take2 c7 now8 t36 t37 t38 h Q) : K_signalboxlaw12_CountPlays_8 mosts0 take2 c7 now8 t36 t37 t38 h Q :=
  Cut.of_ev Try.func3 mixed C_signalboxlaw12_CountPlays D_signalboxlaw12_CountPlays 400 (by rw [E_signalboxlaw12_CountPlays_8]; exact hb)
theorem E_signalboxlaw12_CountPlays_16 (mosts0 : Sl) (take2 : Sl) (c7 : Option Addr) (now8 : Sl) (i10 : Int) (taken11 : Bool) (n12 : Int) (e13 : Int) (t36 : Sl) (t37 : Int) (t38 : Int) : ev Try.prog 3 Try.f3.results.toList C_signalboxlaw12_CountPlays D_signalboxlaw12_CountPlays 400 true (todoOf Try.f3 16) (T_signalboxlaw12_CountPlays_16 mosts0 take2 c7 now8 i10 taken11 n12 e13 t36 t37 t38) = B_signalboxlaw12_CountPlays_16 mosts0 take2 c7 now8 i10 taken11 n12 e13 t36 t37 t38 := by kernel_rfl
theorem S_signalboxlaw12_CountPlays_16 (mosts0 : Sl) (take2 : Sl) (c7 : Option Addr) (now8 : Sl) (i10 : Int) (taken11 : Bool) (n12 : Int) (e13 : Int) (t36 : Sl) (t37 : Int) (t38 : Int) {h : Hp} {Q : Value → Hp → Prop} (hb : B_signalboxlaw12_CountPlays_16 mosts0 take2 c7 now8 i10 taken11 n12 e13 t36 t37 t38 h Q) : K_signalboxlaw12_CountPlays_16 mosts0 take2 c7 now8 i10 taken11 n12 e13 t36 t37 t38 h Q :=
  Cut.of_ev Try.func3 mixed C_signalboxlaw12_CountPlays D_signalboxlaw12_CountPlays 400 (by rw [E_signalboxlaw12_CountPlays_16]; exact hb)
theorem E_signalboxlaw12_CountPlays_22 (mosts0 : Sl) (take2 : Sl) (c7 : Option Addr) (now8 : Sl) (i10 : Int) (taken11 : Bool) (n12 : Int) (e13 : Int) (most14 : Int) (t36 : Sl) (t37 : Int) (t38 : Int) : ev Try.prog 3 Try.f3.results.toList C_signalboxlaw12_CountPlays D_signalboxlaw12_CountPlays 400 true (todoOf Try.f3 22) (T_signalboxlaw12_CountPlays_22 mosts0 take2 c7 now8 i10 taken11 n12 e13 most14 t36 t37 t38) = B_signalboxlaw12_CountPlays_22 mosts0 take2 c7 now8 i10 taken11 n12 e13 most14 t36 t37 t38 := by kernel_rfl
theorem S_signalboxlaw12_CountPlays_22 (mosts0 : Sl) (take2 : Sl) (c7 : Option Addr) (now8 : Sl) (i10 : Int) (taken11 : Bool) (n12 : Int) (e13 : Int) (most14 : Int) (t36 : Sl) (t37 : Int) (t38 : Int) {h : Hp} {Q : Value → Hp → Prop} (hb : B_signalboxlaw12_CountPlays_22 mosts0 take2 c7 now8 i10 taken11 n12 e13 most14 t36 t37 t38 h Q) : K_signalboxlaw12_CountPlays_22 mosts0 take2 c7 now8 i10 taken11 n12 e13 most14 t36 t37 t38 h Q :=
  Cut.of_ev Try.func3 mixed C_signalboxlaw12_CountPlays D_signalboxlaw12_CountPlays 400 (by rw [E_signalboxlaw12_CountPlays_22]; exact hb)
theorem E_signalboxlaw12_CountPlays_30 (mosts0 : Sl) (take2 : Sl) (c7 : Option Addr) (now8 : Sl) (i10 : Int) (n12 : Int) (e13 : Int) (most14 : Int) (want15 : Int) (t36 : Sl) (t37 : Int) (t38 : Int) : ev Try.prog 3 Try.f3.results.toList C_signalboxlaw12_CountPlays D_signalboxlaw12_CountPlays 400 true (todoOf Try.f3 30) (T_signalboxlaw12_CountPlays_30 mosts0 take2 c7 now8 i10 n12 e13 most14 want15 t36 t37 t38) = B_signalboxlaw12_CountPlays_30 mosts0 take2 c7 now8 i10 n12 e13 most14 want15 t36 t37 t38 := by kernel_rfl
theorem S_signalboxlaw12_CountPlays_30 (mosts0 : Sl) (take2 : Sl) (c7 : Option Addr) (now8 : Sl) (i10 : Int) (n12 : Int) (e13 : Int) (most14 : Int) (want15 : Int) (t36 : Sl) (t37 : Int) (t38 : Int) {h : Hp} {Q : Value → Hp → Prop} (hb : B_signalboxlaw12_CountPlays_30 mosts0 take2 c7 now8 i10 n12 e13 most14 want15 t36 t37 t38 h Q) : K_signalboxlaw12_CountPlays_30 mosts0 take2 c7 now8 i10 n12 e13 most14 want15 t36 t37 t38 h Q :=
  Cut.of_ev Try.func3 mixed C_signalboxlaw12_CountPlays D_signalboxlaw12_CountPlays 400 (by rw [E_signalboxlaw12_CountPlays_30]; exact hb)
def C_signalboxlaw12_CountBalance : List (Nat × List Nat) := [(9, [5, 6, 7, 28, 29, 30]), (18, [5, 6, 7, 28, 29, 30])]
def D_signalboxlaw12_CountBalance : List (Nat × List Nat) := []
def T_signalboxlaw12_CountBalance_9 (m5 : Int) (c6 : Option Addr) (n7 : Int) (t28 : Sl) (t29 : Int) (t30 : Int) : Env := mkEnv [(5, .int .i64 m5), (6, .pointer c6), (7, .int .i64 n7), (28, .slice t28.p t28.n t28.c), (29, .int .i64 t29), (30, .int .i64 t30)] 75 0
def K_signalboxlaw12_CountBalance_9 (m5 : Int) (c6 : Option Addr) (n7 : Int) (t28 : Sl) (t29 : Int) (t30 : Int) : M Value := Cut Try.prog 4 (todoOf Try.f4 9) (T_signalboxlaw12_CountBalance_9 m5 c6 n7 t28 t29 t30)
def T_signalboxlaw12_CountBalance_18 (m5 : Int) (c6 : Option Addr) (n7 : Int) (t28 : Sl) (t29 : Int) (t30 : Int) : Env := mkEnv [(5, .int .i64 m5), (6, .pointer c6), (7, .int .i64 n7), (28, .slice t28.p t28.n t28.c), (29, .int .i64 t29), (30, .int .i64 t30)] 75 0
def K_signalboxlaw12_CountBalance_18 (m5 : Int) (c6 : Option Addr) (n7 : Int) (t28 : Sl) (t29 : Int) (t30 : Int) : M Value := Cut Try.prog 4 (todoOf Try.f4 18) (T_signalboxlaw12_CountBalance_18 m5 c6 n7 t28 t29 t30)
def B_signalboxlaw12_CountBalance (most0 : Int) (take1 : Sl) : M Value :=
  mBind (N_signalboxlaw12_fixed) fun r16 =>
  unB r16 fun (x16 : Bool) =>
  mIf (!x16) (
    mRet (.bool false)) (
    mIf (decide ((take1.n : Int) > (200 : Int))) (
      mRet (.bool true)) (
      mGuard ((8 : Int) ≠ 0) <|
      mNew #[.int .i64 (IntKind.i64.wrap ((1 : Int) + (IntKind.i64.wrap (Int.tmod most0 (8 : Int)))))] 3 fun (x26 : Addr) =>
      mBind (N_count_New (Sl.mk (some x26) 1 1)) fun r27 =>
      unP r27 fun (x27 : Option Addr) =>
      K_signalboxlaw12_CountBalance_9 (IntKind.i64.wrap ((1 : Int) + (IntKind.i64.wrap (Int.tmod most0 (8 : Int))))) x27 (0 : Int) take1 (take1.n : Int) (0 : Int)))
def B_signalboxlaw12_CountBalance_9 (m5 : Int) (c6 : Option Addr) (n7 : Int) (t28 : Sl) (t29 : Int) (t30 : Int) : M Value :=
  mIf (decide (t30 < t29)) (
    mIdx t28 t30 1 fun (x32 : Addr) =>
    mLdB x32 fun (x33 : Bool) =>
    mIf x33 (
      mBind (N_count_Counts_Take c6 (0 : Int)) fun r37 =>
      unT r37 fun x37l =>
      unC x37l fun x37v0 x37l0 =>
      unI .i64 x37v0 fun (_x37_0 : Int) =>
      unC x37l0 fun x37v1 x37l1 =>
      unI .i64 x37v1 fun (x37_1 : Int) =>
      unE x37l1 <|
      mIf (x37_1 == (0 : Int)) (
        K_signalboxlaw12_CountBalance_18 m5 c6 (IntKind.i64.wrap (n7 - (1 : Int))) t28 t29 t30) (
        K_signalboxlaw12_CountBalance_18 m5 c6 n7 t28 t29 t30)) (
      mBind (N_count_Counts_Give c6 (0 : Int)) fun r46 =>
      unT r46 fun x46l =>
      unC x46l fun x46v0 x46l0 =>
      unI .i64 x46v0 fun (_x46_0 : Int) =>
      unC x46l0 fun x46v1 x46l1 =>
      unI .i64 x46v1 fun (x46_1 : Int) =>
      unE x46l1 <|
      mIf (x46_1 == (0 : Int)) (
        K_signalboxlaw12_CountBalance_18 m5 c6 (IntKind.i64.wrap (n7 + (1 : Int))) t28 t29 t30) (
        K_signalboxlaw12_CountBalance_18 m5 c6 n7 t28 t29 t30))) (
    mRet (.bool true))
def B_signalboxlaw12_CountBalance_18 (m5 : Int) (c6 : Option Addr) (n7 : Int) (t28 : Sl) (t29 : Int) (t30 : Int) : M Value :=
  mBind (N_count_Counts_Value c6 (0 : Int)) fun r55 =>
  unT r55 fun x55l =>
  unC x55l fun x55v0 x55l0 =>
  unI .i64 x55v0 fun (x55_0 : Int) =>
  unC x55l0 fun x55v1 x55l1 =>
  unI .i64 x55v1 fun (x55_1 : Int) =>
  unE x55l1 <|
  mIf ((((x55_0 != n7) || (x55_1 != (0 : Int))) || (decide (n7 < (0 : Int)))) || (decide (n7 > m5))) (
    mRet (.bool false)) (
    K_signalboxlaw12_CountBalance_9 m5 c6 n7 t28 t29 (IntKind.i64.wrap (t30 + (1 : Int))))
theorem E_signalboxlaw12_CountBalance (most0 : Int) (take1 : Sl) : ev Try.prog 4 Try.f4.results.toList C_signalboxlaw12_CountBalance D_signalboxlaw12_CountBalance 400 false [.code (bodyOf Try.f4)] (List.map some [.int .u8 most0, .slice take1.p take1.n take1.c] ++ List.replicate (Try.f4.ntmps - List.length ([.int .u8 most0, .slice take1.p take1.n take1.c] : List Value)) none) = B_signalboxlaw12_CountBalance most0 take1 := by kernel_rfl
theorem S_signalboxlaw12_CountBalance (most0 : Int) (take1 : Sl) {h : Hp} {Q : Value → Hp → Prop} (hb : B_signalboxlaw12_CountBalance most0 take1 h Q) : N_signalboxlaw12_CountBalance most0 take1 h Q :=
  Nf.of_ev Try.call4 Try.func4 (c := bodyOf Try.f4) rfl mixed C_signalboxlaw12_CountBalance D_signalboxlaw12_CountBalance 400 (args := [.int .u8 most0, .slice take1.p take1.n take1.c]) (by rw [E_signalboxlaw12_CountBalance]; exact hb)
theorem E_signalboxlaw12_CountBalance_9 (m5 : Int) (c6 : Option Addr) (n7 : Int) (t28 : Sl) (t29 : Int) (t30 : Int) : ev Try.prog 4 Try.f4.results.toList C_signalboxlaw12_CountBalance D_signalboxlaw12_CountBalance 400 true (todoOf Try.f4 9) (T_signalboxlaw12_CountBalance_9 m5 c6 n7 t28 t29 t30) = B_signalboxlaw12_CountBalance_9 m5 c6 n7 t28 t29 t30 := by kernel_rfl
theorem S_signalboxlaw12_CountBalance_9 (m5 : Int) (c6 : Option Addr) (n7 : Int) (t28 : Sl) (t29 : Int) (t30 : Int) {h : Hp} {Q : Value → Hp → Prop} (hb : B_signalboxlaw12_CountBalance_9 m5 c6 n7 t28 t29 t30 h Q) : K_signalboxlaw12_CountBalance_9 m5 c6 n7 t28 t29 t30 h Q :=
  Cut.of_ev Try.func4 mixed C_signalboxlaw12_CountBalance D_signalboxlaw12_CountBalance 400 (by rw [E_signalboxlaw12_CountBalance_9]; exact hb)
theorem E_signalboxlaw12_CountBalance_18 (m5 : Int) (c6 : Option Addr) (n7 : Int) (t28 : Sl) (t29 : Int) (t30 : Int) : ev Try.prog 4 Try.f4.results.toList C_signalboxlaw12_CountBalance D_signalboxlaw12_CountBalance 400 true (todoOf Try.f4 18) (T_signalboxlaw12_CountBalance_18 m5 c6 n7 t28 t29 t30) = B_signalboxlaw12_CountBalance_18 m5 c6 n7 t28 t29 t30 := by kernel_rfl
theorem S_signalboxlaw12_CountBalance_18 (m5 : Int) (c6 : Option Addr) (n7 : Int) (t28 : Sl) (t29 : Int) (t30 : Int) {h : Hp} {Q : Value → Hp → Prop} (hb : B_signalboxlaw12_CountBalance_18 m5 c6 n7 t28 t29 t30 h Q) : K_signalboxlaw12_CountBalance_18 m5 c6 n7 t28 t29 t30 h Q :=
  Cut.of_ev Try.func4 mixed C_signalboxlaw12_CountBalance D_signalboxlaw12_CountBalance 400 (by rw [E_signalboxlaw12_CountBalance_18]; exact hb)
end Go.Proofs.Ytkmenmagclojmaa
