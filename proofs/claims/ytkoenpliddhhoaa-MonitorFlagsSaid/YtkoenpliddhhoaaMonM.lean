/- What the functions of this layer come to, as forms of the small logic; written by program. Conditions: none. -/
import Derived.Test.YtkoenpliddhhoaaSbU
import Derived.Test.YtkoenpliddhhoaaChecked
import Derived.KernelRfl
set_option maxRecDepth 100000
namespace Go.Proofs.Ytkoenpliddhhoaa
open Go Go.Sb
theorem mixed : Try.prog.follows .mixedOrders = true := by kernel_rfl
def N_signalboxlaw19_fixed : M Value := Nf Try.prog 15 #[]
def N_signalboxlaw19_clamp (n0 : Int) : M Value := Nf Try.prog 16 #[.int .i64 n0]
def N_monitor_All (c0_0 : Int) (c0_1 : Int) (c0_2 : Int) (c0_3 : Int) (c0_4 : Sl) (c0_5 : Int) (c0_6 : Sl) (c0_7 : Sl) (c0_8 : Sl) (c0_9 : Sl) (l1 : Sl) : M Value := Nf Try.prog 17 #[.agg #[.int .i64 c0_0, .int .i64 c0_1, .int .i64 c0_2, .int .i64 c0_3, .slice c0_4.p c0_4.n c0_4.c, .int .i64 c0_5, .slice c0_6.p c0_6.n c0_6.c, .slice c0_7.p c0_7.n c0_7.c, .slice c0_8.p c0_8.n c0_8.c, .slice c0_9.p c0_9.n c0_9.c], .slice l1.p l1.n l1.c]
def N_monitor_Gaps (l0 : Sl) (task1 : Int) : M Value := Nf Try.prog 18 #[.slice l0.p l0.n l0.c, .int .i64 task1]
def N_monitor_First (c0_0 : Int) (c0_1 : Int) (c0_2 : Int) (c0_3 : Int) (c0_4 : Sl) (c0_5 : Int) (c0_6 : Sl) (c0_7 : Sl) (c0_8 : Sl) (c0_9 : Sl) (l1 : Sl) : M Value := Nf Try.prog 19 #[.agg #[.int .i64 c0_0, .int .i64 c0_1, .int .i64 c0_2, .int .i64 c0_3, .slice c0_4.p c0_4.n c0_4.c, .int .i64 c0_5, .slice c0_6.p c0_6.n c0_6.c, .slice c0_7.p c0_7.n c0_7.c, .slice c0_8.p c0_8.n c0_8.c, .slice c0_9.p c0_9.n c0_9.c], .slice l1.p l1.n l1.c]
def N_monitor_Late (c0_0 : Int) (c0_1 : Int) (c0_2 : Int) (c0_3 : Int) (c0_4 : Sl) (c0_5 : Int) (c0_6 : Sl) (c0_7 : Sl) (c0_8 : Sl) (c0_9 : Sl) (l1 : Sl) (now2 : Int) : M Value := Nf Try.prog 20 #[.agg #[.int .i64 c0_0, .int .i64 c0_1, .int .i64 c0_2, .int .i64 c0_3, .slice c0_4.p c0_4.n c0_4.c, .int .i64 c0_5, .slice c0_6.p c0_6.n c0_6.c, .slice c0_7.p c0_7.n c0_7.c, .slice c0_8.p c0_8.n c0_8.c, .slice c0_9.p c0_9.n c0_9.c], .slice l1.p l1.n l1.c, .int .i64 now2]
def N_monitor_released (r0_0 : Int) (r0_1 : Int) (r0_2 : Int) (r0_3 : Int) (r0_4 : Int) (r0_5 : Int) (r0_6 : Int) : M Value := Nf Try.prog 55 #[.agg #[.int .i64 r0_0, .int .i64 r0_1, .int .i64 r0_2, .int .i64 r0_3, .int .i64 r0_4, .int .i64 r0_5, .int .i64 r0_6]]
def N_monitor_clamp (n0 : Int) : M Value := Nf Try.prog 56 #[.int .i64 n0]
def N_signalboxlaw19_MonitorFlags (c0_0 : Int) (c0_1 : Int) (c0_2 : Int) (c0_3 : Int) (c0_4 : Sl) (c0_5 : Int) (c0_6 : Sl) (c0_7 : Sl) (c0_8 : Sl) (c0_9 : Sl) (l1 : Sl) (task2 : Int) : M Value := Nf Try.prog 3 #[.agg #[.int .i64 c0_0, .int .i64 c0_1, .int .i64 c0_2, .int .i64 c0_3, .slice c0_4.p c0_4.n c0_4.c, .int .i64 c0_5, .slice c0_6.p c0_6.n c0_6.c, .slice c0_7.p c0_7.n c0_7.c, .slice c0_8.p c0_8.n c0_8.c, .slice c0_9.p c0_9.n c0_9.c], .slice l1.p l1.n l1.c, .int .i64 task2]
def N_signalboxlaw19_MonitorLate (c0_0 : Int) (c0_1 : Int) (c0_2 : Int) (c0_3 : Int) (c0_4 : Sl) (c0_5 : Int) (c0_6 : Sl) (c0_7 : Sl) (c0_8 : Sl) (c0_9 : Sl) (l1 : Sl) (now2 : Int) : M Value := Nf Try.prog 4 #[.agg #[.int .i64 c0_0, .int .i64 c0_1, .int .i64 c0_2, .int .i64 c0_3, .slice c0_4.p c0_4.n c0_4.c, .int .i64 c0_5, .slice c0_6.p c0_6.n c0_6.c, .slice c0_7.p c0_7.n c0_7.c, .slice c0_8.p c0_8.n c0_8.c, .slice c0_9.p c0_9.n c0_9.c], .slice l1.p l1.n l1.c, .int .i64 now2]
def C_signalboxlaw19_fixed : List (Nat × List Nat) := []
def D_signalboxlaw19_fixed : List (Nat × List Nat) := []
def B_signalboxlaw19_fixed : M Value :=
  mNew #[.int .i64 (0 : Int), .int .i64 (0 : Int), .int .i64 (10 : Int), .int .i64 (10 : Int), .int .i64 (0 : Int), .int .i64 (0 : Int), .slice none (0) (0)] 37 fun (x8 : Addr) =>
  mNew #[.int .i64 (0 : Int), .int .i64 (0 : Int), .int .i64 (0 : Int), .int .i64 (0 : Int), .slice none (0) (0), .int .i64 (0 : Int), .slice none (0) (0), .slice none (0) (0), .slice none (0) (0), .slice none (0) (0)] 27 fun (x1 : Addr) =>
  mSt x1 (.int .i64 (0 : Int)) <|
  mSt (x1.add 1) (.int .i64 (0 : Int)) <|
  mSt (x1.add 2) (.int .i64 (0 : Int)) <|
  mSt (x1.add 3) (.int .i64 (0 : Int)) <|
  mSt (x1.add 4) (.slice none (0) (0)) <|
  mSt (x1.add 5) (.int .i64 (0 : Int)) <|
  mSt (x1.add 6) (.slice none (0) (0)) <|
  mSt (x1.add 7) (.slice none (0) (0)) <|
  mSt (x1.add 8) (.slice (some x8) (1) (1)) <|
  mSt (x1.add 9) (.slice none (0) (0)) <|
  mNew #[.int .i64 (0 : Int), .int .i64 (1 : Int), .int .i64 (0 : Int), .int .i64 (0 : Int), .int .i64 (0 : Int), .int .i64 (0 : Int), .int .i64 (0 : Int), .int .i64 (5 : Int), .int .i64 (3 : Int), .int .i64 (0 : Int), .int .i64 (0 : Int), .int .i64 (0 : Int), .int .i64 (0 : Int), .int .i64 (0 : Int), .int .i64 (9 : Int), .int .i64 (2 : Int), .int .i64 (0 : Int), .int .i64 (0 : Int), .int .i64 (0 : Int), .int .i64 (0 : Int), .int .i64 (0 : Int), .int .i64 (19 : Int), .int .i64 (1 : Int), .int .i64 (0 : Int), .int .i64 (0 : Int), .int .i64 (0 : Int), .int .i64 (0 : Int), .int .i64 (0 : Int)] 33 fun (x14 : Addr) =>
  mLdI .i64 x1 fun (x16_0 : Int) =>
  mLdI .i64 (x1.add 1) fun (x16_1 : Int) =>
  mLdI .i64 (x1.add 2) fun (x16_2 : Int) =>
  mLdI .i64 (x1.add 3) fun (x16_3 : Int) =>
  mLdL (x1.add 4) fun (x16_4 : Sl) =>
  mLdI .i64 (x1.add 5) fun (x16_5 : Int) =>
  mLdL (x1.add 6) fun (x16_6 : Sl) =>
  mLdL (x1.add 7) fun (x16_7 : Sl) =>
  mLdL (x1.add 8) fun (x16_8 : Sl) =>
  mLdL (x1.add 9) fun (x16_9 : Sl) =>
  mBind (N_monitor_First x16_0 x16_1 x16_2 x16_3 x16_4 x16_5 x16_6 x16_7 x16_8 x16_9 (Sl.mk (some x14) 4 4)) fun r18 =>
  unT r18 fun x18l =>
  unC x18l fun x18v0 x18l0 =>
  unA x18v0 fun x18_0l =>
  unC x18_0l fun x18_0v0 x18_0l0 =>
  unI .i64 x18_0v0 fun (x18_0_0 : Int) =>
  unC x18_0l0 fun x18_0v1 x18_0l1 =>
  unI .i64 x18_0v1 fun (x18_0_1 : Int) =>
  unE x18_0l1 <|
  unC x18l0 fun x18v1 x18l1 =>
  unB x18v1 fun (x18_1 : Bool) =>
  unE x18l1 <|
  mNew #[.int .i64 (0 : Int), .int .i64 (0 : Int)] 39 fun (x3_7 : Addr) =>
  mSt x3_7 (.int .i64 x18_0_0) <|
  mSt (x3_7.add 1) (.int .i64 x18_0_1) <|
  mBind (N_monitor_Gaps (Sl.mk (some x14) 4 4) (0 : Int)) fun r22 =>
  unL r22 fun (x22 : Sl) =>
  mLdI .i64 x1 fun (x23_0 : Int) =>
  mLdI .i64 (x1.add 1) fun (x23_1 : Int) =>
  mLdI .i64 (x1.add 2) fun (x23_2 : Int) =>
  mLdI .i64 (x1.add 3) fun (x23_3 : Int) =>
  mLdL (x1.add 4) fun (x23_4 : Sl) =>
  mLdI .i64 (x1.add 5) fun (x23_5 : Int) =>
  mLdL (x1.add 6) fun (x23_6 : Sl) =>
  mLdL (x1.add 7) fun (x23_7 : Sl) =>
  mLdL (x1.add 8) fun (x23_8 : Sl) =>
  mLdL (x1.add 9) fun (x23_9 : Sl) =>
  mNew #[.int .i64 (0 : Int), .int .i64 (0 : Int), .int .i64 (3 : Int), .int .i64 (0 : Int), .int .i64 (13 : Int), .bool false, .int .i64 (0 : Int), .int .i64 (0 : Int), .int .i64 (0 : Int), .int .i64 (0 : Int), .int .i64 (0 : Int), .int .i64 (0 : Int), .int .i64 (0 : Int), .int .i64 (3 : Int), .int .i64 (0 : Int), .int .i64 (14 : Int), .bool false, .int .i64 (0 : Int), .int .i64 (0 : Int), .int .i64 (0 : Int), .int .i64 (0 : Int), .int .i64 (0 : Int), .int .i64 (0 : Int), .int .i64 (0 : Int), .int .i64 (3 : Int), .int .i64 (0 : Int), .int .i64 (-1 : Int), .bool false, .int .i64 (0 : Int), .int .i64 (0 : Int), .int .i64 (0 : Int), .int .i64 (0 : Int), .int .i64 (0 : Int)] 48 fun (x27 : Addr) =>
  mBind (N_monitor_Late x23_0 x23_1 x23_2 x23_3 x23_4 x23_5 x23_6 x23_7 x23_8 x23_9 (Sl.mk (some x27) 3 3) (14 : Int)) fun r28 =>
  unL r28 fun (x28 : Sl) =>
  mBind (mIf x18_1 (mLdI .i64 x3_7 fun (x31_0 : Int) =>
    mLdI .i64 (x3_7.add 1) fun (x31_1 : Int) =>
    mRet ((x31_0 == (9 : Int)) && ((x31_1 == (0 : Int)) && true))) (mRet false)) fun (b14 : Bool) =>
  mBind (mIf b14 (mLdI .i64 x1 fun (x36_0 : Int) =>
    mLdI .i64 (x1.add 1) fun (x36_1 : Int) =>
    mLdI .i64 (x1.add 2) fun (x36_2 : Int) =>
    mLdI .i64 (x1.add 3) fun (x36_3 : Int) =>
    mLdL (x1.add 4) fun (x36_4 : Sl) =>
    mLdI .i64 (x1.add 5) fun (x36_5 : Int) =>
    mLdL (x1.add 6) fun (x36_6 : Sl) =>
    mLdL (x1.add 7) fun (x36_7 : Sl) =>
    mLdL (x1.add 8) fun (x36_8 : Sl) =>
    mLdL (x1.add 9) fun (x36_9 : Sl) =>
    mBind (N_monitor_All x36_0 x36_1 x36_2 x36_3 x36_4 x36_5 x36_6 x36_7 x36_8 x36_9 (Sl.mk (some x14) 4 4)) fun r38 =>
    unL r38 fun (x38 : Sl) =>
    mRet ((x38.n : Int) == (1 : Int))) (mRet false)) fun (b17 : Bool) =>
  mBind (mIf (b17 && ((x22.n : Int) == (2 : Int))) (mIdx x22 (0 : Int) 1 fun (x49 : Addr) =>
    mLdI .i64 x49 fun (x50 : Int) =>
    mRet (x50 == (9 : Int))) (mRet false)) fun (b20 : Bool) =>
  mBind (mIf b20 (mIdx x22 (1 : Int) 1 fun (x55 : Addr) =>
    mLdI .i64 x55 fun (x56 : Int) =>
    mRet (x56 == (10 : Int))) (mRet false)) fun (b23 : Bool) =>
  mBind (mIf (b23 && ((x28.n : Int) == (2 : Int))) (mIdx x28 (0 : Int) 1 fun (x66 : Addr) =>
    mLdI .i64 x66 fun (x67 : Int) =>
    mRet (x67 == (1 : Int))) (mRet false)) fun (b26 : Bool) =>
  mRet (.bool b26)
theorem E_signalboxlaw19_fixed : ev Try.prog 15 Try.f15.results.toList C_signalboxlaw19_fixed D_signalboxlaw19_fixed 400 false [.code (bodyOf Try.f15)] (List.map some [] ++ List.replicate (Try.f15.ntmps - List.length ([] : List Value)) none) = B_signalboxlaw19_fixed := by kernel_rfl
theorem S_signalboxlaw19_fixed {h : Hp} {Q : Value → Hp → Prop} (hb : B_signalboxlaw19_fixed h Q) : N_signalboxlaw19_fixed h Q :=
  Nf.of_ev Try.call15 Try.func15 (c := bodyOf Try.f15) rfl mixed C_signalboxlaw19_fixed D_signalboxlaw19_fixed 400 (args := []) (by rw [E_signalboxlaw19_fixed]; exact hb)
def C_signalboxlaw19_clamp : List (Nat × List Nat) := []
def D_signalboxlaw19_clamp : List (Nat × List Nat) := []
def B_signalboxlaw19_clamp (n0 : Int) : M Value :=
  mRet (.int .i64 (if (1099511627776 : Int) < (if (-1099511627776 : Int) > n0 then (-1099511627776 : Int) else n0) then (1099511627776 : Int) else (if (-1099511627776 : Int) > n0 then (-1099511627776 : Int) else n0)))
theorem E_signalboxlaw19_clamp (n0 : Int) : ev Try.prog 16 Try.f16.results.toList C_signalboxlaw19_clamp D_signalboxlaw19_clamp 400 false [.code (bodyOf Try.f16)] (List.map some [.int .i64 n0] ++ List.replicate (Try.f16.ntmps - List.length ([.int .i64 n0] : List Value)) none) = B_signalboxlaw19_clamp n0 := by kernel_rfl
theorem S_signalboxlaw19_clamp (n0 : Int) {h : Hp} {Q : Value → Hp → Prop} (hb : B_signalboxlaw19_clamp n0 h Q) : N_signalboxlaw19_clamp n0 h Q :=
  Nf.of_ev Try.call16 Try.func16 (c := bodyOf Try.f16) rfl mixed C_signalboxlaw19_clamp D_signalboxlaw19_clamp 400 (args := [.int .i64 n0]) (by rw [E_signalboxlaw19_clamp]; exact hb)
def C_monitor_All : List (Nat × List Nat) := [(4, [2, 5, 6, 12, 13, 14])]
def D_monitor_All : List (Nat × List Nat) := [(10, [0, 1, 2, 3, 4, 5])]
def T_monitor_All_4 (c2 : Addr) (out5 : Sl) (last6 : Option Nat) (t12 : Sl) (t13 : Int) (t14 : Int) : Env := mkEnv [(2, .pointer (some c2)), (5, .slice out5.p out5.n out5.c), (6, .map last6), (12, .slice t12.p t12.n t12.c), (13, .int .i64 t13), (14, .int .i64 t14)] 74 0
def K_monitor_All_4 (c2 : Addr) (out5 : Sl) (last6 : Option Nat) (t12 : Sl) (t13 : Int) (t14 : Int) : M Value := Cut Try.prog 17 (todoOf Try.f17 4) (T_monitor_All_4 c2 out5 last6 t12 t13 t14)
def B_monitor_All (c0_0 : Int) (c0_1 : Int) (c0_2 : Int) (c0_3 : Int) (c0_4 : Sl) (c0_5 : Int) (c0_6 : Sl) (c0_7 : Sl) (c0_8 : Sl) (c0_9 : Sl) (l1 : Sl) : M Value :=
  mNew #[.int .i64 c0_0, .int .i64 c0_1, .int .i64 c0_2, .int .i64 c0_3, .slice c0_4.p c0_4.n c0_4.c, .int .i64 c0_5, .slice c0_6.p c0_6.n c0_6.c, .slice c0_7.p c0_7.n c0_7.c, .slice c0_8.p c0_8.n c0_8.c, .slice c0_9.p c0_9.n c0_9.c] 27 fun (x2 : Addr) =>
  mMapNew fun (x11 : Nat) =>
  K_monitor_All_4 x2 (Sl.mk none 0 0) (some x11) l1 (l1.n : Int) (0 : Int)
def B_monitor_All_4 (c2 : Addr) (out5 : Sl) (last6 : Option Nat) (t12 : Sl) (t13 : Int) (t14 : Int) : M Value :=
  mIf (decide (t14 < t13)) (
    mIdx t12 t14 7 fun (x16 : Addr) =>
    mLdI .i64 x16 fun (x17_0 : Int) =>
    mLdI .i64 (x16.add 1) fun (x17_1 : Int) =>
    mLdI .i64 (x16.add 2) fun (x17_2 : Int) =>
    mLdI .i64 (x16.add 3) fun (x17_3 : Int) =>
    mLdI .i64 (x16.add 4) fun (x17_4 : Int) =>
    mLdI .i64 (x16.add 5) fun (x17_5 : Int) =>
    mLdI .i64 (x16.add 6) fun (x17_6 : Int) =>
    mNew #[.int .i64 (0 : Int), .int .i64 (0 : Int), .int .i64 (0 : Int), .int .i64 (0 : Int), .int .i64 (0 : Int), .int .i64 (0 : Int), .int .i64 (0 : Int)] 33 fun (x8 : Addr) =>
    mSt x8 (.int .i64 x17_0) <|
    mSt (x8.add 1) (.int .i64 x17_1) <|
    mSt (x8.add 2) (.int .i64 x17_2) <|
    mSt (x8.add 3) (.int .i64 x17_3) <|
    mSt (x8.add 4) (.int .i64 x17_4) <|
    mSt (x8.add 5) (.int .i64 x17_5) <|
    mSt (x8.add 6) (.int .i64 x17_6) <|
    mLdI .i64 x8 fun (x18_0 : Int) =>
    mLdI .i64 (x8.add 1) fun (x18_1 : Int) =>
    mLdI .i64 (x8.add 2) fun (x18_2 : Int) =>
    mLdI .i64 (x8.add 3) fun (x18_3 : Int) =>
    mLdI .i64 (x8.add 4) fun (x18_4 : Int) =>
    mLdI .i64 (x8.add 5) fun (x18_5 : Int) =>
    mLdI .i64 (x8.add 6) fun (x18_6 : Int) =>
    mBind (N_monitor_released x18_0 x18_1 x18_2 x18_3 x18_4 x18_5 x18_6) fun r19 =>
    unB r19 fun (x19 : Bool) =>
    mBind (mIf (!x19) (mRet true) (mLdI .i64 (x8.add 2) fun (x23 : Int) =>
      mRet (decide (x23 < (0 : Int))))) fun (b11 : Bool) =>
    mBind (mIf b11 (mRet true) (mLdI .i64 (x8.add 2) fun (x28 : Int) =>
      mLdL (c2.add 8) fun (x30 : Sl) =>
      mRet (decide (x28 ≥ (x30.n : Int))))) fun (b16 : Bool) =>
    mIf b16 (
      K_monitor_All_4 c2 out5 last6 t12 t13 (IntKind.i64.wrap (t14 + (1 : Int)))) (
      mLdI .i64 (x8.add 2) fun (x37 : Int) =>
      mNilM last6 fun (m20 : Nat) =>
      mMapGet .i64 m20 x37 (.int .i64 (0 : Int)) fun x38w (x38b : Bool) =>
      unI .i64 x38w fun (x38 : Int) =>
      mBind (mIf x38b (mLdI .i64 x8 fun (x44 : Int) =>
        mQ (N_monitor_clamp x44) fun r45 =>
        unI .i64 r45 fun (x45 : Int) =>
        mLdL (c2.add 8) fun (x49 : Sl) =>
        mLdI .i64 (x8.add 2) fun (x51 : Int) =>
        mIdx x49 x51 7 fun (x52 : Addr) =>
        mLdI .i64 (x52.add 2) fun (x54 : Int) =>
        mQ (N_monitor_clamp x54) fun r55 =>
        unI .i64 r55 fun (x55 : Int) =>
        mRet (decide ((IntKind.i64.wrap (x45 - x38)) < x55))) (mRet false)) fun (b32 : Bool) =>
      mIf b32 (
        mLdI .i64 x8 fun (x60 : Int) =>
        mLdI .i64 (x8.add 2) fun (x62 : Int) =>
        mNew #[.int .i64 x60, .int .i64 x62] 39 fun (x64 : Addr) =>
        mApp 39 2 16 #[.int .i64 (0 : Int), .int .i64 (0 : Int)] out5 ⟨(some x64), 1, 1⟩ fun (x65 : Sl) =>
        mLdI .i64 (x8.add 2) fun (x68 : Int) =>
        mLdI .i64 x8 fun (x70 : Int) =>
        mQ (N_monitor_clamp x70) fun r71 =>
        unI .i64 r71 fun (x71 : Int) =>
        mNilM last6 fun (m45 : Nat) =>
        mMapSet .i64 m45 x68 (.int .i64 x71) <|
        K_monitor_All_4 c2 x65 last6 t12 t13 (IntKind.i64.wrap (t14 + (1 : Int)))) (
        mLdI .i64 (x8.add 2) fun (x68_47 : Int) =>
        mLdI .i64 x8 fun (x70_49 : Int) =>
        mQ (N_monitor_clamp x70_49) fun r71_50 =>
        unI .i64 r71_50 fun (x71_50 : Int) =>
        mNilM last6 fun (m52 : Nat) =>
        mMapSet .i64 m52 x68_47 (.int .i64 x71_50) <|
        K_monitor_All_4 c2 out5 last6 t12 t13 (IntKind.i64.wrap (t14 + (1 : Int)))))) (
    mRet (.slice out5.p out5.n out5.c))
theorem E_monitor_All (c0_0 : Int) (c0_1 : Int) (c0_2 : Int) (c0_3 : Int) (c0_4 : Sl) (c0_5 : Int) (c0_6 : Sl) (c0_7 : Sl) (c0_8 : Sl) (c0_9 : Sl) (l1 : Sl) : ev Try.prog 17 Try.f17.results.toList C_monitor_All D_monitor_All 400 false [.code (bodyOf Try.f17)] (List.map some [.agg #[.int .i64 c0_0, .int .i64 c0_1, .int .i64 c0_2, .int .i64 c0_3, .slice c0_4.p c0_4.n c0_4.c, .int .i64 c0_5, .slice c0_6.p c0_6.n c0_6.c, .slice c0_7.p c0_7.n c0_7.c, .slice c0_8.p c0_8.n c0_8.c, .slice c0_9.p c0_9.n c0_9.c], .slice l1.p l1.n l1.c] ++ List.replicate (Try.f17.ntmps - List.length ([.agg #[.int .i64 c0_0, .int .i64 c0_1, .int .i64 c0_2, .int .i64 c0_3, .slice c0_4.p c0_4.n c0_4.c, .int .i64 c0_5, .slice c0_6.p c0_6.n c0_6.c, .slice c0_7.p c0_7.n c0_7.c, .slice c0_8.p c0_8.n c0_8.c, .slice c0_9.p c0_9.n c0_9.c], .slice l1.p l1.n l1.c] : List Value)) none) = B_monitor_All c0_0 c0_1 c0_2 c0_3 c0_4 c0_5 c0_6 c0_7 c0_8 c0_9 l1 := by kernel_rfl
theorem S_monitor_All (c0_0 : Int) (c0_1 : Int) (c0_2 : Int) (c0_3 : Int) (c0_4 : Sl) (c0_5 : Int) (c0_6 : Sl) (c0_7 : Sl) (c0_8 : Sl) (c0_9 : Sl) (l1 : Sl) {h : Hp} {Q : Value → Hp → Prop} (hb : B_monitor_All c0_0 c0_1 c0_2 c0_3 c0_4 c0_5 c0_6 c0_7 c0_8 c0_9 l1 h Q) : N_monitor_All c0_0 c0_1 c0_2 c0_3 c0_4 c0_5 c0_6 c0_7 c0_8 c0_9 l1 h Q :=
  Nf.of_ev Try.call17 Try.func17 (c := bodyOf Try.f17) rfl mixed C_monitor_All D_monitor_All 400 (args := [.agg #[.int .i64 c0_0, .int .i64 c0_1, .int .i64 c0_2, .int .i64 c0_3, .slice c0_4.p c0_4.n c0_4.c, .int .i64 c0_5, .slice c0_6.p c0_6.n c0_6.c, .slice c0_7.p c0_7.n c0_7.c, .slice c0_8.p c0_8.n c0_8.c, .slice c0_9.p c0_9.n c0_9.c], .slice l1.p l1.n l1.c]) (by rw [E_monitor_All]; exact hb)
theorem E_monitor_All_4 (c2 : Addr) (out5 : Sl) (last6 : Option Nat) (t12 : Sl) (t13 : Int) (t14 : Int) : ev Try.prog 17 Try.f17.results.toList C_monitor_All D_monitor_All 400 true (todoOf Try.f17 4) (T_monitor_All_4 c2 out5 last6 t12 t13 t14) = B_monitor_All_4 c2 out5 last6 t12 t13 t14 := by kernel_rfl
theorem S_monitor_All_4 (c2 : Addr) (out5 : Sl) (last6 : Option Nat) (t12 : Sl) (t13 : Int) (t14 : Int) {h : Hp} {Q : Value → Hp → Prop} (hb : B_monitor_All_4 c2 out5 last6 t12 t13 t14 h Q) : K_monitor_All_4 c2 out5 last6 t12 t13 t14 h Q :=
  Cut.of_ev Try.func17 mixed C_monitor_All D_monitor_All 400 (by rw [E_monitor_All_4]; exact hb)
def C_monitor_Gaps : List (Nat × List Nat) := [(4, [1, 5, 6, 7, 11, 12, 13])]
def D_monitor_Gaps : List (Nat × List Nat) := []
def T_monitor_Gaps_4 (task1 : Int) (out5 : Sl) (was6 : Int) (some7 : Bool) (t11 : Sl) (t12 : Int) (t13 : Int) : Env := mkEnv [(1, .int .i64 task1), (5, .slice out5.p out5.n out5.c), (6, .int .i64 was6), (7, .bool some7), (11, .slice t11.p t11.n t11.c), (12, .int .i64 t12), (13, .int .i64 t13)] 39 0
def K_monitor_Gaps_4 (task1 : Int) (out5 : Sl) (was6 : Int) (some7 : Bool) (t11 : Sl) (t12 : Int) (t13 : Int) : M Value := Cut Try.prog 18 (todoOf Try.f18 4) (T_monitor_Gaps_4 task1 out5 was6 some7 t11 t12 t13)
def B_monitor_Gaps (l0 : Sl) (task1 : Int) : M Value :=
  K_monitor_Gaps_4 task1 (Sl.mk none 0 0) (0 : Int) false l0 (l0.n : Int) (0 : Int)
def B_monitor_Gaps_4 (task1 : Int) (out5 : Sl) (was6 : Int) (some7 : Bool) (t11 : Sl) (t12 : Int) (t13 : Int) : M Value :=
  mIf (decide (t13 < t12)) (
    mIdx t11 t13 7 fun (x15 : Addr) =>
    mLdI .i64 x15 fun (x16_0 : Int) =>
    mLdI .i64 (x15.add 1) fun (x16_1 : Int) =>
    mLdI .i64 (x15.add 2) fun (x16_2 : Int) =>
    mLdI .i64 (x15.add 3) fun (x16_3 : Int) =>
    mLdI .i64 (x15.add 4) fun (x16_4 : Int) =>
    mLdI .i64 (x15.add 5) fun (x16_5 : Int) =>
    mLdI .i64 (x15.add 6) fun (x16_6 : Int) =>
    mNew #[.int .i64 (0 : Int), .int .i64 (0 : Int), .int .i64 (0 : Int), .int .i64 (0 : Int), .int .i64 (0 : Int), .int .i64 (0 : Int), .int .i64 (0 : Int)] 33 fun (x9 : Addr) =>
    mSt x9 (.int .i64 x16_0) <|
    mSt (x9.add 1) (.int .i64 x16_1) <|
    mSt (x9.add 2) (.int .i64 x16_2) <|
    mSt (x9.add 3) (.int .i64 x16_3) <|
    mSt (x9.add 4) (.int .i64 x16_4) <|
    mSt (x9.add 5) (.int .i64 x16_5) <|
    mSt (x9.add 6) (.int .i64 x16_6) <|
    mLdI .i64 x9 fun (x17_0 : Int) =>
    mLdI .i64 (x9.add 1) fun (x17_1 : Int) =>
    mLdI .i64 (x9.add 2) fun (x17_2 : Int) =>
    mLdI .i64 (x9.add 3) fun (x17_3 : Int) =>
    mLdI .i64 (x9.add 4) fun (x17_4 : Int) =>
    mLdI .i64 (x9.add 5) fun (x17_5 : Int) =>
    mLdI .i64 (x9.add 6) fun (x17_6 : Int) =>
    mBind (N_monitor_released x17_0 x17_1 x17_2 x17_3 x17_4 x17_5 x17_6) fun r18 =>
    unB r18 fun (x18 : Bool) =>
    mBind (mIf (!x18) (mRet true) (mLdI .i64 (x9.add 2) fun (x22 : Int) =>
      mRet (x22 != task1))) fun (b9 : Bool) =>
    mIf b9 (
      K_monitor_Gaps_4 task1 out5 was6 some7 t11 t12 (IntKind.i64.wrap (t13 + (1 : Int)))) (
      mLdI .i64 x9 fun (x27 : Int) =>
      mBind (N_monitor_clamp x27) fun r28 =>
      unI .i64 r28 fun (x28 : Int) =>
      mIf some7 (
        mNew #[.int .i64 (IntKind.i64.wrap (x28 - was6))] 3 fun (x34 : Addr) =>
        mApp 3 1 8 #[.int .i64 (0 : Int)] out5 ⟨(some x34), 1, 1⟩ fun (x35 : Sl) =>
        K_monitor_Gaps_4 task1 x35 x28 true t11 t12 (IntKind.i64.wrap (t13 + (1 : Int)))) (
        K_monitor_Gaps_4 task1 out5 x28 true t11 t12 (IntKind.i64.wrap (t13 + (1 : Int)))))) (
    mRet (.slice out5.p out5.n out5.c))
theorem E_monitor_Gaps (l0 : Sl) (task1 : Int) : ev Try.prog 18 Try.f18.results.toList C_monitor_Gaps D_monitor_Gaps 400 false [.code (bodyOf Try.f18)] (List.map some [.slice l0.p l0.n l0.c, .int .i64 task1] ++ List.replicate (Try.f18.ntmps - List.length ([.slice l0.p l0.n l0.c, .int .i64 task1] : List Value)) none) = B_monitor_Gaps l0 task1 := by kernel_rfl
theorem S_monitor_Gaps (l0 : Sl) (task1 : Int) {h : Hp} {Q : Value → Hp → Prop} (hb : B_monitor_Gaps l0 task1 h Q) : N_monitor_Gaps l0 task1 h Q :=
  Nf.of_ev Try.call18 Try.func18 (c := bodyOf Try.f18) rfl mixed C_monitor_Gaps D_monitor_Gaps 400 (args := [.slice l0.p l0.n l0.c, .int .i64 task1]) (by rw [E_monitor_Gaps]; exact hb)
theorem E_monitor_Gaps_4 (task1 : Int) (out5 : Sl) (was6 : Int) (some7 : Bool) (t11 : Sl) (t12 : Int) (t13 : Int) : ev Try.prog 18 Try.f18.results.toList C_monitor_Gaps D_monitor_Gaps 400 true (todoOf Try.f18 4) (T_monitor_Gaps_4 task1 out5 was6 some7 t11 t12 t13) = B_monitor_Gaps_4 task1 out5 was6 some7 t11 t12 t13 := by kernel_rfl
theorem S_monitor_Gaps_4 (task1 : Int) (out5 : Sl) (was6 : Int) (some7 : Bool) (t11 : Sl) (t12 : Int) (t13 : Int) {h : Hp} {Q : Value → Hp → Prop} (hb : B_monitor_Gaps_4 task1 out5 was6 some7 t11 t12 t13 h Q) : K_monitor_Gaps_4 task1 out5 was6 some7 t11 t12 t13 h Q :=
  Cut.of_ev Try.func18 mixed C_monitor_Gaps D_monitor_Gaps 400 (by rw [E_monitor_Gaps_4]; exact hb)
def C_monitor_First : List (Nat × List Nat) := []
def D_monitor_First : List (Nat × List Nat) := []
def B_monitor_First (c0_0 : Int) (c0_1 : Int) (c0_2 : Int) (c0_3 : Int) (c0_4 : Sl) (c0_5 : Int) (c0_6 : Sl) (c0_7 : Sl) (c0_8 : Sl) (c0_9 : Sl) (l1 : Sl) : M Value :=
  mNew #[.int .i64 c0_0, .int .i64 c0_1, .int .i64 c0_2, .int .i64 c0_3, .slice c0_4.p c0_4.n c0_4.c, .int .i64 c0_5, .slice c0_6.p c0_6.n c0_6.c, .slice c0_7.p c0_7.n c0_7.c, .slice c0_8.p c0_8.n c0_8.c, .slice c0_9.p c0_9.n c0_9.c] 27 fun (x2 : Addr) =>
  mNew #[.int .i64 (0 : Int), .int .i64 (0 : Int)] 39 fun (x4 : Addr) =>
  mLdI .i64 x2 fun (x7_0 : Int) =>
  mLdI .i64 (x2.add 1) fun (x7_1 : Int) =>
  mLdI .i64 (x2.add 2) fun (x7_2 : Int) =>
  mLdI .i64 (x2.add 3) fun (x7_3 : Int) =>
  mLdL (x2.add 4) fun (x7_4 : Sl) =>
  mLdI .i64 (x2.add 5) fun (x7_5 : Int) =>
  mLdL (x2.add 6) fun (x7_6 : Sl) =>
  mLdL (x2.add 7) fun (x7_7 : Sl) =>
  mLdL (x2.add 8) fun (x7_8 : Sl) =>
  mLdL (x2.add 9) fun (x7_9 : Sl) =>
  mBind (N_monitor_All x7_0 x7_1 x7_2 x7_3 x7_4 x7_5 x7_6 x7_7 x7_8 x7_9 l1) fun r9 =>
  unL r9 fun (x9 : Sl) =>
  mIf (decide ((x9.n : Int) > (0 : Int))) (
    mIdx x9 (0 : Int) 2 fun (x14 : Addr) =>
    mLdI .i64 x14 fun (x15_0 : Int) =>
    mLdI .i64 (x14.add 1) fun (x15_1 : Int) =>
    mSt x4 (.int .i64 x15_0) <|
    mSt (x4.add 1) (.int .i64 x15_1) <|
    mLdI .i64 x4 fun (q8_0 : Int) =>
    mLdI .i64 (x4.add 1) fun (q8_1 : Int) =>
    mRet (.tuple #[.agg #[.int .i64 q8_0, .int .i64 q8_1], .bool true])) (
    mSt x4 (.int .i64 (0 : Int)) <|
    mSt (x4.add 1) (.int .i64 (0 : Int)) <|
    mLdI .i64 x4 fun (q10_0 : Int) =>
    mLdI .i64 (x4.add 1) fun (q10_1 : Int) =>
    mRet (.tuple #[.agg #[.int .i64 q10_0, .int .i64 q10_1], .bool false]))
theorem E_monitor_First (c0_0 : Int) (c0_1 : Int) (c0_2 : Int) (c0_3 : Int) (c0_4 : Sl) (c0_5 : Int) (c0_6 : Sl) (c0_7 : Sl) (c0_8 : Sl) (c0_9 : Sl) (l1 : Sl) : ev Try.prog 19 Try.f19.results.toList C_monitor_First D_monitor_First 400 false [.code (bodyOf Try.f19)] (List.map some [.agg #[.int .i64 c0_0, .int .i64 c0_1, .int .i64 c0_2, .int .i64 c0_3, .slice c0_4.p c0_4.n c0_4.c, .int .i64 c0_5, .slice c0_6.p c0_6.n c0_6.c, .slice c0_7.p c0_7.n c0_7.c, .slice c0_8.p c0_8.n c0_8.c, .slice c0_9.p c0_9.n c0_9.c], .slice l1.p l1.n l1.c] ++ List.replicate (Try.f19.ntmps - List.length ([.agg #[.int .i64 c0_0, .int .i64 c0_1, .int .i64 c0_2, .int .i64 c0_3, .slice c0_4.p c0_4.n c0_4.c, .int .i64 c0_5, .slice c0_6.p c0_6.n c0_6.c, .slice c0_7.p c0_7.n c0_7.c, .slice c0_8.p c0_8.n c0_8.c, .slice c0_9.p c0_9.n c0_9.c], .slice l1.p l1.n l1.c] : List Value)) none) = B_monitor_First c0_0 c0_1 c0_2 c0_3 c0_4 c0_5 c0_6 c0_7 c0_8 c0_9 l1 := by kernel_rfl
theorem S_monitor_First (c0_0 : Int) (c0_1 : Int) (c0_2 : Int) (c0_3 : Int) (c0_4 : Sl) (c0_5 : Int) (c0_6 : Sl) (c0_7 : Sl) (c0_8 : Sl) (c0_9 : Sl) (l1 : Sl) {h : Hp} {Q : Value → Hp → Prop} (hb : B_monitor_First c0_0 c0_1 c0_2 c0_3 c0_4 c0_5 c0_6 c0_7 c0_8 c0_9 l1 h Q) : N_monitor_First c0_0 c0_1 c0_2 c0_3 c0_4 c0_5 c0_6 c0_7 c0_8 c0_9 l1 h Q :=
  Nf.of_ev Try.call19 Try.func19 (c := bodyOf Try.f19) rfl mixed C_monitor_First D_monitor_First 400 (args := [.agg #[.int .i64 c0_0, .int .i64 c0_1, .int .i64 c0_2, .int .i64 c0_3, .slice c0_4.p c0_4.n c0_4.c, .int .i64 c0_5, .slice c0_6.p c0_6.n c0_6.c, .slice c0_7.p c0_7.n c0_7.c, .slice c0_8.p c0_8.n c0_8.c, .slice c0_9.p c0_9.n c0_9.c], .slice l1.p l1.n l1.c]) (by rw [E_monitor_First]; exact hb)
def C_monitor_Late : List (Nat × List Nat) := [(3, [2, 3, 7, 11, 12, 13]), (9, [2, 3, 7, 8, 9, 10, 11, 12, 13])]
def D_monitor_Late : List (Nat × List Nat) := []
def T_monitor_Late_3 (now2 : Int) (c3 : Addr) (out7 : Sl) (t11 : Sl) (t12 : Int) (t13 : Int) : Env := mkEnv [(2, .int .i64 now2), (3, .pointer (some c3)), (7, .slice out7.p out7.n out7.c), (11, .slice t11.p t11.n t11.c), (12, .int .i64 t12), (13, .int .i64 t13)] 55 0
def K_monitor_Late_3 (now2 : Int) (c3 : Addr) (out7 : Sl) (t11 : Sl) (t12 : Int) (t13 : Int) : M Value := Cut Try.prog 20 (todoOf Try.f20 3) (T_monitor_Late_3 now2 c3 out7 t11 t12 t13)
def T_monitor_Late_9 (now2 : Int) (c3 : Addr) (out7 : Sl) (i8 : Int) (r9 : Addr) (end10 : Int) (t11 : Sl) (t12 : Int) (t13 : Int) : Env := mkEnv [(2, .int .i64 now2), (3, .pointer (some c3)), (7, .slice out7.p out7.n out7.c), (8, .int .i64 i8), (9, .pointer (some r9)), (10, .int .i64 end10), (11, .slice t11.p t11.n t11.c), (12, .int .i64 t12), (13, .int .i64 t13)] 55 0
def K_monitor_Late_9 (now2 : Int) (c3 : Addr) (out7 : Sl) (i8 : Int) (r9 : Addr) (end10 : Int) (t11 : Sl) (t12 : Int) (t13 : Int) : M Value := Cut Try.prog 20 (todoOf Try.f20 9) (T_monitor_Late_9 now2 c3 out7 i8 r9 end10 t11 t12 t13)
def B_monitor_Late (c0_0 : Int) (c0_1 : Int) (c0_2 : Int) (c0_3 : Int) (c0_4 : Sl) (c0_5 : Int) (c0_6 : Sl) (c0_7 : Sl) (c0_8 : Sl) (c0_9 : Sl) (l1 : Sl) (now2 : Int) : M Value :=
  mNew #[.int .i64 c0_0, .int .i64 c0_1, .int .i64 c0_2, .int .i64 c0_3, .slice c0_4.p c0_4.n c0_4.c, .int .i64 c0_5, .slice c0_6.p c0_6.n c0_6.c, .slice c0_7.p c0_7.n c0_7.c, .slice c0_8.p c0_8.n c0_8.c, .slice c0_9.p c0_9.n c0_9.c] 27 fun (x3 : Addr) =>
  K_monitor_Late_3 now2 x3 (Sl.mk none 0 0) l1 (l1.n : Int) (0 : Int)
def B_monitor_Late_3 (now2 : Int) (c3 : Addr) (out7 : Sl) (t11 : Sl) (t12 : Int) (t13 : Int) : M Value :=
  mIf (decide (t13 < t12)) (
    mIdx t11 t13 11 fun (x16 : Addr) =>
    mLdI .i64 x16 fun (x17_0 : Int) =>
    mLdI .i64 (x16.add 1) fun (x17_1 : Int) =>
    mLdI .i64 (x16.add 2) fun (x17_2 : Int) =>
    mLdI .i64 (x16.add 3) fun (x17_3 : Int) =>
    mLdI .i64 (x16.add 4) fun (x17_4 : Int) =>
    mLdB (x16.add 5) fun (x17_5 : Bool) =>
    mLdI .i64 (x16.add 6) fun (x17_6 : Int) =>
    mLdI .i64 (x16.add 7) fun (x17_7 : Int) =>
    mLdI .i64 (x16.add 8) fun (x17_8 : Int) =>
    mLdI .i64 (x16.add 9) fun (x17_9 : Int) =>
    mLdI .i64 (x16.add 10) fun (x17_10 : Int) =>
    mNew #[.int .i64 (0 : Int), .int .i64 (0 : Int), .int .i64 (0 : Int), .int .i64 (0 : Int), .int .i64 (0 : Int), .bool false, .int .i64 (0 : Int), .int .i64 (0 : Int), .int .i64 (0 : Int), .int .i64 (0 : Int), .int .i64 (0 : Int)] 48 fun (x9 : Addr) =>
    mSt x9 (.int .i64 x17_0) <|
    mSt (x9.add 1) (.int .i64 x17_1) <|
    mSt (x9.add 2) (.int .i64 x17_2) <|
    mSt (x9.add 3) (.int .i64 x17_3) <|
    mSt (x9.add 4) (.int .i64 x17_4) <|
    mSt (x9.add 5) (.bool x17_5) <|
    mSt (x9.add 6) (.int .i64 x17_6) <|
    mSt (x9.add 7) (.int .i64 x17_7) <|
    mSt (x9.add 8) (.int .i64 x17_8) <|
    mSt (x9.add 9) (.int .i64 x17_9) <|
    mSt (x9.add 10) (.int .i64 x17_10) <|
    mLdI .i64 x9 fun (x19 : Int) =>
    mBind (mIf (decide (x19 < (0 : Int))) (mRet true) (mLdI .i64 x9 fun (x23 : Int) =>
      mLdL (c3.add 8) fun (x25 : Sl) =>
      mRet (decide (x23 ≥ (x25.n : Int))))) fun (b12 : Bool) =>
    mIf b12 (
      K_monitor_Late_3 now2 c3 out7 t11 t12 (IntKind.i64.wrap (t13 + (1 : Int)))) (
      mLdI .i64 (x9.add 4) fun (x30 : Int) =>
      mIf (decide (x30 < (0 : Int))) (
        K_monitor_Late_9 now2 c3 out7 t13 x9 now2 t11 t12 t13) (
        K_monitor_Late_9 now2 c3 out7 t13 x9 x30 t11 t12 t13))) (
    mRet (.slice out7.p out7.n out7.c))
def B_monitor_Late_9 (now2 : Int) (c3 : Addr) (out7 : Sl) (i8 : Int) (r9 : Addr) (end10 : Int) (t11 : Sl) (t12 : Int) (t13 : Int) : M Value :=
  mQ (N_monitor_clamp end10) fun r35 =>
  unI .i64 r35 fun (x35 : Int) =>
  mLdI .i64 (r9.add 2) fun (x37 : Int) =>
  mQ (N_monitor_clamp x37) fun r38 =>
  unI .i64 r38 fun (x38 : Int) =>
  mLdL (c3.add 8) fun (x40 : Sl) =>
  mLdI .i64 r9 fun (x42 : Int) =>
  mIdx x40 x42 7 fun (x43 : Addr) =>
  mLdI .i64 (x43.add 3) fun (x45 : Int) =>
  mQ (N_monitor_clamp x45) fun r46 =>
  unI .i64 r46 fun (x46 : Int) =>
  mIf (decide (x35 > (IntKind.i64.wrap (x38 + x46)))) (
    mNew #[.int .i64 i8] 3 fun (x51 : Addr) =>
    mApp 3 1 8 #[.int .i64 (0 : Int)] out7 ⟨(some x51), 1, 1⟩ fun (x52 : Sl) =>
    K_monitor_Late_3 now2 c3 x52 t11 t12 (IntKind.i64.wrap (t13 + (1 : Int)))) (
    K_monitor_Late_3 now2 c3 out7 t11 t12 (IntKind.i64.wrap (t13 + (1 : Int))))
theorem E_monitor_Late (c0_0 : Int) (c0_1 : Int) (c0_2 : Int) (c0_3 : Int) (c0_4 : Sl) (c0_5 : Int) (c0_6 : Sl) (c0_7 : Sl) (c0_8 : Sl) (c0_9 : Sl) (l1 : Sl) (now2 : Int) : ev Try.prog 20 Try.f20.results.toList C_monitor_Late D_monitor_Late 400 false [.code (bodyOf Try.f20)] (List.map some [.agg #[.int .i64 c0_0, .int .i64 c0_1, .int .i64 c0_2, .int .i64 c0_3, .slice c0_4.p c0_4.n c0_4.c, .int .i64 c0_5, .slice c0_6.p c0_6.n c0_6.c, .slice c0_7.p c0_7.n c0_7.c, .slice c0_8.p c0_8.n c0_8.c, .slice c0_9.p c0_9.n c0_9.c], .slice l1.p l1.n l1.c, .int .i64 now2] ++ List.replicate (Try.f20.ntmps - List.length ([.agg #[.int .i64 c0_0, .int .i64 c0_1, .int .i64 c0_2, .int .i64 c0_3, .slice c0_4.p c0_4.n c0_4.c, .int .i64 c0_5, .slice c0_6.p c0_6.n c0_6.c, .slice c0_7.p c0_7.n c0_7.c, .slice c0_8.p c0_8.n c0_8.c, .slice c0_9.p c0_9.n c0_9.c], .slice l1.p l1.n l1.c, .int .i64 now2] : List Value)) none) = B_monitor_Late c0_0 c0_1 c0_2 c0_3 c0_4 c0_5 c0_6 c0_7 c0_8 c0_9 l1 now2 := by kernel_rfl
theorem S_monitor_Late (c0_0 : Int) (c0_1 : Int) (c0_2 : Int) (c0_3 : Int) (c0_4 : Sl) (c0_5 : Int) (c0_6 : Sl) (c0_7 : Sl) (c0_8 : Sl) (c0_9 : Sl) (l1 : Sl) (now2 : Int) {h : Hp} {Q : Value → Hp → Prop} (hb : B_monitor_Late c0_0 c0_1 c0_2 c0_3 c0_4 c0_5 c0_6 c0_7 c0_8 c0_9 l1 now2 h Q) : N_monitor_Late c0_0 c0_1 c0_2 c0_3 c0_4 c0_5 c0_6 c0_7 c0_8 c0_9 l1 now2 h Q :=
  Nf.of_ev Try.call20 Try.func20 (c := bodyOf Try.f20) rfl mixed C_monitor_Late D_monitor_Late 400 (args := [.agg #[.int .i64 c0_0, .int .i64 c0_1, .int .i64 c0_2, .int .i64 c0_3, .slice c0_4.p c0_4.n c0_4.c, .int .i64 c0_5, .slice c0_6.p c0_6.n c0_6.c, .slice c0_7.p c0_7.n c0_7.c, .slice c0_8.p c0_8.n c0_8.c, .slice c0_9.p c0_9.n c0_9.c], .slice l1.p l1.n l1.c, .int .i64 now2]) (by rw [E_monitor_Late]; exact hb)
theorem E_monitor_Late_3 (now2 : Int) (c3 : Addr) (out7 : Sl) (t11 : Sl) (t12 : Int) (t13 : Int) : ev Try.prog 20 Try.f20.results.toList C_monitor_Late D_monitor_Late 400 true (todoOf Try.f20 3) (T_monitor_Late_3 now2 c3 out7 t11 t12 t13) = B_monitor_Late_3 now2 c3 out7 t11 t12 t13 := by kernel_rfl
theorem S_monitor_Late_3 (now2 : Int) (c3 : Addr) (out7 : Sl) (t11 : Sl) (t12 : Int) (t13 : Int) {h : Hp} {Q : Value → Hp → Prop} (hb : B_monitor_Late_3 now2 c3 out7 t11 t12 t13 h Q) : K_monitor_Late_3 now2 c3 out7 t11 t12 t13 h Q :=
  Cut.of_ev Try.func20 mixed C_monitor_Late D_monitor_Late 400 (by rw [E_monitor_Late_3]; exact hb)
theorem E_monitor_Late_9 (now2 : Int) (c3 : Addr) (out7 : Sl) (i8 : Int) (r9 : Addr) (end10 : Int) (t11 : Sl) (t12 : Int) (t13 : Int) : ev Try.prog 20 Try.f20.results.toList C_monitor_Late D_monitor_Late 400 true (todoOf Try.f20 9) (T_monitor_Late_9 now2 c3 out7 i8 r9 end10 t11 t12 t13) = B_monitor_Late_9 now2 c3 out7 i8 r9 end10 t11 t12 t13 := by kernel_rfl
theorem S_monitor_Late_9 (now2 : Int) (c3 : Addr) (out7 : Sl) (i8 : Int) (r9 : Addr) (end10 : Int) (t11 : Sl) (t12 : Int) (t13 : Int) {h : Hp} {Q : Value → Hp → Prop} (hb : B_monitor_Late_9 now2 c3 out7 i8 r9 end10 t11 t12 t13 h Q) : K_monitor_Late_9 now2 c3 out7 i8 r9 end10 t11 t12 t13 h Q :=
  Cut.of_ev Try.func20 mixed C_monitor_Late D_monitor_Late 400 (by rw [E_monitor_Late_9]; exact hb)
def C_monitor_released : List (Nat × List Nat) := []
def D_monitor_released : List (Nat × List Nat) := []
def B_monitor_released (r0_0 : Int) (r0_1 : Int) (r0_2 : Int) (r0_3 : Int) (r0_4 : Int) (r0_5 : Int) (r0_6 : Int) : M Value :=
  mNew #[.int .i64 r0_0, .int .i64 r0_1, .int .i64 r0_2, .int .i64 r0_3, .int .i64 r0_4, .int .i64 r0_5, .int .i64 r0_6] 33 fun (x1 : Addr) =>
  mLdI .i64 (x1.add 1) fun (x4 : Int) =>
  mBind (mIf (x4 == (1 : Int)) (mRet true) (mLdI .i64 (x1.add 1) fun (x8 : Int) =>
    mRet (x8 == (2 : Int)))) fun (b6 : Bool) =>
  mRet (.bool b6)
theorem E_monitor_released (r0_0 : Int) (r0_1 : Int) (r0_2 : Int) (r0_3 : Int) (r0_4 : Int) (r0_5 : Int) (r0_6 : Int) : ev Try.prog 55 Try.f55.results.toList C_monitor_released D_monitor_released 400 false [.code (bodyOf Try.f55)] (List.map some [.agg #[.int .i64 r0_0, .int .i64 r0_1, .int .i64 r0_2, .int .i64 r0_3, .int .i64 r0_4, .int .i64 r0_5, .int .i64 r0_6]] ++ List.replicate (Try.f55.ntmps - List.length ([.agg #[.int .i64 r0_0, .int .i64 r0_1, .int .i64 r0_2, .int .i64 r0_3, .int .i64 r0_4, .int .i64 r0_5, .int .i64 r0_6]] : List Value)) none) = B_monitor_released r0_0 r0_1 r0_2 r0_3 r0_4 r0_5 r0_6 := by kernel_rfl
theorem S_monitor_released (r0_0 : Int) (r0_1 : Int) (r0_2 : Int) (r0_3 : Int) (r0_4 : Int) (r0_5 : Int) (r0_6 : Int) {h : Hp} {Q : Value → Hp → Prop} (hb : B_monitor_released r0_0 r0_1 r0_2 r0_3 r0_4 r0_5 r0_6 h Q) : N_monitor_released r0_0 r0_1 r0_2 r0_3 r0_4 r0_5 r0_6 h Q :=
  Nf.of_ev Try.call55 Try.func55 (c := bodyOf Try.f55) rfl mixed C_monitor_released D_monitor_released 400 (args := [.agg #[.int .i64 r0_0, .int .i64 r0_1, .int .i64 r0_2, .int .i64 r0_3, .int .i64 r0_4, .int .i64 r0_5, .int .i64 r0_6]]) (by rw [E_monitor_released]; exact hb)
def C_monitor_clamp : List (Nat × List Nat) := []
def D_monitor_clamp : List (Nat × List Nat) := []
def B_monitor_clamp (n0 : Int) : M Value :=
  mRet (.int .i64 (if (1099511627776 : Int) < (if (-1099511627776 : Int) > n0 then (-1099511627776 : Int) else n0) then (1099511627776 : Int) else (if (-1099511627776 : Int) > n0 then (-1099511627776 : Int) else n0)))
theorem E_monitor_clamp (n0 : Int) : ev Try.prog 56 Try.f56.results.toList C_monitor_clamp D_monitor_clamp 400 false [.code (bodyOf Try.f56)] (List.map some [.int .i64 n0] ++ List.replicate (Try.f56.ntmps - List.length ([.int .i64 n0] : List Value)) none) = B_monitor_clamp n0 := by kernel_rfl
theorem S_monitor_clamp (n0 : Int) {h : Hp} {Q : Value → Hp → Prop} (hb : B_monitor_clamp n0 h Q) : N_monitor_clamp n0 h Q :=
  Nf.of_ev Try.call56 Try.func56 (c := bodyOf Try.f56) rfl mixed C_monitor_clamp D_monitor_clamp 400 (args := [.int .i64 n0]) (by rw [E_monitor_clamp]; exact hb)
def C_signalboxlaw19_MonitorFlags : List (Nat × List Nat) := [(8, [1, 2, 3, 7, 8, 30, 31, 32]), (12, [1, 2, 3, 7, 8, 10, 11, 30, 31, 32]), (18, [1, 2, 3, 7, 8, 10, 12, 30, 31, 32]), (25, [1, 3, 7, 8, 13, 14, 144, 145]), (31, [1, 3, 7, 8, 14, 159, 160])]
def D_signalboxlaw19_MonitorFlags : List (Nat × List Nat) := []
def T_signalboxlaw19_MonitorFlags_8 (l1 : Sl) (task2 : Int) (c3 : Addr) (want7 : Sl) (gaps8 : Sl) (t30 : Sl) (t31 : Int) (t32 : Int) : Env := mkEnv [(1, .slice l1.p l1.n l1.c), (2, .int .i64 task2), (3, .pointer (some c3)), (7, .slice want7.p want7.n want7.c), (8, .slice gaps8.p gaps8.n gaps8.c), (30, .slice t30.p t30.n t30.c), (31, .int .i64 t31), (32, .int .i64 t32)] 203 0
def K_signalboxlaw19_MonitorFlags_8 (l1 : Sl) (task2 : Int) (c3 : Addr) (want7 : Sl) (gaps8 : Sl) (t30 : Sl) (t31 : Int) (t32 : Int) : M Value := Cut Try.prog 3 (todoOf Try.f3 8) (T_signalboxlaw19_MonitorFlags_8 l1 task2 c3 want7 gaps8 t30 t31 t32)
def T_signalboxlaw19_MonitorFlags_12 (l1 : Sl) (task2 : Int) (c3 : Addr) (want7 : Sl) (gaps8 : Sl) (r10 : Addr) (k11 : Int) (t30 : Sl) (t31 : Int) (t32 : Int) : Env := mkEnv [(1, .slice l1.p l1.n l1.c), (2, .int .i64 task2), (3, .pointer (some c3)), (7, .slice want7.p want7.n want7.c), (8, .slice gaps8.p gaps8.n gaps8.c), (10, .pointer (some r10)), (11, .int .i64 k11), (30, .slice t30.p t30.n t30.c), (31, .int .i64 t31), (32, .int .i64 t32)] 203 0
def K_signalboxlaw19_MonitorFlags_12 (l1 : Sl) (task2 : Int) (c3 : Addr) (want7 : Sl) (gaps8 : Sl) (r10 : Addr) (k11 : Int) (t30 : Sl) (t31 : Int) (t32 : Int) : M Value := Cut Try.prog 3 (todoOf Try.f3 12) (T_signalboxlaw19_MonitorFlags_12 l1 task2 c3 want7 gaps8 r10 k11 t30 t31 t32)
def T_signalboxlaw19_MonitorFlags_18 (l1 : Sl) (task2 : Int) (c3 : Addr) (want7 : Sl) (gaps8 : Sl) (r10 : Addr) (gap12 : Int) (t30 : Sl) (t31 : Int) (t32 : Int) : Env := mkEnv [(1, .slice l1.p l1.n l1.c), (2, .int .i64 task2), (3, .pointer (some c3)), (7, .slice want7.p want7.n want7.c), (8, .slice gaps8.p gaps8.n gaps8.c), (10, .pointer (some r10)), (12, .int .i64 gap12), (30, .slice t30.p t30.n t30.c), (31, .int .i64 t31), (32, .int .i64 t32)] 203 0
def K_signalboxlaw19_MonitorFlags_18 (l1 : Sl) (task2 : Int) (c3 : Addr) (want7 : Sl) (gaps8 : Sl) (r10 : Addr) (gap12 : Int) (t30 : Sl) (t31 : Int) (t32 : Int) : M Value := Cut Try.prog 3 (todoOf Try.f3 18) (T_signalboxlaw19_MonitorFlags_18 l1 task2 c3 want7 gaps8 r10 gap12 t30 t31 t32)
def T_signalboxlaw19_MonitorFlags_25 (l1 : Sl) (c3 : Addr) (want7 : Sl) (gaps8 : Sl) (got13 : Sl) (g14 : Sl) (t144 : Int) (t145 : Int) : Env := mkEnv [(1, .slice l1.p l1.n l1.c), (3, .pointer (some c3)), (7, .slice want7.p want7.n want7.c), (8, .slice gaps8.p gaps8.n gaps8.c), (13, .slice got13.p got13.n got13.c), (14, .slice g14.p g14.n g14.c), (144, .int .i64 t144), (145, .int .i64 t145)] 203 0
def K_signalboxlaw19_MonitorFlags_25 (l1 : Sl) (c3 : Addr) (want7 : Sl) (gaps8 : Sl) (got13 : Sl) (g14 : Sl) (t144 : Int) (t145 : Int) : M Value := Cut Try.prog 3 (todoOf Try.f3 25) (T_signalboxlaw19_MonitorFlags_25 l1 c3 want7 gaps8 got13 g14 t144 t145)
def T_signalboxlaw19_MonitorFlags_31 (l1 : Sl) (c3 : Addr) (want7 : Sl) (gaps8 : Sl) (g14 : Sl) (t159 : Int) (t160 : Int) : Env := mkEnv [(1, .slice l1.p l1.n l1.c), (3, .pointer (some c3)), (7, .slice want7.p want7.n want7.c), (8, .slice gaps8.p gaps8.n gaps8.c), (14, .slice g14.p g14.n g14.c), (159, .int .i64 t159), (160, .int .i64 t160)] 203 0
def K_signalboxlaw19_MonitorFlags_31 (l1 : Sl) (c3 : Addr) (want7 : Sl) (gaps8 : Sl) (g14 : Sl) (t159 : Int) (t160 : Int) : M Value := Cut Try.prog 3 (todoOf Try.f3 31) (T_signalboxlaw19_MonitorFlags_31 l1 c3 want7 gaps8 g14 t159 t160)
def B_signalboxlaw19_MonitorFlags (c0_0 : Int) (c0_1 : Int) (c0_2 : Int) (c0_3 : Int) (c0_4 : Sl) (c0_5 : Int) (c0_6 : Sl) (c0_7 : Sl) (c0_8 : Sl) (c0_9 : Sl) (l1 : Sl) (task2 : Int) : M Value :=
  mNew #[.int .i64 c0_0, .int .i64 c0_1, .int .i64 c0_2, .int .i64 c0_3, .slice c0_4.p c0_4.n c0_4.c, .int .i64 c0_5, .slice c0_6.p c0_6.n c0_6.c, .slice c0_7.p c0_7.n c0_7.c, .slice c0_8.p c0_8.n c0_8.c, .slice c0_9.p c0_9.n c0_9.c] 27 fun (x3 : Addr) =>
  mBind (N_signalboxlaw19_fixed) fun r19 =>
  unB r19 fun (x19 : Bool) =>
  mIf (!x19) (
    mRet (.bool false)) (
    mLdL (x3.add 8) fun (x22 : Sl) =>
    mIf ((decide ((x22.n : Int) > (20 : Int))) || (decide ((l1.n : Int) > (150 : Int)))) (
      mRet (.bool true)) (
      K_signalboxlaw19_MonitorFlags_8 l1 task2 x3 (Sl.mk none 0 0) (Sl.mk none 0 0) l1 (l1.n : Int) (0 : Int)))
def B_signalboxlaw19_MonitorFlags_8 (l1 : Sl) (task2 : Int) (c3 : Addr) (want7 : Sl) (gaps8 : Sl) (t30 : Sl) (t31 : Int) (t32 : Int) : M Value :=
  mIf (decide (t32 < t31)) (
    mIdx t30 t32 7 fun (x35 : Addr) =>
    mLdI .i64 x35 fun (x36_0 : Int) =>
    mLdI .i64 (x35.add 1) fun (x36_1 : Int) =>
    mLdI .i64 (x35.add 2) fun (x36_2 : Int) =>
    mLdI .i64 (x35.add 3) fun (x36_3 : Int) =>
    mLdI .i64 (x35.add 4) fun (x36_4 : Int) =>
    mLdI .i64 (x35.add 5) fun (x36_5 : Int) =>
    mLdI .i64 (x35.add 6) fun (x36_6 : Int) =>
    mNew #[.int .i64 (0 : Int), .int .i64 (0 : Int), .int .i64 (0 : Int), .int .i64 (0 : Int), .int .i64 (0 : Int), .int .i64 (0 : Int), .int .i64 (0 : Int)] 33 fun (x10 : Addr) =>
    mSt x10 (.int .i64 x36_0) <|
    mSt (x10.add 1) (.int .i64 x36_1) <|
    mSt (x10.add 2) (.int .i64 x36_2) <|
    mSt (x10.add 3) (.int .i64 x36_3) <|
    mSt (x10.add 4) (.int .i64 x36_4) <|
    mSt (x10.add 5) (.int .i64 x36_5) <|
    mSt (x10.add 6) (.int .i64 x36_6) <|
    mLdI .i64 (x10.add 1) fun (x38 : Int) =>
    mBind (mIf (x38 != (1 : Int)) (mLdI .i64 (x10.add 1) fun (x42 : Int) =>
      mRet (x42 != (2 : Int))) (mRet false)) fun (b13 : Bool) =>
    mIf b13 (
      K_signalboxlaw19_MonitorFlags_8 l1 task2 c3 want7 gaps8 t30 t31 (IntKind.i64.wrap (t32 + (1 : Int)))) (
      K_signalboxlaw19_MonitorFlags_12 l1 task2 c3 want7 gaps8 x10 (IntKind.i64.wrap (t32 - (1 : Int))) t30 t31 t32)) (
    mLdI .i64 c3 fun (x125_0 : Int) =>
    mLdI .i64 (c3.add 1) fun (x125_1 : Int) =>
    mLdI .i64 (c3.add 2) fun (x125_2 : Int) =>
    mLdI .i64 (c3.add 3) fun (x125_3 : Int) =>
    mLdL (c3.add 4) fun (x125_4 : Sl) =>
    mLdI .i64 (c3.add 5) fun (x125_5 : Int) =>
    mLdL (c3.add 6) fun (x125_6 : Sl) =>
    mLdL (c3.add 7) fun (x125_7 : Sl) =>
    mLdL (c3.add 8) fun (x125_8 : Sl) =>
    mLdL (c3.add 9) fun (x125_9 : Sl) =>
    mBind (N_monitor_All x125_0 x125_1 x125_2 x125_3 x125_4 x125_5 x125_6 x125_7 x125_8 x125_9 l1) fun r127 =>
    unL r127 fun (x127 : Sl) =>
    mBind (N_monitor_Gaps l1 task2) fun r130 =>
    unL r130 fun (x130 : Sl) =>
    mIf (((x127.n : Int) != (want7.n : Int)) || ((x130.n : Int) != (gaps8.n : Int))) (
      mRet (.bool false)) (
      K_signalboxlaw19_MonitorFlags_25 l1 c3 want7 gaps8 x127 x130 (x127.n : Int) (0 : Int)))
def B_signalboxlaw19_MonitorFlags_12 (l1 : Sl) (task2 : Int) (c3 : Addr) (want7 : Sl) (gaps8 : Sl) (r10 : Addr) (k11 : Int) (t30 : Sl) (t31 : Int) (t32 : Int) : M Value :=
  mIf (decide (k11 ≥ (0 : Int))) (
    mIdx l1 k11 7 fun (x53 : Addr) =>
    mLdI .i64 (x53.add 1) fun (x55 : Int) =>
    mBind (mIf (x55 != (1 : Int)) (mIdx l1 k11 7 fun (x60 : Addr) =>
      mLdI .i64 (x60.add 1) fun (x62 : Int) =>
      mRet (x62 != (2 : Int))) (mRet false)) fun (b23 : Bool) =>
    mBind (mIf b23 (mRet true) (mIdx l1 k11 7 fun (x68 : Addr) =>
      mLdI .i64 (x68.add 2) fun (x70 : Int) =>
      mLdI .i64 (r10.add 2) fun (x72 : Int) =>
      mRet (x70 != x72))) fun (b29 : Bool) =>
    mIf b29 (
      K_signalboxlaw19_MonitorFlags_12 l1 task2 c3 want7 gaps8 r10 (IntKind.i64.wrap (k11 - (1 : Int))) t30 t31 t32) (
      mLdI .i64 r10 fun (x76 : Int) =>
      mQ (N_signalboxlaw19_clamp x76) fun r77 =>
      unI .i64 r77 fun (x77 : Int) =>
      mIdx l1 k11 7 fun (x80 : Addr) =>
      mLdI .i64 x80 fun (x82 : Int) =>
      mQ (N_signalboxlaw19_clamp x82) fun r83 =>
      unI .i64 r83 fun (x83 : Int) =>
      mLdI .i64 (r10.add 2) fun (x86 : Int) =>
      mIf (x86 == task2) (
        mNew #[.int .i64 (IntKind.i64.wrap (x77 - x83))] 3 fun (x91 : Addr) =>
        mApp 3 1 8 #[.int .i64 (0 : Int)] gaps8 ⟨(some x91), 1, 1⟩ fun (x92 : Sl) =>
        K_signalboxlaw19_MonitorFlags_18 l1 task2 c3 want7 x92 r10 (IntKind.i64.wrap (x77 - x83)) t30 t31 t32) (
        K_signalboxlaw19_MonitorFlags_18 l1 task2 c3 want7 gaps8 r10 (IntKind.i64.wrap (x77 - x83)) t30 t31 t32))) (
    K_signalboxlaw19_MonitorFlags_8 l1 task2 c3 want7 gaps8 t30 t31 (IntKind.i64.wrap (t32 + (1 : Int))))
def B_signalboxlaw19_MonitorFlags_18 (l1 : Sl) (task2 : Int) (c3 : Addr) (want7 : Sl) (gaps8 : Sl) (r10 : Addr) (gap12 : Int) (t30 : Sl) (t31 : Int) (t32 : Int) : M Value :=
  mLdI .i64 (r10.add 2) fun (x94 : Int) =>
  mBind (mIf (decide (x94 ≥ (0 : Int))) (mLdI .i64 (r10.add 2) fun (x98 : Int) =>
    mLdL (c3.add 8) fun (x100 : Sl) =>
    mRet (decide (x98 < (x100.n : Int)))) (mRet false)) fun (b51 : Bool) =>
  mBind (mIf b51 (mLdL (c3.add 8) fun (x107 : Sl) =>
    mLdI .i64 (r10.add 2) fun (x109 : Int) =>
    mIdx x107 x109 7 fun (x110 : Addr) =>
    mLdI .i64 (x110.add 2) fun (x112 : Int) =>
    mBind (N_signalboxlaw19_clamp x112) fun r113 =>
    unI .i64 r113 fun (x113 : Int) =>
    mRet (decide (gap12 < x113))) (mRet false)) fun (b60 : Bool) =>
  mIf b60 (
    mLdI .i64 r10 fun (x118 : Int) =>
    mLdI .i64 (r10.add 2) fun (x120 : Int) =>
    mNew #[.int .i64 x118, .int .i64 x120] 39 fun (x122 : Addr) =>
    mApp 39 2 16 #[.int .i64 (0 : Int), .int .i64 (0 : Int)] want7 ⟨(some x122), 1, 1⟩ fun (x123 : Sl) =>
    K_signalboxlaw19_MonitorFlags_8 l1 task2 c3 x123 gaps8 t30 t31 (IntKind.i64.wrap (t32 + (1 : Int)))) (
    K_signalboxlaw19_MonitorFlags_8 l1 task2 c3 want7 gaps8 t30 t31 (IntKind.i64.wrap (t32 + (1 : Int))))
def B_signalboxlaw19_MonitorFlags_25 (l1 : Sl) (c3 : Addr) (want7 : Sl) (gaps8 : Sl) (got13 : Sl) (g14 : Sl) (t144 : Int) (t145 : Int) : M Value :=
  mIf (decide (t145 < t144)) (
    mIdx got13 t145 2 fun (x150 : Addr) =>
    mLdI .i64 x150 fun (x151_0 : Int) =>
    mLdI .i64 (x150.add 1) fun (x151_1 : Int) =>
    mIdx want7 t145 2 fun (x154 : Addr) =>
    mLdI .i64 x154 fun (x155_0 : Int) =>
    mLdI .i64 (x154.add 1) fun (x155_1 : Int) =>
    mIf (!((x151_0 == x155_0) && ((x151_1 == x155_1) && true))) (
      mRet (.bool false)) (
      K_signalboxlaw19_MonitorFlags_25 l1 c3 want7 gaps8 got13 g14 t144 (IntKind.i64.wrap (t145 + (1 : Int))))) (
    K_signalboxlaw19_MonitorFlags_31 l1 c3 want7 gaps8 g14 (g14.n : Int) (0 : Int))
def B_signalboxlaw19_MonitorFlags_31 (l1 : Sl) (c3 : Addr) (want7 : Sl) (gaps8 : Sl) (g14 : Sl) (t159 : Int) (t160 : Int) : M Value :=
  mIf (decide (t160 < t159)) (
    mIdx g14 t160 1 fun (x165 : Addr) =>
    mLdI .i64 x165 fun (x166 : Int) =>
    mIdx gaps8 t160 1 fun (x169 : Addr) =>
    mLdI .i64 x169 fun (x170 : Int) =>
    mIf (x166 != x170) (
      mRet (.bool false)) (
      K_signalboxlaw19_MonitorFlags_31 l1 c3 want7 gaps8 g14 t159 (IntKind.i64.wrap (t160 + (1 : Int))))) (
    mLdI .i64 c3 fun (x174_0 : Int) =>
    mLdI .i64 (c3.add 1) fun (x174_1 : Int) =>
    mLdI .i64 (c3.add 2) fun (x174_2 : Int) =>
    mLdI .i64 (c3.add 3) fun (x174_3 : Int) =>
    mLdL (c3.add 4) fun (x174_4 : Sl) =>
    mLdI .i64 (c3.add 5) fun (x174_5 : Int) =>
    mLdL (c3.add 6) fun (x174_6 : Sl) =>
    mLdL (c3.add 7) fun (x174_7 : Sl) =>
    mLdL (c3.add 8) fun (x174_8 : Sl) =>
    mLdL (c3.add 9) fun (x174_9 : Sl) =>
    mBind (N_monitor_First x174_0 x174_1 x174_2 x174_3 x174_4 x174_5 x174_6 x174_7 x174_8 x174_9 l1) fun r176 =>
    unT r176 fun x176l =>
    unC x176l fun x176v0 x176l0 =>
    unA x176v0 fun x176_0l =>
    unC x176_0l fun x176_0v0 x176_0l0 =>
    unI .i64 x176_0v0 fun (x176_0_0 : Int) =>
    unC x176_0l0 fun x176_0v1 x176_0l1 =>
    unI .i64 x176_0v1 fun (x176_0_1 : Int) =>
    unE x176_0l1 <|
    unC x176l0 fun x176v1 x176l1 =>
    unB x176v1 fun (x176_1 : Bool) =>
    unE x176l1 <|
    mNew #[.int .i64 (0 : Int), .int .i64 (0 : Int)] 39 fun (x17 : Addr) =>
    mSt x17 (.int .i64 x176_0_0) <|
    mSt (x17.add 1) (.int .i64 x176_0_1) <|
    mBind (mIf (x176_1 == (decide ((want7.n : Int) > (0 : Int)))) (mBind (mIf (!x176_1) (mLdI .i64 x17 fun (x188_0 : Int) =>
      mLdI .i64 (x17.add 1) fun (x188_1 : Int) =>
      mRet ((x188_0 == (0 : Int)) && ((x188_1 == (0 : Int)) && true))) (mRet false)) fun (b76 : Bool) =>
      mBind (mIf b76 (mRet true) (mBind (mIf x176_1 (mLdI .i64 x17 fun (x195_0 : Int) =>
      mLdI .i64 (x17.add 1) fun (x195_1 : Int) =>
      mIdx want7 (0 : Int) 2 fun (x197 : Addr) =>
      mLdI .i64 x197 fun (x198_0 : Int) =>
      mLdI .i64 (x197.add 1) fun (x198_1 : Int) =>
      mRet ((x195_0 == x198_0) && ((x195_1 == x198_1) && true))) (mRet false)) fun (b80 : Bool) =>
      mRet b80)) fun (b81 : Bool) =>
      mRet b81) (mRet false)) fun (b82 : Bool) =>
    mRet (.bool b82))
theorem E_signalboxlaw19_MonitorFlags (c0_0 : Int) (c0_1 : Int) (c0_2 : Int) (c0_3 : Int) (c0_4 : Sl) (c0_5 : Int) (c0_6 : Sl) (c0_7 : Sl) (c0_8 : Sl) (c0_9 : Sl) (l1 : Sl) (task2 : Int) : ev Try.prog 3 Try.f3.results.toList C_signalboxlaw19_MonitorFlags D_signalboxlaw19_MonitorFlags 400 false [.code (bodyOf Try.f3)] (List.map some [.agg #[.int .i64 c0_0, .int .i64 c0_1, .int .i64 c0_2, .int .i64 c0_3, .slice c0_4.p c0_4.n c0_4.c, .int .i64 c0_5, .slice c0_6.p c0_6.n c0_6.c, .slice c0_7.p c0_7.n c0_7.c, .slice c0_8.p c0_8.n c0_8.c, .slice c0_9.p c0_9.n c0_9.c], .slice l1.p l1.n l1.c, .int .i64 task2] ++ List.replicate (Try.f3.ntmps - List.length ([.agg #[.int .i64 c0_0, .int .i64 c0_1, .int .i64 c0_2, .int .i64 c0_3, .slice c0_4.p c0_4.n c0_4.c, .int .i64 c0_5, .slice c0_6.p c0_6.n c0_6.c, .slice c0_7.p c0_7.n c0_7.c, .slice c0_8.p c0_8.n c0_8.c, .slice c0_9.p c0_9.n c0_9.c], .slice l1.p l1.n l1.c, .int .i64 task2] : List Value)) none) = B_signalboxlaw19_MonitorFlags c0_0 c0_1 c0_2 c0_3 c0_4 c0_5 c0_6 c0_7 c0_8 c0_9 l1 task2 := by kernel_rfl
theorem S_signalboxlaw19_MonitorFlags (c0_0 : Int) (c0_1 : Int) (c0_2 : Int) (c0_3 : Int) (c0_4 : Sl) (c0_5 : Int) (c0_6 : Sl) (c0_7 : Sl) (c0_8 : Sl) (c0_9 : Sl) (l1 : Sl) (task2 : Int) {h : Hp} {Q : Value → Hp → Prop} (hb : B_signalboxlaw19_MonitorFlags c0_0 c0_1 c0_2 c0_3 c0_4 c0_5 c0_6 c0_7 c0_8 c0_9 l1 task2 h Q) : N_signalboxlaw19_MonitorFlags c0_0 c0_1 c0_2 c0_3 c0_4 c0_5 c0_6 c0_7 c0_8 c0_9 l1 task2 h Q :=
  Nf.of_ev Try.call3 Try.func3 (c := bodyOf Try.f3) rfl mixed C_signalboxlaw19_MonitorFlags D_signalboxlaw19_MonitorFlags 400 (args := [.agg #[.int .i64 c0_0, .int .i64 c0_1, .int .i64 c0_2, .int .i64 c0_3, .slice c0_4.p c0_4.n c0_4.c, .int .i64 c0_5, .slice c0_6.p c0_6.n c0_6.c, .slice c0_7.p c0_7.n c0_7.c, .slice c0_8.p c0_8.n c0_8.c, .slice c0_9.p c0_9.n c0_9.c], .slice l1.p l1.n l1.c, .int .i64 task2]) (by rw [E_signalboxlaw19_MonitorFlags]; exact hb)
theorem E_signalboxlaw19_MonitorFlags_8 (l1 : Sl) (task2 : Int) (c3 : Addr) (want7 : Sl) (gaps8 : Sl) (t30 : Sl) (t31 : Int) (t32 : Int) : ev Try.prog 3 Try.f3.results.toList C_signalboxlaw19_MonitorFlags D_signalboxlaw19_MonitorFlags 400 true (todoOf Try.f3 8) (T_signalboxlaw19_MonitorFlags_8 l1 task2 c3 want7 gaps8 t30 t31 t32) = B_signalboxlaw19_MonitorFlags_8 l1 task2 c3 want7 gaps8 t30 t31 t32 := by kernel_rfl
theorem S_signalboxlaw19_MonitorFlags_8 (l1 : Sl) (task2 : Int) (c3 : Addr) (want7 : Sl) (gaps8 : Sl) (t30 : Sl) (t31 : Int) (t32 : Int) {h : Hp} {Q : Value → Hp → Prop} (hb : B_signalboxlaw19_MonitorFlags_8 l1 task2 c3 want7 gaps8 t30 t31 t32 h Q) : K_signalboxlaw19_MonitorFlags_8 l1 task2 c3 want7 gaps8 t30 t31 t32 h Q :=
  Cut.of_ev Try.func3 mixed C_signalboxlaw19_MonitorFlags D_signalboxlaw19_MonitorFlags 400 (by rw [E_signalboxlaw19_MonitorFlags_8]; exact hb)
theorem E_signalboxlaw19_MonitorFlags_12 (l1 : Sl) (task2 : Int) (c3 : Addr) (want7 : Sl) (gaps8 : Sl) (r10 : Addr) (k11 : Int) (t30 : Sl) (t31 : Int) (t32 : Int) : ev Try.prog 3 Try.f3.results.toList C_signalboxlaw19_MonitorFlags D_signalboxlaw19_MonitorFlags 400 true (todoOf Try.f3 12) (T_signalboxlaw19_MonitorFlags_12 l1 task2 c3 want7 gaps8 r10 k11 t30 t31 t32) = B_signalboxlaw19_MonitorFlags_12 l1 task2 c3 want7 gaps8 r10 k11 t30 t31 t32 := by kernel_rfl
theorem S_signalboxlaw19_MonitorFlags_12 (l1 : Sl) (task2 : Int) (c3 : Addr) (want7 : Sl) (gaps8 : Sl) (r10 : Addr) (k11 : Int) (t30 : Sl) (t31 : Int) (t32 : Int) {h : Hp} {Q : Value → Hp → Prop} (hb : B_signalboxlaw19_MonitorFlags_12 l1 task2 c3 want7 gaps8 r10 k11 t30 t31 t32 h Q) : K_signalboxlaw19_MonitorFlags_12 l1 task2 c3 want7 gaps8 r10 k11 t30 t31 t32 h Q :=
  Cut.of_ev Try.func3 mixed C_signalboxlaw19_MonitorFlags D_signalboxlaw19_MonitorFlags 400 (by rw [E_signalboxlaw19_MonitorFlags_12]; exact hb)
theorem E_signalboxlaw19_MonitorFlags_18 (l1 : Sl) (task2 : Int) (c3 : Addr) (want7 : Sl) (gaps8 : Sl) (r10 : Addr) (gap12 : Int) (t30 : Sl) (t31 : Int) (t32 : Int) : ev Try.prog 3 Try.f3.results.toList C_signalboxlaw19_MonitorFlags D_signalboxlaw19_MonitorFlags 400 true (todoOf Try.f3 18) (T_signalboxlaw19_MonitorFlags_18 l1 task2 c3 want7 gaps8 r10 gap12 t30 t31 t32) = B_signalboxlaw19_MonitorFlags_18 l1 task2 c3 want7 gaps8 r10 gap12 t30 t31 t32 := by kernel_rfl
theorem S_signalboxlaw19_MonitorFlags_18 (l1 : Sl) (task2 : Int) (c3 : Addr) (want7 : Sl) (gaps8 : Sl) (r10 : Addr) (gap12 : Int) (t30 : Sl) (t31 : Int) (t32 : Int) {h : Hp} {Q : Value → Hp → Prop} (hb : B_signalboxlaw19_MonitorFlags_18 l1 task2 c3 want7 gaps8 r10 gap12 t30 t31 t32 h Q) : K_signalboxlaw19_MonitorFlags_18 l1 task2 c3 want7 gaps8 r10 gap12 t30 t31 t32 h Q :=
  Cut.of_ev Try.func3 mixed C_signalboxlaw19_MonitorFlags D_signalboxlaw19_MonitorFlags 400 (by rw [E_signalboxlaw19_MonitorFlags_18]; exact hb)
theorem E_signalboxlaw19_MonitorFlags_25 (l1 : Sl) (c3 : Addr) (want7 : Sl) (gaps8 : Sl) (got13 : Sl) (g14 : Sl) (t144 : Int) (t145 : Int) : ev Try.prog 3 Try.f3.results.toList C_signalboxlaw19_MonitorFlags D_signalboxlaw19_MonitorFlags 400 true (todoOf Try.f3 25) (T_signalboxlaw19_MonitorFlags_25 l1 c3 want7 gaps8 got13 g14 t144 t145) = B_signalboxlaw19_MonitorFlags_25 l1 c3 want7 gaps8 got13 g14 t144 t145 := by kernel_rfl
theorem S_signalboxlaw19_MonitorFlags_25 (l1 : Sl) (c3 : Addr) (want7 : Sl) (gaps8 : Sl) (got13 : Sl) (g14 : Sl) (t144 : Int) (t145 : Int) {h : Hp} {Q : Value → Hp → Prop} (hb : B_signalboxlaw19_MonitorFlags_25 l1 c3 want7 gaps8 got13 g14 t144 t145 h Q) : K_signalboxlaw19_MonitorFlags_25 l1 c3 want7 gaps8 got13 g14 t144 t145 h Q :=
  Cut.of_ev Try.func3 mixed C_signalboxlaw19_MonitorFlags D_signalboxlaw19_MonitorFlags 400 (by rw [E_signalboxlaw19_MonitorFlags_25]; exact hb)
theorem E_signalboxlaw19_MonitorFlags_31 (l1 : Sl) (c3 : Addr) (want7 : Sl) (gaps8 : Sl) (g14 : Sl) (t159 : Int) (t160 : Int) : ev Try.prog 3 Try.f3.results.toList C_signalboxlaw19_MonitorFlags D_signalboxlaw19_MonitorFlags 400 true (todoOf Try.f3 31) (T_signalboxlaw19_MonitorFlags_31 l1 c3 want7 gaps8 g14 t159 t160) = B_signalboxlaw19_MonitorFlags_31 l1 c3 want7 gaps8 g14 t159 t160 := by kernel_rfl
theorem S_signalboxlaw19_MonitorFlags_31 (l1 : Sl) (c3 : Addr) (want7 : Sl) (gaps8 : Sl) (g14 : Sl) (t159 : Int) (t160 : Int) {h : Hp} {Q : Value → Hp → Prop} (hb : B_signalboxlaw19_MonitorFlags_31 l1 c3 want7 gaps8 g14 t159 t160 h Q) : K_signalboxlaw19_MonitorFlags_31 l1 c3 want7 gaps8 g14 t159 t160 h Q :=
  Cut.of_ev Try.func3 mixed C_signalboxlaw19_MonitorFlags D_signalboxlaw19_MonitorFlags 400 (by rw [E_signalboxlaw19_MonitorFlags_31]; exact hb)
def C_signalboxlaw19_MonitorLate : List (Nat × List Nat) := [(8, [2, 3, 7, 8, 28, 29, 30])]
def D_signalboxlaw19_MonitorLate : List (Nat × List Nat) := []
def T_signalboxlaw19_MonitorLate_8 (now2 : Int) (c3 : Addr) (got7 : Sl) (at8 : Int) (t28 : Sl) (t29 : Int) (t30 : Int) : Env := mkEnv [(2, .int .i64 now2), (3, .pointer (some c3)), (7, .slice got7.p got7.n got7.c), (8, .int .i64 at8), (28, .slice t28.p t28.n t28.c), (29, .int .i64 t29), (30, .int .i64 t30)] 99 0
def K_signalboxlaw19_MonitorLate_8 (now2 : Int) (c3 : Addr) (got7 : Sl) (at8 : Int) (t28 : Sl) (t29 : Int) (t30 : Int) : M Value := Cut Try.prog 4 (todoOf Try.f4 8) (T_signalboxlaw19_MonitorLate_8 now2 c3 got7 at8 t28 t29 t30)
def B_signalboxlaw19_MonitorLate (c0_0 : Int) (c0_1 : Int) (c0_2 : Int) (c0_3 : Int) (c0_4 : Sl) (c0_5 : Int) (c0_6 : Sl) (c0_7 : Sl) (c0_8 : Sl) (c0_9 : Sl) (l1 : Sl) (now2 : Int) : M Value :=
  mNew #[.int .i64 c0_0, .int .i64 c0_1, .int .i64 c0_2, .int .i64 c0_3, .slice c0_4.p c0_4.n c0_4.c, .int .i64 c0_5, .slice c0_6.p c0_6.n c0_6.c, .slice c0_7.p c0_7.n c0_7.c, .slice c0_8.p c0_8.n c0_8.c, .slice c0_9.p c0_9.n c0_9.c] 27 fun (x3 : Addr) =>
  mBind (N_signalboxlaw19_fixed) fun r13 =>
  unB r13 fun (x13 : Bool) =>
  mIf (!x13) (
    mRet (.bool false)) (
    mLdL (x3.add 8) fun (x16 : Sl) =>
    mIf ((decide ((x16.n : Int) > (20 : Int))) || (decide ((l1.n : Int) > (150 : Int)))) (
      mRet (.bool true)) (
      mLdI .i64 x3 fun (x24_0 : Int) =>
      mLdI .i64 (x3.add 1) fun (x24_1 : Int) =>
      mLdI .i64 (x3.add 2) fun (x24_2 : Int) =>
      mLdI .i64 (x3.add 3) fun (x24_3 : Int) =>
      mLdL (x3.add 4) fun (x24_4 : Sl) =>
      mLdI .i64 (x3.add 5) fun (x24_5 : Int) =>
      mLdL (x3.add 6) fun (x24_6 : Sl) =>
      mLdL (x3.add 7) fun (x24_7 : Sl) =>
      mLdL (x3.add 8) fun (x24_8 : Sl) =>
      mLdL (x3.add 9) fun (x24_9 : Sl) =>
      mBind (N_monitor_Late x24_0 x24_1 x24_2 x24_3 x24_4 x24_5 x24_6 x24_7 x24_8 x24_9 l1 now2) fun r27 =>
      unL r27 fun (x27 : Sl) =>
      K_signalboxlaw19_MonitorLate_8 now2 x3 x27 (0 : Int) l1 (l1.n : Int) (0 : Int)))
def B_signalboxlaw19_MonitorLate_8 (now2 : Int) (c3 : Addr) (got7 : Sl) (at8 : Int) (t28 : Sl) (t29 : Int) (t30 : Int) : M Value :=
  mIf (decide (t30 < t29)) (
    mIdx t28 t30 11 fun (x33 : Addr) =>
    mLdI .i64 x33 fun (x34_0 : Int) =>
    mLdI .i64 (x33.add 1) fun (x34_1 : Int) =>
    mLdI .i64 (x33.add 2) fun (x34_2 : Int) =>
    mLdI .i64 (x33.add 3) fun (x34_3 : Int) =>
    mLdI .i64 (x33.add 4) fun (x34_4 : Int) =>
    mLdB (x33.add 5) fun (x34_5 : Bool) =>
    mLdI .i64 (x33.add 6) fun (x34_6 : Int) =>
    mLdI .i64 (x33.add 7) fun (x34_7 : Int) =>
    mLdI .i64 (x33.add 8) fun (x34_8 : Int) =>
    mLdI .i64 (x33.add 9) fun (x34_9 : Int) =>
    mLdI .i64 (x33.add 10) fun (x34_10 : Int) =>
    mNew #[.int .i64 (0 : Int), .int .i64 (0 : Int), .int .i64 (0 : Int), .int .i64 (0 : Int), .int .i64 (0 : Int), .bool false, .int .i64 (0 : Int), .int .i64 (0 : Int), .int .i64 (0 : Int), .int .i64 (0 : Int), .int .i64 (0 : Int)] 48 fun (x10 : Addr) =>
    mSt x10 (.int .i64 x34_0) <|
    mSt (x10.add 1) (.int .i64 x34_1) <|
    mSt (x10.add 2) (.int .i64 x34_2) <|
    mSt (x10.add 3) (.int .i64 x34_3) <|
    mSt (x10.add 4) (.int .i64 x34_4) <|
    mSt (x10.add 5) (.bool x34_5) <|
    mSt (x10.add 6) (.int .i64 x34_6) <|
    mSt (x10.add 7) (.int .i64 x34_7) <|
    mSt (x10.add 8) (.int .i64 x34_8) <|
    mSt (x10.add 9) (.int .i64 x34_9) <|
    mSt (x10.add 10) (.int .i64 x34_10) <|
    mLdI .i64 x10 fun (x36 : Int) =>
    mBind (mIf (decide (x36 < (0 : Int))) (mRet true) (mLdI .i64 x10 fun (x40 : Int) =>
      mLdL (c3.add 8) fun (x42 : Sl) =>
      mRet (decide (x40 ≥ (x42.n : Int))))) fun (b17 : Bool) =>
    mIf b17 (
      K_signalboxlaw19_MonitorLate_8 now2 c3 got7 at8 t28 t29 (IntKind.i64.wrap (t30 + (1 : Int)))) (
      mLdI .i64 (x10.add 2) fun (x47 : Int) =>
      mQ (N_signalboxlaw19_clamp x47) fun r48 =>
      unI .i64 r48 fun (x48 : Int) =>
      mLdL (c3.add 8) fun (x50 : Sl) =>
      mLdI .i64 x10 fun (x52 : Int) =>
      mIdx x50 x52 7 fun (x53 : Addr) =>
      mLdI .i64 (x53.add 3) fun (x55 : Int) =>
      mQ (N_signalboxlaw19_clamp x55) fun r56 =>
      unI .i64 r56 fun (x56 : Int) =>
      mLdI .i64 (x10.add 4) fun (x59 : Int) =>
      mBind (mIf (decide (x59 ≥ (0 : Int))) (mLdI .i64 (x10.add 4) fun (x63 : Int) =>
        mBind (N_signalboxlaw19_clamp x63) fun r64 =>
        unI .i64 r64 fun (x64 : Int) =>
        mRet (decide (x64 > (IntKind.i64.wrap (x48 + x56))))) (mRet false)) fun (b34 : Bool) =>
      mBind (mIf b34 (mRet true) (mLdI .i64 (x10.add 4) fun (x70 : Int) =>
        mBind (mIf (decide (x70 < (0 : Int))) (mBind (N_signalboxlaw19_clamp now2) fun r74 =>
        unI .i64 r74 fun (x74 : Int) =>
        mRet (decide (x74 > (IntKind.i64.wrap (x48 + x56))))) (mRet false)) fun (b38 : Bool) =>
        mRet b38)) fun (b39 : Bool) =>
      mIf b39 (
        mBind (mIf (decide (at8 ≥ (got7.n : Int))) (mRet true) (mIdx got7 at8 1 fun (x87 : Addr) =>
          mLdI .i64 x87 fun (x88 : Int) =>
          mRet (x88 != t30))) fun (b42 : Bool) =>
        mIf b42 (
          mRet (.bool false)) (
          K_signalboxlaw19_MonitorLate_8 now2 c3 got7 (IntKind.i64.wrap (at8 + (1 : Int))) t28 t29 (IntKind.i64.wrap (t30 + (1 : Int))))) (
        K_signalboxlaw19_MonitorLate_8 now2 c3 got7 at8 t28 t29 (IntKind.i64.wrap (t30 + (1 : Int)))))) (
    mRet (.bool (at8 == (got7.n : Int))))
theorem E_signalboxlaw19_MonitorLate (c0_0 : Int) (c0_1 : Int) (c0_2 : Int) (c0_3 : Int) (c0_4 : Sl) (c0_5 : Int) (c0_6 : Sl) (c0_7 : Sl) (c0_8 : Sl) (c0_9 : Sl) (l1 : Sl) (now2 : Int) : ev Try.prog 4 Try.f4.results.toList C_signalboxlaw19_MonitorLate D_signalboxlaw19_MonitorLate 400 false [.code (bodyOf Try.f4)] (List.map some [.agg #[.int .i64 c0_0, .int .i64 c0_1, .int .i64 c0_2, .int .i64 c0_3, .slice c0_4.p c0_4.n c0_4.c, .int .i64 c0_5, .slice c0_6.p c0_6.n c0_6.c, .slice c0_7.p c0_7.n c0_7.c, .slice c0_8.p c0_8.n c0_8.c, .slice c0_9.p c0_9.n c0_9.c], .slice l1.p l1.n l1.c, .int .i64 now2] ++ List.replicate (Try.f4.ntmps - List.length ([.agg #[.int .i64 c0_0, .int .i64 c0_1, .int .i64 c0_2, .int .i64 c0_3, .slice c0_4.p c0_4.n c0_4.c, .int .i64 c0_5, .slice c0_6.p c0_6.n c0_6.c, .slice c0_7.p c0_7.n c0_7.c, .slice c0_8.p c0_8.n c0_8.c, .slice c0_9.p c0_9.n c0_9.c], .slice l1.p l1.n l1.c, .int .i64 now2] : List Value)) none) = B_signalboxlaw19_MonitorLate c0_0 c0_1 c0_2 c0_3 c0_4 c0_5 c0_6 c0_7 c0_8 c0_9 l1 now2 := by kernel_rfl
theorem S_signalboxlaw19_MonitorLate (c0_0 : Int) (c0_1 : Int) (c0_2 : Int) (c0_3 : Int) (c0_4 : Sl) (c0_5 : Int) (c0_6 : Sl) (c0_7 : Sl) (c0_8 : Sl) (c0_9 : Sl) (l1 : Sl) (now2 : Int) {h : Hp} {Q : Value → Hp → Prop} (hb : B_signalboxlaw19_MonitorLate c0_0 c0_1 c0_2 c0_3 c0_4 c0_5 c0_6 c0_7 c0_8 c0_9 l1 now2 h Q) : N_signalboxlaw19_MonitorLate c0_0 c0_1 c0_2 c0_3 c0_4 c0_5 c0_6 c0_7 c0_8 c0_9 l1 now2 h Q :=
  Nf.of_ev Try.call4 Try.func4 (c := bodyOf Try.f4) rfl mixed C_signalboxlaw19_MonitorLate D_signalboxlaw19_MonitorLate 400 (args := [.agg #[.int .i64 c0_0, .int .i64 c0_1, .int .i64 c0_2, .int .i64 c0_3, .slice c0_4.p c0_4.n c0_4.c, .int .i64 c0_5, .slice c0_6.p c0_6.n c0_6.c, .slice c0_7.p c0_7.n c0_7.c, .slice c0_8.p c0_8.n c0_8.c, .slice c0_9.p c0_9.n c0_9.c], .slice l1.p l1.n l1.c, .int .i64 now2]) (by rw [E_signalboxlaw19_MonitorLate]; exact hb)
theorem E_signalboxlaw19_MonitorLate_8 (now2 : Int) (c3 : Addr) (got7 : Sl) (at8 : Int) (t28 : Sl) (t29 : Int) (t30 : Int) : ev Try.prog 4 Try.f4.results.toList C_signalboxlaw19_MonitorLate D_signalboxlaw19_MonitorLate 400 true (todoOf Try.f4 8) (T_signalboxlaw19_MonitorLate_8 now2 c3 got7 at8 t28 t29 t30) = B_signalboxlaw19_MonitorLate_8 now2 c3 got7 at8 t28 t29 t30 := by kernel_rfl
theorem S_signalboxlaw19_MonitorLate_8 (now2 : Int) (c3 : Addr) (got7 : Sl) (at8 : Int) (t28 : Sl) (t29 : Int) (t30 : Int) {h : Hp} {Q : Value → Hp → Prop} (hb : B_signalboxlaw19_MonitorLate_8 now2 c3 got7 at8 t28 t29 t30 h Q) : K_signalboxlaw19_MonitorLate_8 now2 c3 got7 at8 t28 t29 t30 h Q :=
  Cut.of_ev Try.func4 mixed C_signalboxlaw19_MonitorLate D_signalboxlaw19_MonitorLate 400 (by rw [E_signalboxlaw19_MonitorLate_8]; exact hb)
end Go.Proofs.Ytkoenpliddhhoaa
