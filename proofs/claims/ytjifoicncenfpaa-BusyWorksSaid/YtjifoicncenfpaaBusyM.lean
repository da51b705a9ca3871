/- What the functions of this layer come to, as forms of the small logic; written by program. Conditions: none. -/
import Derived.Test.YtjifoicncenfpaaSbU
import Derived.Test.YtjifoicncenfpaaChecked
import Derived.KernelRfl
set_option maxRecDepth 100000
namespace Go.Proofs.Ytjifoicncenfpaa
open Go Go.Sb
theorem mixed : Try.prog.follows .mixedOrders = true := by kernel_rfl
def N_signalboxlaw25_fixed : M Value := Nf Try.prog 53 #[]
def N_signalboxlaw25_split (l0 : Sl) : M Value := Nf Try.prog 54 #[.slice l0.p l0.n l0.c]
def N_busy_Demand (delay0 : Int) (l1 : Sl) (x2 : Int) : M Value := Nf Try.prog 55 #[.int .u64 delay0, .slice l1.p l1.n l1.c, .int .u64 x2]
def N_signalboxref25_Demand (delay0 : Int) (costs1 : Sl) (periods2 : Sl) (x3 : Int) : M Value := Nf Try.prog 56 #[.int .u64 delay0, .slice costs1.p costs1.n costs1.c, .slice periods2.p periods2.n periods2.c, .int .u64 x3]
def N_busy_Window (delay0 : Int) (l1 : Sl) (most2 : Int) : M Value := Nf Try.prog 57 #[.int .u64 delay0, .slice l1.p l1.n l1.c, .int .u64 most2]
def N_signalboxref25_Window (delay0 : Int) (costs1 : Sl) (periods2 : Sl) (most3 : Int) : M Value := Nf Try.prog 58 #[.int .u64 delay0, .slice costs1.p costs1.n costs1.c, .slice periods2.p periods2.n periods2.c, .int .u64 most3]
def N_busy_Slack (l0 : Sl) (most1 : Int) : M Value := Nf Try.prog 59 #[.slice l0.p l0.n l0.c, .int .u64 most1]
def N_sat_Add (a0 : Int) (b1 : Int) : M Value := Nf Try.prog 75 #[.int .u64 a0, .int .u64 b1]
def N_sat_Mul (a0 : Int) (b1 : Int) : M Value := Nf Try.prog 76 #[.int .u64 a0, .int .u64 b1]
def N_sat_Ceil (a0 : Int) (b1 : Int) : M Value := Nf Try.prog 77 #[.int .u64 a0, .int .u64 b1]
def N_signalboxref01_Add (a0 : Int) (b1 : Int) : M Value := Nf Try.prog 78 #[.int .u64 a0, .int .u64 b1]
def N_signalboxref01_Mul (a0 : Int) (b1 : Int) : M Value := Nf Try.prog 79 #[.int .u64 a0, .int .u64 b1]
def N_signalboxref01_Ceil (a0 : Int) (b1 : Int) : M Value := Nf Try.prog 80 #[.int .u64 a0, .int .u64 b1]
def N_sat_Least (step0g : Nat) (step0f : Array Value) (step0c : Array Value) (from1 : Int) (most2 : Int) : M Value := Nf Try.prog 81 #[.func (.func step0g) step0f step0c, .int .u64 from1, .int .u64 most2]
def N_busy_work_demand (w0_0 : Int) (w0_1 : Sl) (x1 : Int) : M Value := Nf Try.prog 82 #[.agg #[.int .u64 w0_0, .slice w0_1.p w0_1.n w0_1.c], .int .u64 x1]
def N_math_bits_Add64 (x0 : Int) (x1 : Int) (x2 : Int) : M Value := Nf Try.prog 88 #[.int .u64 x0, .int .u64 x1, .int .u64 x2]
def N_math_bits_Mul64 (x0 : Int) (y1 : Int) : M Value := Nf Try.prog 89 #[.int .u64 x0, .int .u64 y1]
def N_signalboxlaw25_BusyWindows (delay0 : Int) (l1 : Sl) (x2 : Int) (most3 : Int) : M Value := Nf Try.prog 11 #[.int .u64 delay0, .slice l1.p l1.n l1.c, .int .u64 x2, .int .u64 most3]
def N_signalboxlaw25_BusySlacks (l0 : Sl) (most1 : Int) : M Value := Nf Try.prog 12 #[.slice l0.p l0.n l0.c, .int .u64 most1]
def N_signalboxlaw25_BusyRises (delay0 : Int) (more1 : Int) (l2 : Sl) (x3_0 : Int) (x3_1 : Int) : M Value := Nf Try.prog 13 #[.int .u32 delay0, .int .u32 more1, .slice l2.p l2.n l2.c, .agg #[.int .u64 x3_0, .int .u64 x3_1]]
def N_signalboxlaw25_BusyWorks (delay0 : Int) (l1 : Sl) (gaps2 : Sl) : M Value := Nf Try.prog 14 #[.int .u8 delay0, .slice l1.p l1.n l1.c, .slice gaps2.p gaps2.n gaps2.c]
def C_signalboxlaw25_fixed : List (Nat × List Nat) := []
def D_signalboxlaw25_fixed : List (Nat × List Nat) := []
def B_signalboxlaw25_fixed : M Value :=
  mNew #[.int .u64 (3 : Int), .int .u64 (10 : Int)] 95 fun (x9 : Addr) =>
  mBind (N_busy_Window (2 : Int) (Sl.mk (some x9) 1 1) (50 : Int)) fun r10 =>
  un2 (unI .u64) unB r10 fun (x10_0 : Int) (x10_1 : Bool) =>
  mNew #[.int .u64 (10 : Int), .int .u64 (10 : Int)] 95 fun (x15 : Addr) =>
  mBind (N_busy_Window (2 : Int) (Sl.mk (some x15) 1 1) (50 : Int)) fun r16 =>
  un2 (unI .u64) unB r16 fun (_x16_0 : Int) (x16_1 : Bool) =>
  mNew #[.int .u64 (3 : Int), .int .u64 (10 : Int)] 95 fun (x21 : Addr) =>
  mBind (N_busy_Slack (Sl.mk (some x21) 1 1) (9 : Int)) fun r22 =>
  un2 (unI .u64) unB r22 fun (x22_0 : Int) (x22_1 : Bool) =>
  mBind (mIf ((((x10_1 && (x10_0 == (5 : Int))) && (!x16_1)) && x22_1) && (x22_0 == (6 : Int))) (mNew #[.int .u64 (3 : Int), .int .u64 (10 : Int)] 95 fun (x43 : Addr) =>
    mBind (N_busy_Demand (1 : Int) (Sl.mk (some x43) 1 1) (11 : Int)) fun r44 =>
    unI .u64 r44 fun (x44 : Int) =>
    mRet (x44 == (7 : Int))) (mRet false)) fun (b9 : Bool) =>
  mRet (.bool b9)
theorem E_signalboxlaw25_fixed : ev Try.prog 53 Try.f53.results.toList C_signalboxlaw25_fixed D_signalboxlaw25_fixed 400 false [.code (bodyOf Try.f53)] (List.map some [] ++ List.replicate (Try.f53.ntmps - List.length ([] : List Value)) none) = B_signalboxlaw25_fixed := by kernel_rfl
theorem S_signalboxlaw25_fixed {h : Hp} {Q : Value → Hp → Prop} (hb : B_signalboxlaw25_fixed h Q) : N_signalboxlaw25_fixed h Q :=
  Nf.of_ev Try.call53 Try.func53 (c := bodyOf Try.f53) rfl mixed C_signalboxlaw25_fixed D_signalboxlaw25_fixed 400 (args := []) (by rw [E_signalboxlaw25_fixed]; exact hb)
def C_signalboxlaw25_split : List (Nat × List Nat) := [(3, [4, 5, 8, 9, 10])]
def D_signalboxlaw25_split : List (Nat × List Nat) := [(5, [])]
def T_signalboxlaw25_split_3 (a4 : Sl) (b5 : Sl) (t8 : Sl) (t9 : Int) (t10 : Int) : Env := mkEnv [(4, .slice a4.p a4.n a4.c), (5, .slice b5.p b5.n b5.c), (8, .slice t8.p t8.n t8.c), (9, .int .i64 t9), (10, .int .i64 t10)] 27 0
def K_signalboxlaw25_split_3 (a4 : Sl) (b5 : Sl) (t8 : Sl) (t9 : Int) (t10 : Int) : M Value := Cut Try.prog 54 (todoOf Try.f54 3) (T_signalboxlaw25_split_3 a4 b5 t8 t9 t10)
def B_signalboxlaw25_split (l0 : Sl) : M Value :=
  K_signalboxlaw25_split_3 (Sl.mk none 0 0) (Sl.mk none 0 0) l0 (l0.n : Int) (0 : Int)
def B_signalboxlaw25_split_3 (a4 : Sl) (b5 : Sl) (t8 : Sl) (t9 : Int) (t10 : Int) : M Value :=
  mIf (decide (t10 < t9)) (
    mIdx t8 t10 2 fun (x12 : Addr) =>
    mLdI .u64 x12 fun (x13_0 : Int) =>
    mLdI .u64 (x12.add 1) fun (x13_1 : Int) =>
    mNew #[.int .u64 (0 : Int), .int .u64 (0 : Int)] 95 fun (x7 : Addr) =>
    mSt x7 (.int .u64 x13_0) <|
    mSt (x7.add 1) (.int .u64 x13_1) <|
    mAnd (
      mLdI .u64 x7 fun (x16_25 : Int) =>
      mAnd (
        mNew #[.int .u64 x16_25] 81 fun (x17_38 : Addr) =>
        mAnd (
          mApp 81 1 8 #[.int .u64 (0 : Int)] a4 ⟨(some x17_38), 1, 1⟩ fun (x18_46 : Sl) =>
          mLdI .u64 (x7.add 1) fun (x21_47 : Int) =>
          mNew #[.int .u64 x21_47] 81 fun (x22_48 : Addr) =>
          mApp 81 1 8 #[.int .u64 (0 : Int)] b5 ⟨(some x22_48), 1, 1⟩ fun (x23_49 : Sl) =>
          K_signalboxlaw25_split_3 x18_46 x23_49 t8 t9 (IntKind.i64.wrap (t10 + (1 : Int)))) (
          mLdI .u64 (x7.add 1) fun (x21_39 : Int) =>
          mAnd (
            mApp 81 1 8 #[.int .u64 (0 : Int)] a4 ⟨(some x17_38), 1, 1⟩ fun (x18_43 : Sl) =>
            mNew #[.int .u64 x21_39] 81 fun (x22_44 : Addr) =>
            mApp 81 1 8 #[.int .u64 (0 : Int)] b5 ⟨(some x22_44), 1, 1⟩ fun (x23_45 : Sl) =>
            K_signalboxlaw25_split_3 x18_43 x23_45 t8 t9 (IntKind.i64.wrap (t10 + (1 : Int)))) (
            mNew #[.int .u64 x21_39] 81 fun (x22_40 : Addr) =>
            mApp 81 1 8 #[.int .u64 (0 : Int)] a4 ⟨(some x17_38), 1, 1⟩ fun (x18_41 : Sl) =>
            mApp 81 1 8 #[.int .u64 (0 : Int)] b5 ⟨(some x22_40), 1, 1⟩ fun (x23_42 : Sl) =>
            K_signalboxlaw25_split_3 x18_41 x23_42 t8 t9 (IntKind.i64.wrap (t10 + (1 : Int)))))) (
        mLdI .u64 (x7.add 1) fun (x21_26 : Int) =>
        mAnd (
          mNew #[.int .u64 x16_25] 81 fun (x17_31 : Addr) =>
          mAnd (
            mApp 81 1 8 #[.int .u64 (0 : Int)] a4 ⟨(some x17_31), 1, 1⟩ fun (x18_35 : Sl) =>
            mNew #[.int .u64 x21_26] 81 fun (x22_36 : Addr) =>
            mApp 81 1 8 #[.int .u64 (0 : Int)] b5 ⟨(some x22_36), 1, 1⟩ fun (x23_37 : Sl) =>
            K_signalboxlaw25_split_3 x18_35 x23_37 t8 t9 (IntKind.i64.wrap (t10 + (1 : Int)))) (
            mNew #[.int .u64 x21_26] 81 fun (x22_32 : Addr) =>
            mApp 81 1 8 #[.int .u64 (0 : Int)] a4 ⟨(some x17_31), 1, 1⟩ fun (x18_33 : Sl) =>
            mApp 81 1 8 #[.int .u64 (0 : Int)] b5 ⟨(some x22_32), 1, 1⟩ fun (x23_34 : Sl) =>
            K_signalboxlaw25_split_3 x18_33 x23_34 t8 t9 (IntKind.i64.wrap (t10 + (1 : Int))))) (
          mNew #[.int .u64 x21_26] 81 fun (x22_27 : Addr) =>
          mNew #[.int .u64 x16_25] 81 fun (x17_28 : Addr) =>
          mApp 81 1 8 #[.int .u64 (0 : Int)] a4 ⟨(some x17_28), 1, 1⟩ fun (x18_29 : Sl) =>
          mApp 81 1 8 #[.int .u64 (0 : Int)] b5 ⟨(some x22_27), 1, 1⟩ fun (x23_30 : Sl) =>
          K_signalboxlaw25_split_3 x18_29 x23_30 t8 t9 (IntKind.i64.wrap (t10 + (1 : Int)))))) (
      mLdI .u64 (x7.add 1) fun (x21 : Int) =>
      mAnd (
        mLdI .u64 x7 fun (x16_13 : Int) =>
        mAnd (
          mNew #[.int .u64 x16_13] 81 fun (x17_18 : Addr) =>
          mAnd (
            mApp 81 1 8 #[.int .u64 (0 : Int)] a4 ⟨(some x17_18), 1, 1⟩ fun (x18_22 : Sl) =>
            mNew #[.int .u64 x21] 81 fun (x22_23 : Addr) =>
            mApp 81 1 8 #[.int .u64 (0 : Int)] b5 ⟨(some x22_23), 1, 1⟩ fun (x23_24 : Sl) =>
            K_signalboxlaw25_split_3 x18_22 x23_24 t8 t9 (IntKind.i64.wrap (t10 + (1 : Int)))) (
            mNew #[.int .u64 x21] 81 fun (x22_19 : Addr) =>
            mApp 81 1 8 #[.int .u64 (0 : Int)] a4 ⟨(some x17_18), 1, 1⟩ fun (x18_20 : Sl) =>
            mApp 81 1 8 #[.int .u64 (0 : Int)] b5 ⟨(some x22_19), 1, 1⟩ fun (x23_21 : Sl) =>
            K_signalboxlaw25_split_3 x18_20 x23_21 t8 t9 (IntKind.i64.wrap (t10 + (1 : Int))))) (
          mNew #[.int .u64 x21] 81 fun (x22_14 : Addr) =>
          mNew #[.int .u64 x16_13] 81 fun (x17_15 : Addr) =>
          mApp 81 1 8 #[.int .u64 (0 : Int)] a4 ⟨(some x17_15), 1, 1⟩ fun (x18_16 : Sl) =>
          mApp 81 1 8 #[.int .u64 (0 : Int)] b5 ⟨(some x22_14), 1, 1⟩ fun (x23_17 : Sl) =>
          K_signalboxlaw25_split_3 x18_16 x23_17 t8 t9 (IntKind.i64.wrap (t10 + (1 : Int))))) (
        mNew #[.int .u64 x21] 81 fun (x22 : Addr) =>
        mLdI .u64 x7 fun (x16 : Int) =>
        mNew #[.int .u64 x16] 81 fun (x17 : Addr) =>
        mApp 81 1 8 #[.int .u64 (0 : Int)] a4 ⟨(some x17), 1, 1⟩ fun (x18 : Sl) =>
        mApp 81 1 8 #[.int .u64 (0 : Int)] b5 ⟨(some x22), 1, 1⟩ fun (x23 : Sl) =>
        K_signalboxlaw25_split_3 x18 x23 t8 t9 (IntKind.i64.wrap (t10 + (1 : Int)))))) (
    mRet (.tuple #[.slice a4.p a4.n a4.c, .slice b5.p b5.n b5.c]))
theorem E_signalboxlaw25_split (l0 : Sl) : ev Try.prog 54 Try.f54.results.toList C_signalboxlaw25_split D_signalboxlaw25_split 400 false [.code (bodyOf Try.f54)] (List.map some [.slice l0.p l0.n l0.c] ++ List.replicate (Try.f54.ntmps - List.length ([.slice l0.p l0.n l0.c] : List Value)) none) = B_signalboxlaw25_split l0 := by kernel_rfl
theorem S_signalboxlaw25_split (l0 : Sl) {h : Hp} {Q : Value → Hp → Prop} (hb : B_signalboxlaw25_split l0 h Q) : N_signalboxlaw25_split l0 h Q :=
  Nf.of_ev Try.call54 Try.func54 (c := bodyOf Try.f54) rfl mixed C_signalboxlaw25_split D_signalboxlaw25_split 400 (args := [.slice l0.p l0.n l0.c]) (by rw [E_signalboxlaw25_split]; exact hb)
theorem E_signalboxlaw25_split_3 (a4 : Sl) (b5 : Sl) (t8 : Sl) (t9 : Int) (t10 : Int) : ev Try.prog 54 Try.f54.results.toList C_signalboxlaw25_split D_signalboxlaw25_split 400 true (todoOf Try.f54 3) (T_signalboxlaw25_split_3 a4 b5 t8 t9 t10) = B_signalboxlaw25_split_3 a4 b5 t8 t9 t10 := by kernel_rfl
theorem S_signalboxlaw25_split_3 (a4 : Sl) (b5 : Sl) (t8 : Sl) (t9 : Int) (t10 : Int) {h : Hp} {Q : Value → Hp → Prop} (hb : B_signalboxlaw25_split_3 a4 b5 t8 t9 t10 h Q) : K_signalboxlaw25_split_3 a4 b5 t8 t9 t10 h Q :=
  Cut.of_ev Try.func54 mixed C_signalboxlaw25_split D_signalboxlaw25_split 400 (by rw [E_signalboxlaw25_split_3]; exact hb)
def C_busy_Demand : List (Nat × List Nat) := [(3, [2, 7, 11, 12, 13])]
def D_busy_Demand : List (Nat × List Nat) := []
def T_busy_Demand_3 (x2 : Int) (n7 : Int) (t11 : Sl) (t12 : Int) (t13 : Int) : Env := mkEnv [(2, .int .u64 x2), (7, .int .u64 n7), (11, .slice t11.p t11.n t11.c), (12, .int .i64 t12), (13, .int .i64 t13)] 28 0
def K_busy_Demand_3 (x2 : Int) (n7 : Int) (t11 : Sl) (t12 : Int) (t13 : Int) : M Value := Cut Try.prog 55 (todoOf Try.f55 3) (T_busy_Demand_3 x2 n7 t11 t12 t13)
def B_busy_Demand (delay0 : Int) (l1 : Sl) (x2 : Int) : M Value :=
  K_busy_Demand_3 x2 delay0 l1 (l1.n : Int) (0 : Int)
def B_busy_Demand_3 (x2 : Int) (n7 : Int) (t11 : Sl) (t12 : Int) (t13 : Int) : M Value :=
  mIf (decide (t13 < t12)) (
    mIdx t11 t13 2 fun (x15 : Addr) =>
    mLdI .u64 x15 fun (x16_0 : Int) =>
    mLdI .u64 (x15.add 1) fun (x16_1 : Int) =>
    mNew #[.int .u64 (0 : Int), .int .u64 (0 : Int)] 95 fun (x9 : Addr) =>
    mSt x9 (.int .u64 x16_0) <|
    mSt (x9.add 1) (.int .u64 x16_1) <|
    mLdI .u64 x9 fun (x19 : Int) =>
    mLdI .u64 (x9.add 1) fun (x22 : Int) =>
    mQ (N_sat_Ceil x2 x22) fun r23 =>
    unI .u64 r23 fun (x23 : Int) =>
    mQ (N_sat_Mul x19 x23) fun r24 =>
    unI .u64 r24 fun (x24 : Int) =>
    mQ (N_sat_Add n7 x24) fun r25 =>
    unI .u64 r25 fun (x25 : Int) =>
    K_busy_Demand_3 x2 x25 t11 t12 (IntKind.i64.wrap (t13 + (1 : Int)))) (
    mRet (.int .u64 n7))
theorem E_busy_Demand (delay0 : Int) (l1 : Sl) (x2 : Int) : ev Try.prog 55 Try.f55.results.toList C_busy_Demand D_busy_Demand 400 false [.code (bodyOf Try.f55)] (List.map some [.int .u64 delay0, .slice l1.p l1.n l1.c, .int .u64 x2] ++ List.replicate (Try.f55.ntmps - List.length ([.int .u64 delay0, .slice l1.p l1.n l1.c, .int .u64 x2] : List Value)) none) = B_busy_Demand delay0 l1 x2 := by kernel_rfl
theorem S_busy_Demand (delay0 : Int) (l1 : Sl) (x2 : Int) {h : Hp} {Q : Value → Hp → Prop} (hb : B_busy_Demand delay0 l1 x2 h Q) : N_busy_Demand delay0 l1 x2 h Q :=
  Nf.of_ev Try.call55 Try.func55 (c := bodyOf Try.f55) rfl mixed C_busy_Demand D_busy_Demand 400 (args := [.int .u64 delay0, .slice l1.p l1.n l1.c, .int .u64 x2]) (by rw [E_busy_Demand]; exact hb)
theorem E_busy_Demand_3 (x2 : Int) (n7 : Int) (t11 : Sl) (t12 : Int) (t13 : Int) : ev Try.prog 55 Try.f55.results.toList C_busy_Demand D_busy_Demand 400 true (todoOf Try.f55 3) (T_busy_Demand_3 x2 n7 t11 t12 t13) = B_busy_Demand_3 x2 n7 t11 t12 t13 := by kernel_rfl
theorem S_busy_Demand_3 (x2 : Int) (n7 : Int) (t11 : Sl) (t12 : Int) (t13 : Int) {h : Hp} {Q : Value → Hp → Prop} (hb : B_busy_Demand_3 x2 n7 t11 t12 t13 h Q) : K_busy_Demand_3 x2 n7 t11 t12 t13 h Q :=
  Cut.of_ev Try.func55 mixed C_busy_Demand D_busy_Demand 400 (by rw [E_busy_Demand_3]; exact hb)
def C_signalboxref25_Demand : List (Nat × List Nat) := [(3, [1, 2, 3, 9, 13, 14])]
def D_signalboxref25_Demand : List (Nat × List Nat) := []
def T_signalboxref25_Demand_3 (costs1 : Sl) (periods2 : Sl) (x3 : Int) (n9 : Int) (t13 : Int) (t14 : Int) : Env := mkEnv [(1, .slice costs1.p costs1.n costs1.c), (2, .slice periods2.p periods2.n periods2.c), (3, .int .u64 x3), (9, .int .u64 n9), (13, .int .i64 t13), (14, .int .i64 t14)] 32 0
def K_signalboxref25_Demand_3 (costs1 : Sl) (periods2 : Sl) (x3 : Int) (n9 : Int) (t13 : Int) (t14 : Int) : M Value := Cut Try.prog 56 (todoOf Try.f56 3) (T_signalboxref25_Demand_3 costs1 periods2 x3 n9 t13 t14)
def B_signalboxref25_Demand (delay0 : Int) (costs1 : Sl) (periods2 : Sl) (x3 : Int) : M Value :=
  K_signalboxref25_Demand_3 costs1 periods2 x3 delay0 (costs1.n : Int) (0 : Int)
def B_signalboxref25_Demand_3 (costs1 : Sl) (periods2 : Sl) (x3 : Int) (n9 : Int) (t13 : Int) (t14 : Int) : M Value :=
  mIf (decide (t14 < t13)) (
    mIdx costs1 t14 1 fun (x20 : Addr) =>
    mLdI .u64 x20 fun (x21 : Int) =>
    mIdx periods2 t14 1 fun (x25 : Addr) =>
    mLdI .u64 x25 fun (x26 : Int) =>
    mQ (N_signalboxref01_Ceil x3 x26) fun r27 =>
    unI .u64 r27 fun (x27 : Int) =>
    mQ (N_signalboxref01_Mul x21 x27) fun r28 =>
    unI .u64 r28 fun (x28 : Int) =>
    mQ (N_signalboxref01_Add n9 x28) fun r29 =>
    unI .u64 r29 fun (x29 : Int) =>
    K_signalboxref25_Demand_3 costs1 periods2 x3 x29 t13 (IntKind.i64.wrap (t14 + (1 : Int)))) (
    mRet (.int .u64 n9))
theorem E_signalboxref25_Demand (delay0 : Int) (costs1 : Sl) (periods2 : Sl) (x3 : Int) : ev Try.prog 56 Try.f56.results.toList C_signalboxref25_Demand D_signalboxref25_Demand 400 false [.code (bodyOf Try.f56)] (List.map some [.int .u64 delay0, .slice costs1.p costs1.n costs1.c, .slice periods2.p periods2.n periods2.c, .int .u64 x3] ++ List.replicate (Try.f56.ntmps - List.length ([.int .u64 delay0, .slice costs1.p costs1.n costs1.c, .slice periods2.p periods2.n periods2.c, .int .u64 x3] : List Value)) none) = B_signalboxref25_Demand delay0 costs1 periods2 x3 := by kernel_rfl
theorem S_signalboxref25_Demand (delay0 : Int) (costs1 : Sl) (periods2 : Sl) (x3 : Int) {h : Hp} {Q : Value → Hp → Prop} (hb : B_signalboxref25_Demand delay0 costs1 periods2 x3 h Q) : N_signalboxref25_Demand delay0 costs1 periods2 x3 h Q :=
  Nf.of_ev Try.call56 Try.func56 (c := bodyOf Try.f56) rfl mixed C_signalboxref25_Demand D_signalboxref25_Demand 400 (args := [.int .u64 delay0, .slice costs1.p costs1.n costs1.c, .slice periods2.p periods2.n periods2.c, .int .u64 x3]) (by rw [E_signalboxref25_Demand]; exact hb)
theorem E_signalboxref25_Demand_3 (costs1 : Sl) (periods2 : Sl) (x3 : Int) (n9 : Int) (t13 : Int) (t14 : Int) : ev Try.prog 56 Try.f56.results.toList C_signalboxref25_Demand D_signalboxref25_Demand 400 true (todoOf Try.f56 3) (T_signalboxref25_Demand_3 costs1 periods2 x3 n9 t13 t14) = B_signalboxref25_Demand_3 costs1 periods2 x3 n9 t13 t14 := by kernel_rfl
theorem S_signalboxref25_Demand_3 (costs1 : Sl) (periods2 : Sl) (x3 : Int) (n9 : Int) (t13 : Int) (t14 : Int) {h : Hp} {Q : Value → Hp → Prop} (hb : B_signalboxref25_Demand_3 costs1 periods2 x3 n9 t13 t14 h Q) : K_signalboxref25_Demand_3 costs1 periods2 x3 n9 t13 t14 h Q :=
  Cut.of_ev Try.func56 mixed C_signalboxref25_Demand D_signalboxref25_Demand 400 (by rw [E_signalboxref25_Demand_3]; exact hb)
def C_busy_Window : List (Nat × List Nat) := []
def D_busy_Window : List (Nat × List Nat) := []
def B_busy_Window (delay0 : Int) (l1 : Sl) (most2 : Int) : M Value :=
  mBind (N_sat_Least (82) (#[.agg #[.int .u64 delay0, .slice l1.p l1.n l1.c]]) (#[]) (1 : Int) (if (16777216 : Int) < most2 then (16777216 : Int) else most2)) fun r15 =>
  un2 (unI .u64) unB r15 fun (x15_0 : Int) (x15_1 : Bool) =>
  mRet (.tuple #[.int .u64 x15_0, .bool x15_1])
theorem E_busy_Window (delay0 : Int) (l1 : Sl) (most2 : Int) : ev Try.prog 57 Try.f57.results.toList C_busy_Window D_busy_Window 400 false [.code (bodyOf Try.f57)] (List.map some [.int .u64 delay0, .slice l1.p l1.n l1.c, .int .u64 most2] ++ List.replicate (Try.f57.ntmps - List.length ([.int .u64 delay0, .slice l1.p l1.n l1.c, .int .u64 most2] : List Value)) none) = B_busy_Window delay0 l1 most2 := by kernel_rfl
theorem S_busy_Window (delay0 : Int) (l1 : Sl) (most2 : Int) {h : Hp} {Q : Value → Hp → Prop} (hb : B_busy_Window delay0 l1 most2 h Q) : N_busy_Window delay0 l1 most2 h Q :=
  Nf.of_ev Try.call57 Try.func57 (c := bodyOf Try.f57) rfl mixed C_busy_Window D_busy_Window 400 (args := [.int .u64 delay0, .slice l1.p l1.n l1.c, .int .u64 most2]) (by rw [E_busy_Window]; exact hb)
def C_signalboxref25_Window : List (Nat × List Nat) := [(2, [0, 1, 2, 3, 9])]
def D_signalboxref25_Window : List (Nat × List Nat) := []
def T_signalboxref25_Window_2 (delay0 : Int) (costs1 : Sl) (periods2 : Sl) (most3 : Int) (x9 : Int) : Env := mkEnv [(0, .int .u64 delay0), (1, .slice costs1.p costs1.n costs1.c), (2, .slice periods2.p periods2.n periods2.c), (3, .int .u64 most3), (9, .int .u64 x9)] 23 0
def K_signalboxref25_Window_2 (delay0 : Int) (costs1 : Sl) (periods2 : Sl) (most3 : Int) (x9 : Int) : M Value := Cut Try.prog 58 (todoOf Try.f58 2) (T_signalboxref25_Window_2 delay0 costs1 periods2 most3 x9)
def B_signalboxref25_Window (delay0 : Int) (costs1 : Sl) (periods2 : Sl) (most3 : Int) : M Value :=
  K_signalboxref25_Window_2 delay0 costs1 periods2 most3 (1 : Int)
def B_signalboxref25_Window_2 (delay0 : Int) (costs1 : Sl) (periods2 : Sl) (most3 : Int) (x9 : Int) : M Value :=
  mIf (decide (x9 ≤ most3)) (
    mBind (N_signalboxref25_Demand delay0 costs1 periods2 x9) fun r19 =>
    unI .u64 r19 fun (x19 : Int) =>
    mIf (decide (x19 ≤ x9)) (
      mRet (.int .u64 x9)) (
      K_signalboxref25_Window_2 delay0 costs1 periods2 most3 (IntKind.u64.wrap (x9 + (1 : Int))))) (
    mRet (.int .u64 (0 : Int)))
theorem E_signalboxref25_Window (delay0 : Int) (costs1 : Sl) (periods2 : Sl) (most3 : Int) : ev Try.prog 58 Try.f58.results.toList C_signalboxref25_Window D_signalboxref25_Window 400 false [.code (bodyOf Try.f58)] (List.map some [.int .u64 delay0, .slice costs1.p costs1.n costs1.c, .slice periods2.p periods2.n periods2.c, .int .u64 most3] ++ List.replicate (Try.f58.ntmps - List.length ([.int .u64 delay0, .slice costs1.p costs1.n costs1.c, .slice periods2.p periods2.n periods2.c, .int .u64 most3] : List Value)) none) = B_signalboxref25_Window delay0 costs1 periods2 most3 := by kernel_rfl
theorem S_signalboxref25_Window (delay0 : Int) (costs1 : Sl) (periods2 : Sl) (most3 : Int) {h : Hp} {Q : Value → Hp → Prop} (hb : B_signalboxref25_Window delay0 costs1 periods2 most3 h Q) : N_signalboxref25_Window delay0 costs1 periods2 most3 h Q :=
  Nf.of_ev Try.call58 Try.func58 (c := bodyOf Try.f58) rfl mixed C_signalboxref25_Window D_signalboxref25_Window 400 (args := [.int .u64 delay0, .slice costs1.p costs1.n costs1.c, .slice periods2.p periods2.n periods2.c, .int .u64 most3]) (by rw [E_signalboxref25_Window]; exact hb)
theorem E_signalboxref25_Window_2 (delay0 : Int) (costs1 : Sl) (periods2 : Sl) (most3 : Int) (x9 : Int) : ev Try.prog 58 Try.f58.results.toList C_signalboxref25_Window D_signalboxref25_Window 400 true (todoOf Try.f58 2) (T_signalboxref25_Window_2 delay0 costs1 periods2 most3 x9) = B_signalboxref25_Window_2 delay0 costs1 periods2 most3 x9 := by kernel_rfl
theorem S_signalboxref25_Window_2 (delay0 : Int) (costs1 : Sl) (periods2 : Sl) (most3 : Int) (x9 : Int) {h : Hp} {Q : Value → Hp → Prop} (hb : B_signalboxref25_Window_2 delay0 costs1 periods2 most3 x9 h Q) : K_signalboxref25_Window_2 delay0 costs1 periods2 most3 x9 h Q :=
  Cut.of_ev Try.func58 mixed C_signalboxref25_Window D_signalboxref25_Window 400 (by rw [E_signalboxref25_Window_2]; exact hb)
def C_busy_Slack : List (Nat × List Nat) := [(6, [0, 1, 8, 9])]
def D_busy_Slack : List (Nat × List Nat) := []
def T_busy_Slack_6 (l0 : Sl) (most1 : Int) (low8 : Int) (high9 : Int) : Env := mkEnv [(0, .slice l0.p l0.n l0.c), (1, .int .u64 most1), (8, .int .u64 low8), (9, .int .u64 high9)] 46 0
def K_busy_Slack_6 (l0 : Sl) (most1 : Int) (low8 : Int) (high9 : Int) : M Value := Cut Try.prog 59 (todoOf Try.f59 6) (T_busy_Slack_6 l0 most1 low8 high9)
def B_busy_Slack (l0 : Sl) (most1 : Int) : M Value :=
  mBind (N_busy_Window (0 : Int) l0 (if (16777216 : Int) < most1 then (16777216 : Int) else most1)) fun r18 =>
  un2 (unI .u64) unB r18 fun (_x18_0 : Int) (x18_1 : Bool) =>
  mIf (!x18_1) (
    mRet (.tuple #[.int .u64 (0 : Int), .bool false])) (
    K_busy_Slack_6 l0 (if (16777216 : Int) < most1 then (16777216 : Int) else most1) (0 : Int) (IntKind.u64.wrap ((if (16777216 : Int) < most1 then (16777216 : Int) else most1) + (1 : Int))))
def B_busy_Slack_6 (l0 : Sl) (most1 : Int) (low8 : Int) (high9 : Int) : M Value :=
  mIf (decide ((IntKind.u64.wrap (high9 - low8)) > (1 : Int))) (
    mGuard ((2 : Int) ≠ 0) <|
    mBind (N_busy_Window (IntKind.u64.wrap (low8 + (IntKind.u64.wrap (Int.tdiv (IntKind.u64.wrap (high9 - low8)) (2 : Int))))) l0 most1) fun r39 =>
    un2 (unI .u64) unB r39 fun (_x39_0 : Int) (x39_1 : Bool) =>
    mIf x39_1 (
      K_busy_Slack_6 l0 most1 (IntKind.u64.wrap (low8 + (IntKind.u64.wrap (Int.tdiv (IntKind.u64.wrap (high9 - low8)) (2 : Int))))) high9) (
      K_busy_Slack_6 l0 most1 low8 (IntKind.u64.wrap (low8 + (IntKind.u64.wrap (Int.tdiv (IntKind.u64.wrap (high9 - low8)) (2 : Int))))))) (
    mRet (.tuple #[.int .u64 low8, .bool true]))
theorem E_busy_Slack (l0 : Sl) (most1 : Int) : ev Try.prog 59 Try.f59.results.toList C_busy_Slack D_busy_Slack 400 false [.code (bodyOf Try.f59)] (List.map some [.slice l0.p l0.n l0.c, .int .u64 most1] ++ List.replicate (Try.f59.ntmps - List.length ([.slice l0.p l0.n l0.c, .int .u64 most1] : List Value)) none) = B_busy_Slack l0 most1 := by kernel_rfl
theorem S_busy_Slack (l0 : Sl) (most1 : Int) {h : Hp} {Q : Value → Hp → Prop} (hb : B_busy_Slack l0 most1 h Q) : N_busy_Slack l0 most1 h Q :=
  Nf.of_ev Try.call59 Try.func59 (c := bodyOf Try.f59) rfl mixed C_busy_Slack D_busy_Slack 400 (args := [.slice l0.p l0.n l0.c, .int .u64 most1]) (by rw [E_busy_Slack]; exact hb)
theorem E_busy_Slack_6 (l0 : Sl) (most1 : Int) (low8 : Int) (high9 : Int) : ev Try.prog 59 Try.f59.results.toList C_busy_Slack D_busy_Slack 400 true (todoOf Try.f59 6) (T_busy_Slack_6 l0 most1 low8 high9) = B_busy_Slack_6 l0 most1 low8 high9 := by kernel_rfl
theorem S_busy_Slack_6 (l0 : Sl) (most1 : Int) (low8 : Int) (high9 : Int) {h : Hp} {Q : Value → Hp → Prop} (hb : B_busy_Slack_6 l0 most1 low8 high9 h Q) : K_busy_Slack_6 l0 most1 low8 high9 h Q :=
  Cut.of_ev Try.func59 mixed C_busy_Slack D_busy_Slack 400 (by rw [E_busy_Slack_6]; exact hb)
def C_sat_Add : List (Nat × List Nat) := []
def D_sat_Add : List (Nat × List Nat) := []
def B_sat_Add (a0 : Int) (b1 : Int) : M Value :=
  mBind (N_math_bits_Add64 a0 b1 (0 : Int)) fun r10 =>
  un2 (unI .u64) (unI .u64) r10 fun (x10_0 : Int) (x10_1 : Int) =>
  mIf (decide (x10_1 > (0 : Int))) (
    mRet (.int .u64 (18446744073709551615 : Int))) (
    mRet (.int .u64 x10_0))
theorem E_sat_Add (a0 : Int) (b1 : Int) : ev Try.prog 75 Try.f75.results.toList C_sat_Add D_sat_Add 400 false [.code (bodyOf Try.f75)] (List.map some [.int .u64 a0, .int .u64 b1] ++ List.replicate (Try.f75.ntmps - List.length ([.int .u64 a0, .int .u64 b1] : List Value)) none) = B_sat_Add a0 b1 := by kernel_rfl
theorem S_sat_Add (a0 : Int) (b1 : Int) {h : Hp} {Q : Value → Hp → Prop} (hb : B_sat_Add a0 b1 h Q) : N_sat_Add a0 b1 h Q :=
  Nf.of_ev Try.call75 Try.func75 (c := bodyOf Try.f75) rfl mixed C_sat_Add D_sat_Add 400 (args := [.int .u64 a0, .int .u64 b1]) (by rw [E_sat_Add]; exact hb)
def C_sat_Mul : List (Nat × List Nat) := []
def D_sat_Mul : List (Nat × List Nat) := []
def B_sat_Mul (a0 : Int) (b1 : Int) : M Value :=
  mBind (N_math_bits_Mul64 a0 b1) fun r10 =>
  un2 (unI .u64) (unI .u64) r10 fun (x10_0 : Int) (x10_1 : Int) =>
  mIf (decide (x10_0 > (0 : Int))) (
    mRet (.int .u64 (18446744073709551615 : Int))) (
    mRet (.int .u64 x10_1))
theorem E_sat_Mul (a0 : Int) (b1 : Int) : ev Try.prog 76 Try.f76.results.toList C_sat_Mul D_sat_Mul 400 false [.code (bodyOf Try.f76)] (List.map some [.int .u64 a0, .int .u64 b1] ++ List.replicate (Try.f76.ntmps - List.length ([.int .u64 a0, .int .u64 b1] : List Value)) none) = B_sat_Mul a0 b1 := by kernel_rfl
theorem S_sat_Mul (a0 : Int) (b1 : Int) {h : Hp} {Q : Value → Hp → Prop} (hb : B_sat_Mul a0 b1 h Q) : N_sat_Mul a0 b1 h Q :=
  Nf.of_ev Try.call76 Try.func76 (c := bodyOf Try.f76) rfl mixed C_sat_Mul D_sat_Mul 400 (args := [.int .u64 a0, .int .u64 b1]) (by rw [E_sat_Mul]; exact hb)
def C_sat_Ceil : List (Nat × List Nat) := []
def D_sat_Ceil : List (Nat × List Nat) := []
def B_sat_Ceil (a0 : Int) (b1 : Int) : M Value :=
  mIf (a0 == (0 : Int)) (
    mRet (.int .u64 (0 : Int))) (
    mIf ((b1 == (0 : Int)) || (a0 == (18446744073709551615 : Int))) (
      mRet (.int .u64 (18446744073709551615 : Int))) (
      mGuard (b1 ≠ 0) <|
      mRet (.int .u64 (IntKind.u64.wrap ((IntKind.u64.wrap (Int.tdiv (IntKind.u64.wrap (a0 - (1 : Int))) b1)) + (1 : Int))))))
theorem E_sat_Ceil (a0 : Int) (b1 : Int) : ev Try.prog 77 Try.f77.results.toList C_sat_Ceil D_sat_Ceil 400 false [.code (bodyOf Try.f77)] (List.map some [.int .u64 a0, .int .u64 b1] ++ List.replicate (Try.f77.ntmps - List.length ([.int .u64 a0, .int .u64 b1] : List Value)) none) = B_sat_Ceil a0 b1 := by kernel_rfl
theorem S_sat_Ceil (a0 : Int) (b1 : Int) {h : Hp} {Q : Value → Hp → Prop} (hb : B_sat_Ceil a0 b1 h Q) : N_sat_Ceil a0 b1 h Q :=
  Nf.of_ev Try.call77 Try.func77 (c := bodyOf Try.f77) rfl mixed C_sat_Ceil D_sat_Ceil 400 (args := [.int .u64 a0, .int .u64 b1]) (by rw [E_sat_Ceil]; exact hb)
def C_signalboxref01_Add : List (Nat × List Nat) := []
def D_signalboxref01_Add : List (Nat × List Nat) := []
def B_signalboxref01_Add (a0 : Int) (b1 : Int) : M Value :=
  mIf (decide (a0 > (IntKind.u64.wrap ((18446744073709551615 : Int) - b1)))) (
    mRet (.int .u64 (18446744073709551615 : Int))) (
    mRet (.int .u64 (IntKind.u64.wrap (a0 + b1))))
theorem E_signalboxref01_Add (a0 : Int) (b1 : Int) : ev Try.prog 78 Try.f78.results.toList C_signalboxref01_Add D_signalboxref01_Add 400 false [.code (bodyOf Try.f78)] (List.map some [.int .u64 a0, .int .u64 b1] ++ List.replicate (Try.f78.ntmps - List.length ([.int .u64 a0, .int .u64 b1] : List Value)) none) = B_signalboxref01_Add a0 b1 := by kernel_rfl
theorem S_signalboxref01_Add (a0 : Int) (b1 : Int) {h : Hp} {Q : Value → Hp → Prop} (hb : B_signalboxref01_Add a0 b1 h Q) : N_signalboxref01_Add a0 b1 h Q :=
  Nf.of_ev Try.call78 Try.func78 (c := bodyOf Try.f78) rfl mixed C_signalboxref01_Add D_signalboxref01_Add 400 (args := [.int .u64 a0, .int .u64 b1]) (by rw [E_signalboxref01_Add]; exact hb)
def C_signalboxref01_Mul : List (Nat × List Nat) := []
def D_signalboxref01_Mul : List (Nat × List Nat) := []
def B_signalboxref01_Mul (a0 : Int) (b1 : Int) : M Value :=
  mIf ((a0 == (0 : Int)) || (b1 == (0 : Int))) (
    mRet (.int .u64 (0 : Int))) (
    mGuard ((2 : Int) ≠ 0) <|
    mIf ((Int.tmod b1 (2 : Int)) == (0 : Int)) (
      mGuard ((2 : Int) ≠ 0) <|
      mBind (N_signalboxref01_Mul a0 (IntKind.u64.wrap (Int.tdiv b1 (2 : Int)))) fun r18 =>
      unI .u64 r18 fun (x18 : Int) =>
      mBind (N_signalboxref01_Add x18 x18) fun r21 =>
      unI .u64 r21 fun (x21 : Int) =>
      mRet (.int .u64 x21)) (
      mBind (N_signalboxref01_Mul a0 (IntKind.u64.wrap (b1 - (1 : Int)))) fun r26 =>
      unI .u64 r26 fun (x26 : Int) =>
      mBind (N_signalboxref01_Add a0 x26) fun r27 =>
      unI .u64 r27 fun (x27 : Int) =>
      mRet (.int .u64 x27)))
theorem E_signalboxref01_Mul (a0 : Int) (b1 : Int) : ev Try.prog 79 Try.f79.results.toList C_signalboxref01_Mul D_signalboxref01_Mul 400 false [.code (bodyOf Try.f79)] (List.map some [.int .u64 a0, .int .u64 b1] ++ List.replicate (Try.f79.ntmps - List.length ([.int .u64 a0, .int .u64 b1] : List Value)) none) = B_signalboxref01_Mul a0 b1 := by kernel_rfl
theorem S_signalboxref01_Mul (a0 : Int) (b1 : Int) {h : Hp} {Q : Value → Hp → Prop} (hb : B_signalboxref01_Mul a0 b1 h Q) : N_signalboxref01_Mul a0 b1 h Q :=
  Nf.of_ev Try.call79 Try.func79 (c := bodyOf Try.f79) rfl mixed C_signalboxref01_Mul D_signalboxref01_Mul 400 (args := [.int .u64 a0, .int .u64 b1]) (by rw [E_signalboxref01_Mul]; exact hb)
def C_signalboxref01_Ceil : List (Nat × List Nat) := []
def D_signalboxref01_Ceil : List (Nat × List Nat) := []
def B_signalboxref01_Ceil (a0 : Int) (b1 : Int) : M Value :=
  mIf (a0 == (0 : Int)) (
    mRet (.int .u64 (0 : Int))) (
    mIf ((b1 == (0 : Int)) || (a0 == (18446744073709551615 : Int))) (
      mRet (.int .u64 (18446744073709551615 : Int))) (
      mGuard (b1 ≠ 0) <|
      mIf ((IntKind.u64.wrap ((IntKind.u64.wrap (Int.tdiv a0 b1)) * b1)) != a0) (
        mRet (.int .u64 (IntKind.u64.wrap ((IntKind.u64.wrap (Int.tdiv a0 b1)) + (1 : Int))))) (
        mRet (.int .u64 (IntKind.u64.wrap (Int.tdiv a0 b1))))))
theorem E_signalboxref01_Ceil (a0 : Int) (b1 : Int) : ev Try.prog 80 Try.f80.results.toList C_signalboxref01_Ceil D_signalboxref01_Ceil 400 false [.code (bodyOf Try.f80)] (List.map some [.int .u64 a0, .int .u64 b1] ++ List.replicate (Try.f80.ntmps - List.length ([.int .u64 a0, .int .u64 b1] : List Value)) none) = B_signalboxref01_Ceil a0 b1 := by kernel_rfl
theorem S_signalboxref01_Ceil (a0 : Int) (b1 : Int) {h : Hp} {Q : Value → Hp → Prop} (hb : B_signalboxref01_Ceil a0 b1 h Q) : N_signalboxref01_Ceil a0 b1 h Q :=
  Nf.of_ev Try.call80 Try.func80 (c := bodyOf Try.f80) rfl mixed C_signalboxref01_Ceil D_signalboxref01_Ceil 400 (args := [.int .u64 a0, .int .u64 b1]) (by rw [E_signalboxref01_Ceil]; exact hb)
def C_sat_Least : List (Nat × List Nat) := [(3, [0, 2, 8, 11])]
def D_sat_Least : List (Nat × List Nat) := []
def T_sat_Least_3 (step0g : Nat) (step0f : Array Value) (step0c : Array Value) (most2 : Int) (x8 : Int) (t11 : Int) : Env := mkEnv [(0, .func (.func step0g) step0f step0c), (2, .int .u64 most2), (8, .int .u64 x8), (11, .int .i64 t11)] 25 0
def K_sat_Least_3 (step0g : Nat) (step0f : Array Value) (step0c : Array Value) (most2 : Int) (x8 : Int) (t11 : Int) : M Value := Cut Try.prog 81 (todoOf Try.f81 3) (T_sat_Least_3 step0g step0f step0c most2 x8 t11)
def B_sat_Least (step0g : Nat) (step0f : Array Value) (step0c : Array Value) (from1 : Int) (most2 : Int) : M Value :=
  K_sat_Least_3 step0g step0f step0c most2 from1 (0 : Int)
def B_sat_Least_3 (step0g : Nat) (step0f : Array Value) (step0c : Array Value) (most2 : Int) (x8 : Int) (t11 : Int) : M Value :=
  mIf (decide (t11 < (1048576 : Int))) (
    mIf (decide (x8 > most2)) (
      mRet (.tuple #[.int .u64 (18446744073709551615 : Int), .bool false])) (
      mBind (Nf Try.prog step0g (step0f ++ #[.int .u64 x8] ++ step0c)) fun r18 =>
      unI .u64 r18 fun (x18 : Int) =>
      mIf (decide (x18 ≤ x8)) (
        mRet (.tuple #[.int .u64 x8, .bool true])) (
        K_sat_Least_3 step0g step0f step0c most2 x18 (IntKind.i64.wrap (t11 + (1 : Int)))))) (
    mRet (.tuple #[.int .u64 (18446744073709551615 : Int), .bool false]))
theorem E_sat_Least (step0g : Nat) (step0f : Array Value) (step0c : Array Value) (from1 : Int) (most2 : Int) : ev Try.prog 81 Try.f81.results.toList C_sat_Least D_sat_Least 400 false [.code (bodyOf Try.f81)] (List.map some [.func (.func step0g) step0f step0c, .int .u64 from1, .int .u64 most2] ++ List.replicate (Try.f81.ntmps - List.length ([.func (.func step0g) step0f step0c, .int .u64 from1, .int .u64 most2] : List Value)) none) = B_sat_Least step0g step0f step0c from1 most2 := by kernel_rfl
theorem S_sat_Least (step0g : Nat) (step0f : Array Value) (step0c : Array Value) (from1 : Int) (most2 : Int) {h : Hp} {Q : Value → Hp → Prop} (hb : B_sat_Least step0g step0f step0c from1 most2 h Q) : N_sat_Least step0g step0f step0c from1 most2 h Q :=
  Nf.of_ev Try.call81 Try.func81 (c := bodyOf Try.f81) rfl mixed C_sat_Least D_sat_Least 400 (args := [.func (.func step0g) step0f step0c, .int .u64 from1, .int .u64 most2]) (by rw [E_sat_Least]; exact hb)
theorem E_sat_Least_3 (step0g : Nat) (step0f : Array Value) (step0c : Array Value) (most2 : Int) (x8 : Int) (t11 : Int) : ev Try.prog 81 Try.f81.results.toList C_sat_Least D_sat_Least 400 true (todoOf Try.f81 3) (T_sat_Least_3 step0g step0f step0c most2 x8 t11) = B_sat_Least_3 step0g step0f step0c most2 x8 t11 := by kernel_rfl
theorem S_sat_Least_3 (step0g : Nat) (step0f : Array Value) (step0c : Array Value) (most2 : Int) (x8 : Int) (t11 : Int) {h : Hp} {Q : Value → Hp → Prop} (hb : B_sat_Least_3 step0g step0f step0c most2 x8 t11 h Q) : K_sat_Least_3 step0g step0f step0c most2 x8 t11 h Q :=
  Cut.of_ev Try.func81 mixed C_sat_Least D_sat_Least 400 (by rw [E_sat_Least_3]; exact hb)
def C_busy_work_demand : List (Nat × List Nat) := []
def D_busy_work_demand : List (Nat × List Nat) := []
def B_busy_work_demand (w0_0 : Int) (w0_1 : Sl) (x1 : Int) : M Value :=
  mNew #[.int .u64 w0_0, .slice w0_1.p w0_1.n w0_1.c] 128 fun (x2 : Addr) =>
  mLdI .u64 x2 fun (x6 : Int) =>
  mLdL (x2.add 1) fun (x8 : Sl) =>
  mBind (N_busy_Demand x6 x8 x1) fun r10 =>
  unI .u64 r10 fun (x10 : Int) =>
  mRet (.int .u64 x10)
theorem E_busy_work_demand (w0_0 : Int) (w0_1 : Sl) (x1 : Int) : ev Try.prog 82 Try.f82.results.toList C_busy_work_demand D_busy_work_demand 400 false [.code (bodyOf Try.f82)] (List.map some [.agg #[.int .u64 w0_0, .slice w0_1.p w0_1.n w0_1.c], .int .u64 x1] ++ List.replicate (Try.f82.ntmps - List.length ([.agg #[.int .u64 w0_0, .slice w0_1.p w0_1.n w0_1.c], .int .u64 x1] : List Value)) none) = B_busy_work_demand w0_0 w0_1 x1 := by kernel_rfl
theorem S_busy_work_demand (w0_0 : Int) (w0_1 : Sl) (x1 : Int) {h : Hp} {Q : Value → Hp → Prop} (hb : B_busy_work_demand w0_0 w0_1 x1 h Q) : N_busy_work_demand w0_0 w0_1 x1 h Q :=
  Nf.of_ev Try.call82 Try.func82 (c := bodyOf Try.f82) rfl mixed C_busy_work_demand D_busy_work_demand 400 (args := [.agg #[.int .u64 w0_0, .slice w0_1.p w0_1.n w0_1.c], .int .u64 x1]) (by rw [E_busy_work_demand]; exact hb)

def C_math_bits_Mul64 : List (Nat × List Nat) := []
def D_math_bits_Mul64 : List (Nat × List Nat) := []
def B_math_bits_Mul64 (x0 : Int) (y1 : Int) : M Value :=
  mGuard (0 ≤ (32 : Int)) <|
  mGuard (0 ≤ (32 : Int)) <|
  mGuard (0 ≤ (32 : Int)) <|
  mGuard (0 ≤ (32 : Int)) <|
  mGuard (0 ≤ (32 : Int)) <|
  mRet (.tuple #[.int .u64 (IntKind.u64.wrap ((IntKind.u64.wrap ((IntKind.u64.wrap ((ishr .u64 x0 (32 : Int)) * (ishr .u64 y1 (32 : Int)))) + (ishr .u64 (IntKind.u64.wrap ((IntKind.u64.wrap ((ishr .u64 x0 (32 : Int)) * (iand .u64 y1 (4294967295 : Int)))) + (ishr .u64 (IntKind.u64.wrap ((iand .u64 x0 (4294967295 : Int)) * (iand .u64 y1 (4294967295 : Int)))) (32 : Int)))) (32 : Int)))) + (ishr .u64 (IntKind.u64.wrap ((iand .u64 (IntKind.u64.wrap ((IntKind.u64.wrap ((ishr .u64 x0 (32 : Int)) * (iand .u64 y1 (4294967295 : Int)))) + (ishr .u64 (IntKind.u64.wrap ((iand .u64 x0 (4294967295 : Int)) * (iand .u64 y1 (4294967295 : Int)))) (32 : Int)))) (4294967295 : Int)) + (IntKind.u64.wrap ((iand .u64 x0 (4294967295 : Int)) * (ishr .u64 y1 (32 : Int)))))) (32 : Int)))), .int .u64 (IntKind.u64.wrap (x0 * y1))])
theorem E_math_bits_Mul64 (x0 : Int) (y1 : Int) : ev Try.prog 89 Try.f89.results.toList C_math_bits_Mul64 D_math_bits_Mul64 400 false [.code (bodyOf Try.f89)] (List.map some [.int .u64 x0, .int .u64 y1] ++ List.replicate (Try.f89.ntmps - List.length ([.int .u64 x0, .int .u64 y1] : List Value)) none) = B_math_bits_Mul64 x0 y1 := by kernel_rfl
theorem S_math_bits_Mul64 (x0 : Int) (y1 : Int) {h : Hp} {Q : Value → Hp → Prop} (hb : B_math_bits_Mul64 x0 y1 h Q) : N_math_bits_Mul64 x0 y1 h Q :=
  Nf.of_ev Try.call89 Try.func89 (c := bodyOf Try.f89) rfl mixed C_math_bits_Mul64 D_math_bits_Mul64 400 (args := [.int .u64 x0, .int .u64 y1]) (by rw [E_math_bits_Mul64]; exact hb)
def C_signalboxlaw25_BusyWindows : List (Nat × List Nat) := []
def D_signalboxlaw25_BusyWindows : List (Nat × List Nat) := []
def B_signalboxlaw25_BusyWindows (delay0 : Int) (l1 : Sl) (x2 : Int) (most3 : Int) : M Value :=
  mBind (N_signalboxlaw25_fixed) fun r14 =>
  unB r14 fun (x14 : Bool) =>
  mIf (!x14) (
    mRet (.bool false)) (
    mIf ((decide ((l1.n : Int) > (12 : Int))) || (decide (most3 > (1500 : Int)))) (
      mRet (.bool true)) (
      mBind (N_signalboxlaw25_split l1) fun r25 =>
      un2 unL unL r25 fun (x25_0 : Sl) (x25_1 : Sl) =>
      mBind (N_busy_Demand delay0 l1 x2) fun r31 =>
      unI .u64 r31 fun (x31 : Int) =>
      mBind (N_signalboxref25_Demand delay0 x25_0 x25_1 x2) fun r36 =>
      unI .u64 r36 fun (x36 : Int) =>
      mIf (x31 != x36) (
        mRet (.bool false)) (
        mBind (N_busy_Window delay0 l1 most3) fun r42 =>
        un2 (unI .u64) unB r42 fun (x42_0 : Int) (x42_1 : Bool) =>
        mBind (N_signalboxref25_Window delay0 x25_0 x25_1 most3) fun r49 =>
        unI .u64 r49 fun (x49 : Int) =>
        mIf (x49 == (0 : Int)) (
          mRet (.bool ((!x42_1) && (x42_0 == (18446744073709551615 : Int))))) (
          mRet (.bool (x42_1 && (x42_0 == x49)))))))
theorem E_signalboxlaw25_BusyWindows (delay0 : Int) (l1 : Sl) (x2 : Int) (most3 : Int) : ev Try.prog 11 Try.f11.results.toList C_signalboxlaw25_BusyWindows D_signalboxlaw25_BusyWindows 400 false [.code (bodyOf Try.f11)] (List.map some [.int .u64 delay0, .slice l1.p l1.n l1.c, .int .u64 x2, .int .u64 most3] ++ List.replicate (Try.f11.ntmps - List.length ([.int .u64 delay0, .slice l1.p l1.n l1.c, .int .u64 x2, .int .u64 most3] : List Value)) none) = B_signalboxlaw25_BusyWindows delay0 l1 x2 most3 := by kernel_rfl
theorem S_signalboxlaw25_BusyWindows (delay0 : Int) (l1 : Sl) (x2 : Int) (most3 : Int) {h : Hp} {Q : Value → Hp → Prop} (hb : B_signalboxlaw25_BusyWindows delay0 l1 x2 most3 h Q) : N_signalboxlaw25_BusyWindows delay0 l1 x2 most3 h Q :=
  Nf.of_ev Try.call11 Try.func11 (c := bodyOf Try.f11) rfl mixed C_signalboxlaw25_BusyWindows D_signalboxlaw25_BusyWindows 400 (args := [.int .u64 delay0, .slice l1.p l1.n l1.c, .int .u64 x2, .int .u64 most3]) (by rw [E_signalboxlaw25_BusyWindows]; exact hb)
def C_signalboxlaw25_BusySlacks : List (Nat × List Nat) := []
def D_signalboxlaw25_BusySlacks : List (Nat × List Nat) := []
def B_signalboxlaw25_BusySlacks (l0 : Sl) (most1 : Int) : M Value :=
  mBind (N_signalboxlaw25_fixed) fun r9 =>
  unB r9 fun (x9 : Bool) =>
  mIf (!x9) (
    mRet (.bool false)) (
    mIf ((decide ((l0.n : Int) > (12 : Int))) || (decide (most1 > (1000 : Int)))) (
      mRet (.bool true)) (
      mBind (N_signalboxlaw25_split l0) fun r20 =>
      un2 unL unL r20 fun (x20_0 : Sl) (x20_1 : Sl) =>
      mBind (N_busy_Slack l0 most1) fun r26 =>
      un2 (unI .u64) unB r26 fun (x26_0 : Int) (x26_1 : Bool) =>
      mBind (N_signalboxref25_Window (0 : Int) x20_0 x20_1 most1) fun r32 =>
      unI .u64 r32 fun (x32 : Int) =>
      mIf (x32 == (0 : Int)) (
        mRet (.bool ((!x26_1) && (x26_0 == (0 : Int))))) (
        mBind (mIf (x26_1 && (decide (x26_0 ≤ most1))) (mBind (N_signalboxref25_Window x26_0 x20_0 x20_1 most1) fun r51 =>
          unI .u64 r51 fun (x51 : Int) =>
          mRet (decide (x51 > (0 : Int)))) (mRet false)) fun (b6 : Bool) =>
        mBind (mIf b6 (mBind (mIf (x26_0 == most1) (mRet true) (mBind (N_signalboxref25_Window (IntKind.u64.wrap (x26_0 + (1 : Int))) x20_0 x20_1 most1) fun r64 =>
          unI .u64 r64 fun (x64 : Int) =>
          mRet (x64 == (0 : Int)))) fun (b8 : Bool) =>
          mRet b8) (mRet false)) fun (b9 : Bool) =>
        mRet (.bool b9))))
theorem E_signalboxlaw25_BusySlacks (l0 : Sl) (most1 : Int) : ev Try.prog 12 Try.f12.results.toList C_signalboxlaw25_BusySlacks D_signalboxlaw25_BusySlacks 400 false [.code (bodyOf Try.f12)] (List.map some [.slice l0.p l0.n l0.c, .int .u64 most1] ++ List.replicate (Try.f12.ntmps - List.length ([.slice l0.p l0.n l0.c, .int .u64 most1] : List Value)) none) = B_signalboxlaw25_BusySlacks l0 most1 := by kernel_rfl
theorem S_signalboxlaw25_BusySlacks (l0 : Sl) (most1 : Int) {h : Hp} {Q : Value → Hp → Prop} (hb : B_signalboxlaw25_BusySlacks l0 most1 h Q) : N_signalboxlaw25_BusySlacks l0 most1 h Q :=
  Nf.of_ev Try.call12 Try.func12 (c := bodyOf Try.f12) rfl mixed C_signalboxlaw25_BusySlacks D_signalboxlaw25_BusySlacks 400 (args := [.slice l0.p l0.n l0.c, .int .u64 most1]) (by rw [E_signalboxlaw25_BusySlacks]; exact hb)
def C_signalboxlaw25_BusyRises : List (Nat × List Nat) := [(8, [9, 10, 11, 12, 13, 14])]
def D_signalboxlaw25_BusyRises : List (Nat × List Nat) := [(7, [])]
def T_signalboxlaw25_BusyRises_8 (a9 : Int) (ok10 : Bool) (b11 : Int) (is12 : Bool) (c13 : Int) (no14 : Bool) : Env := mkEnv [(9, .int .u64 a9), (10, .bool ok10), (11, .int .u64 b11), (12, .bool is12), (13, .int .u64 c13), (14, .bool no14)] 68 0
def K_signalboxlaw25_BusyRises_8 (a9 : Int) (ok10 : Bool) (b11 : Int) (is12 : Bool) (c13 : Int) (no14 : Bool) : M Value := Cut Try.prog 13 (todoOf Try.f13 8) (T_signalboxlaw25_BusyRises_8 a9 ok10 b11 is12 c13 no14)
def B_signalboxlaw25_BusyRises (delay0 : Int) (more1 : Int) (l2 : Sl) (x3_0 : Int) (x3_1 : Int) : M Value :=
  mNew #[.int .u64 x3_0, .int .u64 x3_1] 95 fun (x7 : Addr) =>
  mBind (N_signalboxlaw25_fixed) fun r15 =>
  unB r15 fun (x15 : Bool) =>
  mIf (!x15) (
    mRet (.bool false)) (
    mIf (decide ((l2.n : Int) > (12 : Int))) (
      mRet (.bool true)) (
      mBind (N_busy_Window (IntKind.u64.wrap delay0) l2 (5000 : Int)) fun r24 =>
      un2 (unI .u64) unB r24 fun (x24_0 : Int) (x24_1 : Bool) =>
      mBind (N_busy_Window (IntKind.u64.wrap ((IntKind.u64.wrap delay0) + (IntKind.u64.wrap more1))) l2 (5000 : Int)) fun r34 =>
      un2 (unI .u64) unB r34 fun (x34_0 : Int) (x34_1 : Bool) =>
      mAnd (
        mNew #[] 95 fun (x40_20 : Addr) =>
        mAnd (
          mApp 95 2 16 #[.int .u64 (0 : Int), .int .u64 (0 : Int)] ⟨(some x40_20), 0, 0⟩ l2 fun (x42_30 : Sl) =>
          mLdI .u64 x7 fun (x43_31_0 : Int) =>
          mLdI .u64 (x7.add 1) fun (x43_31_1 : Int) =>
          mNew #[.int .u64 x43_31_0, .int .u64 x43_31_1] 95 fun (x44_32 : Addr) =>
          mApp 95 2 16 #[.int .u64 (0 : Int), .int .u64 (0 : Int)] x42_30 ⟨(some x44_32), 1, 1⟩ fun (x45_33 : Sl) =>
          mBind (N_busy_Window (IntKind.u64.wrap delay0) x45_33 (5000 : Int)) fun r46_34 =>
          un2 (unI .u64) unB r46_34 fun (x46_34_0 : Int) (x46_34_1 : Bool) =>
          K_signalboxlaw25_BusyRises_8 x24_0 x24_1 x34_0 x34_1 x46_34_0 x46_34_1) (
          mLdI .u64 x7 fun (x43_21_0 : Int) =>
          mLdI .u64 (x7.add 1) fun (x43_21_1 : Int) =>
          mAnd (
            mApp 95 2 16 #[.int .u64 (0 : Int), .int .u64 (0 : Int)] ⟨(some x40_20), 0, 0⟩ l2 fun (x42_26 : Sl) =>
            mNew #[.int .u64 x43_21_0, .int .u64 x43_21_1] 95 fun (x44_27 : Addr) =>
            mApp 95 2 16 #[.int .u64 (0 : Int), .int .u64 (0 : Int)] x42_26 ⟨(some x44_27), 1, 1⟩ fun (x45_28 : Sl) =>
            mBind (N_busy_Window (IntKind.u64.wrap delay0) x45_28 (5000 : Int)) fun r46_29 =>
            un2 (unI .u64) unB r46_29 fun (x46_29_0 : Int) (x46_29_1 : Bool) =>
            K_signalboxlaw25_BusyRises_8 x24_0 x24_1 x34_0 x34_1 x46_29_0 x46_29_1) (
            mNew #[.int .u64 x43_21_0, .int .u64 x43_21_1] 95 fun (x44_22 : Addr) =>
            mApp 95 2 16 #[.int .u64 (0 : Int), .int .u64 (0 : Int)] ⟨(some x40_20), 0, 0⟩ l2 fun (x42_23 : Sl) =>
            mApp 95 2 16 #[.int .u64 (0 : Int), .int .u64 (0 : Int)] x42_23 ⟨(some x44_22), 1, 1⟩ fun (x45_24 : Sl) =>
            mBind (N_busy_Window (IntKind.u64.wrap delay0) x45_24 (5000 : Int)) fun r46_25 =>
            un2 (unI .u64) unB r46_25 fun (x46_25_0 : Int) (x46_25_1 : Bool) =>
            K_signalboxlaw25_BusyRises_8 x24_0 x24_1 x34_0 x34_1 x46_25_0 x46_25_1))) (
        mLdI .u64 x7 fun (x43_0 : Int) =>
        mLdI .u64 (x7.add 1) fun (x43_1 : Int) =>
        mAnd (
          mNew #[] 95 fun (x40_11 : Addr) =>
          mAnd (
            mApp 95 2 16 #[.int .u64 (0 : Int), .int .u64 (0 : Int)] ⟨(some x40_11), 0, 0⟩ l2 fun (x42_16 : Sl) =>
            mNew #[.int .u64 x43_0, .int .u64 x43_1] 95 fun (x44_17 : Addr) =>
            mApp 95 2 16 #[.int .u64 (0 : Int), .int .u64 (0 : Int)] x42_16 ⟨(some x44_17), 1, 1⟩ fun (x45_18 : Sl) =>
            mBind (N_busy_Window (IntKind.u64.wrap delay0) x45_18 (5000 : Int)) fun r46_19 =>
            un2 (unI .u64) unB r46_19 fun (x46_19_0 : Int) (x46_19_1 : Bool) =>
            K_signalboxlaw25_BusyRises_8 x24_0 x24_1 x34_0 x34_1 x46_19_0 x46_19_1) (
            mNew #[.int .u64 x43_0, .int .u64 x43_1] 95 fun (x44_12 : Addr) =>
            mApp 95 2 16 #[.int .u64 (0 : Int), .int .u64 (0 : Int)] ⟨(some x40_11), 0, 0⟩ l2 fun (x42_13 : Sl) =>
            mApp 95 2 16 #[.int .u64 (0 : Int), .int .u64 (0 : Int)] x42_13 ⟨(some x44_12), 1, 1⟩ fun (x45_14 : Sl) =>
            mBind (N_busy_Window (IntKind.u64.wrap delay0) x45_14 (5000 : Int)) fun r46_15 =>
            un2 (unI .u64) unB r46_15 fun (x46_15_0 : Int) (x46_15_1 : Bool) =>
            K_signalboxlaw25_BusyRises_8 x24_0 x24_1 x34_0 x34_1 x46_15_0 x46_15_1)) (
          mNew #[.int .u64 x43_0, .int .u64 x43_1] 95 fun (x44 : Addr) =>
          mNew #[] 95 fun (x40 : Addr) =>
          mApp 95 2 16 #[.int .u64 (0 : Int), .int .u64 (0 : Int)] ⟨(some x40), 0, 0⟩ l2 fun (x42 : Sl) =>
          mApp 95 2 16 #[.int .u64 (0 : Int), .int .u64 (0 : Int)] x42 ⟨(some x44), 1, 1⟩ fun (x45 : Sl) =>
          mBind (N_busy_Window (IntKind.u64.wrap delay0) x45 (5000 : Int)) fun r46 =>
          un2 (unI .u64) unB r46 fun (x46_0 : Int) (x46_1 : Bool) =>
          K_signalboxlaw25_BusyRises_8 x24_0 x24_1 x34_0 x34_1 x46_0 x46_1))))
def B_signalboxlaw25_BusyRises_8 (a9 : Int) (ok10 : Bool) (b11 : Int) (is12 : Bool) (c13 : Int) (no14 : Bool) : M Value :=
  mBind (mIf ((decide (a9 ≤ b11)) && (decide (a9 ≤ c13))) (mBind (mIf ok10 (mRet true) (mRet ((!is12) && (!no14)))) fun (b35 : Bool) =>
    mRet b35) (mRet false)) fun (b36 : Bool) =>
  mRet (.bool b36)
theorem E_signalboxlaw25_BusyRises (delay0 : Int) (more1 : Int) (l2 : Sl) (x3_0 : Int) (x3_1 : Int) : ev Try.prog 13 Try.f13.results.toList C_signalboxlaw25_BusyRises D_signalboxlaw25_BusyRises 400 false [.code (bodyOf Try.f13)] (List.map some [.int .u32 delay0, .int .u32 more1, .slice l2.p l2.n l2.c, .agg #[.int .u64 x3_0, .int .u64 x3_1]] ++ List.replicate (Try.f13.ntmps - List.length ([.int .u32 delay0, .int .u32 more1, .slice l2.p l2.n l2.c, .agg #[.int .u64 x3_0, .int .u64 x3_1]] : List Value)) none) = B_signalboxlaw25_BusyRises delay0 more1 l2 x3_0 x3_1 := by kernel_rfl
theorem S_signalboxlaw25_BusyRises (delay0 : Int) (more1 : Int) (l2 : Sl) (x3_0 : Int) (x3_1 : Int) {h : Hp} {Q : Value → Hp → Prop} (hb : B_signalboxlaw25_BusyRises delay0 more1 l2 x3_0 x3_1 h Q) : N_signalboxlaw25_BusyRises delay0 more1 l2 x3_0 x3_1 h Q :=
  Nf.of_ev Try.call13 Try.func13 (c := bodyOf Try.f13) rfl mixed C_signalboxlaw25_BusyRises D_signalboxlaw25_BusyRises 400 (args := [.int .u32 delay0, .int .u32 more1, .slice l2.p l2.n l2.c, .agg #[.int .u64 x3_0, .int .u64 x3_1]]) (by rw [E_signalboxlaw25_BusyRises]; exact hb)
theorem E_signalboxlaw25_BusyRises_8 (a9 : Int) (ok10 : Bool) (b11 : Int) (is12 : Bool) (c13 : Int) (no14 : Bool) : ev Try.prog 13 Try.f13.results.toList C_signalboxlaw25_BusyRises D_signalboxlaw25_BusyRises 400 true (todoOf Try.f13 8) (T_signalboxlaw25_BusyRises_8 a9 ok10 b11 is12 c13 no14) = B_signalboxlaw25_BusyRises_8 a9 ok10 b11 is12 c13 no14 := by kernel_rfl
theorem S_signalboxlaw25_BusyRises_8 (a9 : Int) (ok10 : Bool) (b11 : Int) (is12 : Bool) (c13 : Int) (no14 : Bool) {h : Hp} {Q : Value → Hp → Prop} (hb : B_signalboxlaw25_BusyRises_8 a9 ok10 b11 is12 c13 no14 h Q) : K_signalboxlaw25_BusyRises_8 a9 ok10 b11 is12 c13 no14 h Q :=
  Cut.of_ev Try.func13 mixed C_signalboxlaw25_BusyRises D_signalboxlaw25_BusyRises 400 (by rw [E_signalboxlaw25_BusyRises_8]; exact hb)
def C_signalboxlaw25_BusyWorks : List (Nat × List Nat) := [(6, [0, 1, 2, 33, 34, 35]), (18, [1, 2, 9, 11, 12, 13, 76, 77]), (27, [1, 2, 9, 11, 12, 13, 15]), (30, [1, 2, 9, 11, 12, 13, 15, 115, 116, 117])]
def D_signalboxlaw25_BusyWorks : List (Nat × List Nat) := [(34, [0, 1, 2, 3, 4, 5, 6, 7]), (36, [0, 1, 2, 3, 4, 5, 6, 7, 8, 9, 10, 11, 12, 13, 14, 15, 16])]
def T_signalboxlaw25_BusyWorks_6 (delay0 : Int) (l1 : Sl) (gaps2 : Sl) (t33 : Sl) (t34 : Int) (t35 : Int) : Env := mkEnv [(0, .int .u8 delay0), (1, .slice l1.p l1.n l1.c), (2, .slice gaps2.p gaps2.n gaps2.c), (33, .slice t33.p t33.n t33.c), (34, .int .i64 t34), (35, .int .i64 t35)] 186 0
def K_signalboxlaw25_BusyWorks_6 (delay0 : Int) (l1 : Sl) (gaps2 : Sl) (t33 : Sl) (t34 : Int) (t35 : Int) : M Value := Cut Try.prog 14 (todoOf Try.f14 6) (T_signalboxlaw25_BusyWorks_6 delay0 l1 gaps2 t33 t34 t35)
def T_signalboxlaw25_BusyWorks_18 (l1 : Sl) (gaps2 : Sl) (w9 : Int) (left11 : Int) (next12 : Sl) (at13 : Sl) (t76 : Int) (t77 : Int) : Env := mkEnv [(1, .slice l1.p l1.n l1.c), (2, .slice gaps2.p gaps2.n gaps2.c), (9, .int .u64 w9), (11, .int .u64 left11), (12, .slice next12.p next12.n next12.c), (13, .slice at13.p at13.n at13.c), (76, .int .i64 t76), (77, .int .i64 t77)] 186 0
def K_signalboxlaw25_BusyWorks_18 (l1 : Sl) (gaps2 : Sl) (w9 : Int) (left11 : Int) (next12 : Sl) (at13 : Sl) (t76 : Int) (t77 : Int) : M Value := Cut Try.prog 14 (todoOf Try.f14 18) (T_signalboxlaw25_BusyWorks_18 l1 gaps2 w9 left11 next12 at13 t76 t77)
def T_signalboxlaw25_BusyWorks_27 (l1 : Sl) (gaps2 : Sl) (w9 : Int) (left11 : Int) (next12 : Sl) (at13 : Sl) (t15 : Int) : Env := mkEnv [(1, .slice l1.p l1.n l1.c), (2, .slice gaps2.p gaps2.n gaps2.c), (9, .int .u64 w9), (11, .int .u64 left11), (12, .slice next12.p next12.n next12.c), (13, .slice at13.p at13.n at13.c), (15, .int .u64 t15)] 186 0
def K_signalboxlaw25_BusyWorks_27 (l1 : Sl) (gaps2 : Sl) (w9 : Int) (left11 : Int) (next12 : Sl) (at13 : Sl) (t15 : Int) : M Value := Cut Try.prog 14 (todoOf Try.f14 27) (T_signalboxlaw25_BusyWorks_27 l1 gaps2 w9 left11 next12 at13 t15)
def T_signalboxlaw25_BusyWorks_30 (l1 : Sl) (gaps2 : Sl) (w9 : Int) (left11 : Int) (next12 : Sl) (at13 : Sl) (t15 : Int) (t115 : Sl) (t116 : Int) (t117 : Int) : Env := mkEnv [(1, .slice l1.p l1.n l1.c), (2, .slice gaps2.p gaps2.n gaps2.c), (9, .int .u64 w9), (11, .int .u64 left11), (12, .slice next12.p next12.n next12.c), (13, .slice at13.p at13.n at13.c), (15, .int .u64 t15), (115, .slice t115.p t115.n t115.c), (116, .int .i64 t116), (117, .int .i64 t117)] 186 0
def K_signalboxlaw25_BusyWorks_30 (l1 : Sl) (gaps2 : Sl) (w9 : Int) (left11 : Int) (next12 : Sl) (at13 : Sl) (t15 : Int) (t115 : Sl) (t116 : Int) (t117 : Int) : M Value := Cut Try.prog 14 (todoOf Try.f14 30) (T_signalboxlaw25_BusyWorks_30 l1 gaps2 w9 left11 next12 at13 t15 t115 t116 t117)
def B_signalboxlaw25_BusyWorks (delay0 : Int) (l1 : Sl) (gaps2 : Sl) : M Value :=
  mBind (N_signalboxlaw25_fixed) fun r18 =>
  unB r18 fun (x18 : Bool) =>
  mIf (!x18) (
    mRet (.bool false)) (
    mIf (((decide ((l1.n : Int) > (8 : Int))) || (decide ((gaps2.n : Int) > (8 : Int)))) || ((l1.n : Int) == (0 : Int))) (
      mRet (.bool true)) (
      K_signalboxlaw25_BusyWorks_6 delay0 l1 gaps2 l1 (l1.n : Int) (0 : Int)))
def B_signalboxlaw25_BusyWorks_6 (delay0 : Int) (l1 : Sl) (gaps2 : Sl) (t33 : Sl) (t34 : Int) (t35 : Int) : M Value :=
  mIf (decide (t35 < t34)) (
    mIdx t33 t35 2 fun (x37 : Addr) =>
    mLdI .u64 x37 fun (x38_0 : Int) =>
    mLdI .u64 (x37.add 1) fun (x38_1 : Int) =>
    mNew #[.int .u64 (0 : Int), .int .u64 (0 : Int)] 95 fun (x8 : Addr) =>
    mSt x8 (.int .u64 x38_0) <|
    mSt (x8.add 1) (.int .u64 x38_1) <|
    mLdI .u64 x8 fun (x40 : Int) =>
    mBind (mIf (x40 == (0 : Int)) (mRet true) (mLdI .u64 (x8.add 1) fun (x44 : Int) =>
      mRet (x44 == (0 : Int)))) fun (b10 : Bool) =>
    mBind (mIf b10 (mRet true) (mLdI .u64 x8 fun (x49 : Int) =>
      mRet (decide (x49 > (1000 : Int))))) fun (b13 : Bool) =>
    mBind (mIf b13 (mRet true) (mLdI .u64 (x8.add 1) fun (x54 : Int) =>
      mRet (decide (x54 > (1000 : Int))))) fun (b16 : Bool) =>
    mIf b16 (
      mRet (.bool true)) (
      K_signalboxlaw25_BusyWorks_6 delay0 l1 gaps2 t33 t34 (IntKind.i64.wrap (t35 + (1 : Int))))) (
    mBind (N_busy_Window (IntKind.u64.wrap delay0) l1 (800 : Int)) fun r62 =>
    un2 (unI .u64) unB r62 fun (x62_0 : Int) (x62_1 : Bool) =>
    mIf (!x62_1) (
      mRet (.bool true)) (
      mMake 81 8 #[.int .u64 (0 : Int)] (l1.n : Int) (l1.n : Int) fun (x71 : Sl) =>
      mMake 3 8 #[.int .i64 (0 : Int)] (l1.n : Int) (l1.n : Int) fun (x74 : Sl) =>
      K_signalboxlaw25_BusyWorks_18 l1 gaps2 x62_0 (IntKind.u64.wrap delay0) x71 x74 (l1.n : Int) (0 : Int)))
def B_signalboxlaw25_BusyWorks_18 (l1 : Sl) (gaps2 : Sl) (w9 : Int) (left11 : Int) (next12 : Sl) (at13 : Sl) (t76 : Int) (t77 : Int) : M Value :=
  mIf (decide (t77 < t76)) (
    mBind (mIf (decide (t77 < (gaps2.n : Int))) (mIdx gaps2 t77 1 fun (x87 : Addr) =>
      mLdL x87 fun (x88 : Sl) =>
      mRet (decide ((x88.n : Int) > (0 : Int)))) (mRet false)) fun (b22 : Bool) =>
    mIf b22 (
      mIdx gaps2 t77 1 fun (x96 : Addr) =>
      mLdL x96 fun (x97 : Sl) =>
      mIdx x97 (0 : Int) 1 fun (x98 : Addr) =>
      mLdI .u8 x98 fun (x99 : Int) =>
      mIdx next12 t77 1 fun (x101 : Addr) =>
      mSt x101 (.int .u64 (IntKind.u64.wrap x99)) <|
      mIdx at13 t77 1 fun (x104 : Addr) =>
      mSt x104 (.int .i64 (1 : Int)) <|
      K_signalboxlaw25_BusyWorks_18 l1 gaps2 w9 left11 next12 at13 t76 (IntKind.i64.wrap (t77 + (1 : Int)))) (
      K_signalboxlaw25_BusyWorks_18 l1 gaps2 w9 left11 next12 at13 t76 (IntKind.i64.wrap (t77 + (1 : Int))))) (
    mIf (left11 == (0 : Int)) (
      mIdx next12 (0 : Int) 1 fun (x109 : Addr) =>
      mSt x109 (.int .u64 (0 : Int)) <|
      K_signalboxlaw25_BusyWorks_27 l1 gaps2 w9 left11 next12 at13 (0 : Int)) (
      K_signalboxlaw25_BusyWorks_27 l1 gaps2 w9 left11 next12 at13 (0 : Int)))
def B_signalboxlaw25_BusyWorks_27 (l1 : Sl) (gaps2 : Sl) (w9 : Int) (left11 : Int) (next12 : Sl) (at13 : Sl) (t15 : Int) : M Value :=
  mIf (decide (t15 < w9)) (
    K_signalboxlaw25_BusyWorks_30 l1 gaps2 w9 left11 next12 at13 t15 l1 (l1.n : Int) (0 : Int)) (
    mRet (.bool false))
def B_signalboxlaw25_BusyWorks_30 (l1 : Sl) (gaps2 : Sl) (w9 : Int) (left11 : Int) (next12 : Sl) (at13 : Sl) (t15 : Int) (t115 : Sl) (t116 : Int) (t117 : Int) : M Value :=
  mIf (decide (t117 < t116)) (
    mIdx t115 t117 2 fun (x120 : Addr) =>
    mLdI .u64 x120 fun (x121_0 : Int) =>
    mLdI .u64 (x120.add 1) fun (x121_1 : Int) =>
    mNew #[.int .u64 (0 : Int), .int .u64 (0 : Int)] 95 fun (x17 : Addr) =>
    mSt x17 (.int .u64 x121_0) <|
    mSt (x17.add 1) (.int .u64 x121_1) <|
    mIdx next12 t117 1 fun (x124 : Addr) =>
    mLdI .u64 x124 fun (x125 : Int) =>
    mIf (x125 != t15) (
      K_signalboxlaw25_BusyWorks_30 l1 gaps2 w9 left11 next12 at13 t15 t115 t116 (IntKind.i64.wrap (t117 + (1 : Int)))) (
      mLdI .u64 x17 fun (x130 : Int) =>
      mIdx next12 t117 1 fun (x134 : Addr) =>
      mLdI .u64 x134 fun (x135 : Int) =>
      mLdI .u64 (x17.add 1) fun (x137 : Int) =>
      mIdx next12 t117 1 fun (x139 : Addr) =>
      mSt x139 (.int .u64 (IntKind.u64.wrap (x135 + x137))) <|
      mBind (mIf (decide (t117 < (gaps2.n : Int))) (mIdx at13 t117 1 fun (x147 : Addr) =>
        mLdI .i64 x147 fun (x148 : Int) =>
        mIdx gaps2 t117 1 fun (x151 : Addr) =>
        mLdL x151 fun (x152 : Sl) =>
        mRet (decide (x148 < (x152.n : Int)))) (mRet false)) fun (b51 : Bool) =>
      mIf b51 (
        mIdx next12 t117 1 fun (x158 : Addr) =>
        mLdI .u64 x158 fun (x159 : Int) =>
        mIdx gaps2 t117 1 fun (x162 : Addr) =>
        mLdL x162 fun (x163 : Sl) =>
        mIdx at13 t117 1 fun (x166 : Addr) =>
        mLdI .i64 x166 fun (x167 : Int) =>
        mIdx x163 x167 1 fun (x168 : Addr) =>
        mLdI .u8 x168 fun (x169 : Int) =>
        mIdx next12 t117 1 fun (x172 : Addr) =>
        mSt x172 (.int .u64 (IntKind.u64.wrap (x159 + (IntKind.u64.wrap x169)))) <|
        mIdx at13 t117 1 fun (x175 : Addr) =>
        mLdI .i64 x175 fun (x176 : Int) =>
        mIdx at13 t117 1 fun (x178 : Addr) =>
        mSt x178 (.int .i64 (IntKind.i64.wrap (x176 + (1 : Int)))) <|
        K_signalboxlaw25_BusyWorks_30 l1 gaps2 w9 (IntKind.u64.wrap (left11 + x130)) next12 at13 t15 t115 t116 (IntKind.i64.wrap (t117 + (1 : Int)))) (
        K_signalboxlaw25_BusyWorks_30 l1 gaps2 w9 (IntKind.u64.wrap (left11 + x130)) next12 at13 t15 t115 t116 (IntKind.i64.wrap (t117 + (1 : Int)))))) (
    mIf (left11 == (0 : Int)) (
      mRet (.bool true)) (
      mIf ((IntKind.u64.wrap (left11 - (1 : Int))) == (0 : Int)) (
        mRet (.bool true)) (
        K_signalboxlaw25_BusyWorks_27 l1 gaps2 w9 (IntKind.u64.wrap (left11 - (1 : Int))) next12 at13 (IntKind.u64.wrap (t15 + (1 : Int))))))
theorem E_signalboxlaw25_BusyWorks (delay0 : Int) (l1 : Sl) (gaps2 : Sl) : ev Try.prog 14 Try.f14.results.toList C_signalboxlaw25_BusyWorks D_signalboxlaw25_BusyWorks 400 false [.code (bodyOf Try.f14)] (List.map some [.int .u8 delay0, .slice l1.p l1.n l1.c, .slice gaps2.p gaps2.n gaps2.c] ++ List.replicate (Try.f14.ntmps - List.length ([.int .u8 delay0, .slice l1.p l1.n l1.c, .slice gaps2.p gaps2.n gaps2.c] : List Value)) none) = B_signalboxlaw25_BusyWorks delay0 l1 gaps2 := by kernel_rfl
theorem S_signalboxlaw25_BusyWorks (delay0 : Int) (l1 : Sl) (gaps2 : Sl) {h : Hp} {Q : Value → Hp → Prop} (hb : B_signalboxlaw25_BusyWorks delay0 l1 gaps2 h Q) : N_signalboxlaw25_BusyWorks delay0 l1 gaps2 h Q :=
  Nf.of_ev Try.call14 Try.func14 (c := bodyOf Try.f14) rfl mixed C_signalboxlaw25_BusyWorks D_signalboxlaw25_BusyWorks 400 (args := [.int .u8 delay0, .slice l1.p l1.n l1.c, .slice gaps2.p gaps2.n gaps2.c]) (by rw [E_signalboxlaw25_BusyWorks]; exact hb)
theorem E_signalboxlaw25_BusyWorks_6 (delay0 : Int) (l1 : Sl) (gaps2 : Sl) (t33 : Sl) (t34 : Int) (t35 : Int) : ev Try.prog 14 Try.f14.results.toList C_signalboxlaw25_BusyWorks D_signalboxlaw25_BusyWorks 400 true (todoOf Try.f14 6) (T_signalboxlaw25_BusyWorks_6 delay0 l1 gaps2 t33 t34 t35) = B_signalboxlaw25_BusyWorks_6 delay0 l1 gaps2 t33 t34 t35 := by kernel_rfl
theorem S_signalboxlaw25_BusyWorks_6 (delay0 : Int) (l1 : Sl) (gaps2 : Sl) (t33 : Sl) (t34 : Int) (t35 : Int) {h : Hp} {Q : Value → Hp → Prop} (hb : B_signalboxlaw25_BusyWorks_6 delay0 l1 gaps2 t33 t34 t35 h Q) : K_signalboxlaw25_BusyWorks_6 delay0 l1 gaps2 t33 t34 t35 h Q :=
  Cut.of_ev Try.func14 mixed C_signalboxlaw25_BusyWorks D_signalboxlaw25_BusyWorks 400 (by rw [E_signalboxlaw25_BusyWorks_6]; exact hb)
theorem E_signalboxlaw25_BusyWorks_18 (l1 : Sl) (gaps2 : Sl) (w9 : Int) (left11 : Int) (next12 : Sl) (at13 : Sl) (t76 : Int) (t77 : Int) : ev Try.prog 14 Try.f14.results.toList C_signalboxlaw25_BusyWorks D_signalboxlaw25_BusyWorks 400 true (todoOf Try.f14 18) (T_signalboxlaw25_BusyWorks_18 l1 gaps2 w9 left11 next12 at13 t76 t77) = B_signalboxlaw25_BusyWorks_18 l1 gaps2 w9 left11 next12 at13 t76 t77 := by kernel_rfl
theorem S_signalboxlaw25_BusyWorks_18 (l1 : Sl) (gaps2 : Sl) (w9 : Int) (left11 : Int) (next12 : Sl) (at13 : Sl) (t76 : Int) (t77 : Int) {h : Hp} {Q : Value → Hp → Prop} (hb : B_signalboxlaw25_BusyWorks_18 l1 gaps2 w9 left11 next12 at13 t76 t77 h Q) : K_signalboxlaw25_BusyWorks_18 l1 gaps2 w9 left11 next12 at13 t76 t77 h Q :=
  Cut.of_ev Try.func14 mixed C_signalboxlaw25_BusyWorks D_signalboxlaw25_BusyWorks 400 (by rw [E_signalboxlaw25_BusyWorks_18]; exact hb)
theorem E_signalboxlaw25_BusyWorks_27 (l1 : Sl) (gaps2 : Sl) (w9 : Int) (left11 : Int) (next12 : Sl) (at13 : Sl) (t15 : Int) : ev Try.prog 14 Try.f14.results.toList C_signalboxlaw25_BusyWorks D_signalboxlaw25_BusyWorks 400 true (todoOf Try.f14 27) (T_signalboxlaw25_BusyWorks_27 l1 gaps2 w9 left11 next12 at13 t15) = B_signalboxlaw25_BusyWorks_27 l1 gaps2 w9 left11 next12 at13 t15 := by kernel_rfl
theorem S_signalboxlaw25_BusyWorks_27 (l1 : Sl) (gaps2 : Sl) (w9 : Int) (left11 : Int) (next12 : Sl) (at13 : Sl) (t15 : Int) {h : Hp} {Q : Value → Hp → Prop} (hb : B_signalboxlaw25_BusyWorks_27 l1 gaps2 w9 left11 next12 at13 t15 h Q) : K_signalboxlaw25_BusyWorks_27 l1 gaps2 w9 left11 next12 at13 t15 h Q :=
  Cut.of_ev Try.func14 mixed C_signalboxlaw25_BusyWorks D_signalboxlaw25_BusyWorks 400 (by rw [E_signalboxlaw25_BusyWorks_27]; exact hb)
theorem E_signalboxlaw25_BusyWorks_30 (l1 : Sl) (gaps2 : Sl) (w9 : Int) (left11 : Int) (next12 : Sl) (at13 : Sl) (t15 : Int) (t115 : Sl) (t116 : Int) (t117 : Int) : ev Try.prog 14 Try.f14.results.toList C_signalboxlaw25_BusyWorks D_signalboxlaw25_BusyWorks 400 true (todoOf Try.f14 30) (T_signalboxlaw25_BusyWorks_30 l1 gaps2 w9 left11 next12 at13 t15 t115 t116 t117) = B_signalboxlaw25_BusyWorks_30 l1 gaps2 w9 left11 next12 at13 t15 t115 t116 t117 := by kernel_rfl
theorem S_signalboxlaw25_BusyWorks_30 (l1 : Sl) (gaps2 : Sl) (w9 : Int) (left11 : Int) (next12 : Sl) (at13 : Sl) (t15 : Int) (t115 : Sl) (t116 : Int) (t117 : Int) {h : Hp} {Q : Value → Hp → Prop} (hb : B_signalboxlaw25_BusyWorks_30 l1 gaps2 w9 left11 next12 at13 t15 t115 t116 t117 h Q) : K_signalboxlaw25_BusyWorks_30 l1 gaps2 w9 left11 next12 at13 t15 t115 t116 t117 h Q :=
  Cut.of_ev Try.func14 mixed C_signalboxlaw25_BusyWorks D_signalboxlaw25_BusyWorks 400 (by rw [E_signalboxlaw25_BusyWorks_30]; exact hb)
end Go.Proofs.Ytjifoicncenfpaa
