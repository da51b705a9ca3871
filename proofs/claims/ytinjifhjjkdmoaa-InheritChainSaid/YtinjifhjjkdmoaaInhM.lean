/- What the functions of this layer come to, as forms of the small logic; written by program. Conditions: none. -/
import Derived.Test.YtinjifhjjkdmoaaSbU
import Derived.Test.YtinjifhjjkdmoaaChecked
import Derived.KernelRfl
set_option maxRecDepth 100000
namespace Go.Proofs.Ytinjifhjjkdmoaa
open Go Go.Sb
theorem mixed : Try.prog.follows .mixedOrders = true := by kernel_rfl
def N_signalboxlaw40_fixed : M Value := Nf Try.prog 40 #[]
def N_inherit_New (bases0 : Sl) (things1 : Int) : M Value := Nf Try.prog 41 #[.slice bases0.p bases0.n bases0.c, .int .i64 things1]
def N_inherit_Table_Take (t0 : Option Addr) (p1 : Int) (x2 : Int) : M Value := Nf Try.prog 42 #[.pointer t0, .int .i64 p1, .int .i64 x2]
def N_inherit_Table_Priority (t0 : Option Addr) (p1 : Int) : M Value := Nf Try.prog 43 #[.pointer t0, .int .i64 p1]
def N_inherit_Table_Drop (t0 : Option Addr) (p1 : Int) (x2 : Int) : M Value := Nf Try.prog 76 #[.pointer t0, .int .i64 p1, .int .i64 x2]
def N_inherit_Table_Holder (t0 : Option Addr) (x1 : Int) : M Value := Nf Try.prog 77 #[.pointer t0, .int .i64 x1]
def N_inherit_Table_is (t0 : Option Addr) (p1 : Int) (x2 : Int) : M Value := Nf Try.prog 78 #[.pointer t0, .int .i64 p1, .int .i64 x2]
def N_inherit_Table_chain (t0 : Option Addr) (x1 : Int) (p2 : Int) : M Value := Nf Try.prog 79 #[.pointer t0, .int .i64 x1, .int .i64 p2]
def N_inherit_Table_priority (t0 : Option Addr) (p1 : Int) : M Value := Nf Try.prog 80 #[.pointer t0, .int .i64 p1]
def N_slices_Delete_int_int (s0 : Sl) (i1 : Int) (j2 : Int) : M Value := Nf Try.prog 91 #[.slice s0.p s0.n s0.c, .int .i64 i1, .int .i64 j2]
def N_slices_Clone_int_int (s0 : Sl) : M Value := Nf Try.prog 92 #[.slice s0.p s0.n s0.c]
def N_signalboxlaw40_InheritChain (bases0 : Sl) : M Value := Nf Try.prog 8 #[.slice bases0.p bases0.n bases0.c]
def C_signalboxlaw40_fixed : List (Nat × List Nat) := []
def D_signalboxlaw40_fixed : List (Nat × List Nat) := []
def B_signalboxlaw40_fixed : M Value :=
  mNew #[.int .i64 (1 : Int), .int .i64 (5 : Int)] 3 fun (x14 : Addr) =>
  mBind (N_inherit_New (Sl.mk (some x14) 2 2) (2 : Int)) fun r15 =>
  unP r15 fun (x15 : Option Addr) =>
  mBind (N_inherit_Table_Take x15 (0 : Int) (0 : Int)) fun r18 =>
  un2 unB (unI .i64) r18 fun (x18_0 : Bool) (x18_1 : Int) =>
  mBind (N_inherit_Table_Take x15 (1 : Int) (0 : Int)) fun r23 =>
  un2 unB (unI .i64) r23 fun (x23_0 : Bool) (x23_1 : Int) =>
  mBind (N_inherit_Table_Priority x15 (0 : Int)) fun r28 =>
  un2 (unI .i64) unB r28 fun (x28_0 : Int) (x28_1 : Bool) =>
  mBind (N_inherit_Table_Take x15 (1 : Int) (1 : Int)) fun r33 =>
  un2 unB (unI .i64) r33 fun (x33_0 : Bool) (x33_1 : Int) =>
  mBind (N_inherit_Table_Drop x15 (0 : Int) (0 : Int)) fun r38 =>
  un2 (unI .i64) (unI .i64) r38 fun (x38_0 : Int) (x38_1 : Int) =>
  mBind (N_inherit_Table_Holder x15 (0 : Int)) fun r43 =>
  un2 (unI .i64) unB r43 fun (x43_0 : Int) (x43_1 : Bool) =>
  mBind (mIf (((((((((((x18_0 && (x18_1 == (0 : Int))) && (!x23_0)) && (x23_1 == (0 : Int))) && (x28_0 == (5 : Int))) && x28_1) && (!x33_0)) && (x33_1 == (7 : Int))) && (x38_0 == (1 : Int))) && (x38_1 == (0 : Int))) && (x43_0 == (1 : Int))) && x43_1) (mBind (N_inherit_New (Sl.mk none 0 0) (65 : Int)) fun r90 =>
    unP r90 fun (x90 : Option Addr) =>
    mRet x90.isNone) (mRet false)) fun (b10 : Bool) =>
  mRet (.bool b10)
theorem E_signalboxlaw40_fixed : ev Try.prog 40 Try.f40.results.toList C_signalboxlaw40_fixed D_signalboxlaw40_fixed 400 false [.code (bodyOf Try.f40)] (List.map some [] ++ List.replicate (Try.f40.ntmps - List.length ([] : List Value)) none) = B_signalboxlaw40_fixed := by kernel_rfl
theorem S_signalboxlaw40_fixed {h : Hp} {Q : Value → Hp → Prop} (hb : B_signalboxlaw40_fixed h Q) : N_signalboxlaw40_fixed h Q :=
  Nf.of_ev Try.call40 Try.func40 (c := bodyOf Try.f40) rfl mixed C_signalboxlaw40_fixed D_signalboxlaw40_fixed 400 (args := []) (by rw [E_signalboxlaw40_fixed]; exact hb)
def C_inherit_New : List (Nat × List Nat) := [(5, [1, 5, 21, 22, 23]), (10, [5, 39, 40])]
def D_inherit_New : List (Nat × List Nat) := []
def T_inherit_New_5 (things1 : Int) (t5 : Addr) (t21 : Sl) (t22 : Int) (t23 : Int) : Env := mkEnv [(1, .int .i64 things1), (5, .pointer (some t5)), (21, .slice t21.p t21.n t21.c), (22, .int .i64 t22), (23, .int .i64 t23)] 54 0
def K_inherit_New_5 (things1 : Int) (t5 : Addr) (t21 : Sl) (t22 : Int) (t23 : Int) : M Value := Cut Try.prog 41 (todoOf Try.f41 5) (T_inherit_New_5 things1 t5 t21 t22 t23)
def T_inherit_New_10 (t5 : Addr) (t39 : Int) (t40 : Int) : Env := mkEnv [(5, .pointer (some t5)), (39, .int .i64 t39), (40, .int .i64 t40)] 54 0
def K_inherit_New_10 (t5 : Addr) (t39 : Int) (t40 : Int) : M Value := Cut Try.prog 41 (todoOf Try.f41 10) (T_inherit_New_10 t5 t39 t40)
def B_inherit_New (bases0 : Sl) (things1 : Int) : M Value :=
  mIf (((decide ((bases0.n : Int) > (64 : Int))) || (decide (things1 < (0 : Int)))) || (decide (things1 > (64 : Int)))) (
    mRet (.pointer none)) (
    mNew #[.slice none (0) (0), .slice none (0) (0)] 120 fun (x20 : Addr) =>
    K_inherit_New_5 things1 x20 bases0 (bases0.n : Int) (0 : Int))
def B_inherit_New_5 (things1 : Int) (t5 : Addr) (t21 : Sl) (t22 : Int) (t23 : Int) : M Value :=
  mIf (decide (t23 < t22)) (
    mIdx t21 t23 1 fun (x25 : Addr) =>
    mLdI .i64 x25 fun (x26 : Int) =>
    mLdL t5 fun (x31 : Sl) =>
    mNew #[.int .i64 x26, .int .i64 (-1 : Int)] 122 fun (x34 : Addr) =>
    mApp 122 2 16 #[.int .i64 (0 : Int), .int .i64 (0 : Int)] x31 ⟨(some x34), 1, 1⟩ fun (x35 : Sl) =>
    mSt t5 (.slice x35.p x35.n x35.c) <|
    K_inherit_New_5 things1 t5 t21 t22 (IntKind.i64.wrap (t23 + (1 : Int)))) (
    K_inherit_New_10 t5 things1 (0 : Int))
def B_inherit_New_10 (t5 : Addr) (t39 : Int) (t40 : Int) : M Value :=
  mIf (decide (t40 < t39)) (
    mLdL (t5.add 1) fun (x46 : Sl) =>
    mNew #[.int .i64 (-1 : Int), .slice none (0) (0)] 124 fun (x48 : Addr) =>
    mApp 124 2 32 #[.int .i64 (0 : Int), .slice none (0) (0)] x46 ⟨(some x48), 1, 1⟩ fun (x49 : Sl) =>
    mSt (t5.add 1) (.slice x49.p x49.n x49.c) <|
    K_inherit_New_10 t5 t39 (IntKind.i64.wrap (t40 + (1 : Int)))) (
    mRet (.pointer (some t5)))
theorem E_inherit_New (bases0 : Sl) (things1 : Int) : ev Try.prog 41 Try.f41.results.toList C_inherit_New D_inherit_New 400 false [.code (bodyOf Try.f41)] (List.map some [.slice bases0.p bases0.n bases0.c, .int .i64 things1] ++ List.replicate (Try.f41.ntmps - List.length ([.slice bases0.p bases0.n bases0.c, .int .i64 things1] : List Value)) none) = B_inherit_New bases0 things1 := by kernel_rfl
theorem S_inherit_New (bases0 : Sl) (things1 : Int) {h : Hp} {Q : Value → Hp → Prop} (hb : B_inherit_New bases0 things1 h Q) : N_inherit_New bases0 things1 h Q :=
  Nf.of_ev Try.call41 Try.func41 (c := bodyOf Try.f41) rfl mixed C_inherit_New D_inherit_New 400 (args := [.slice bases0.p bases0.n bases0.c, .int .i64 things1]) (by rw [E_inherit_New]; exact hb)
theorem E_inherit_New_5 (things1 : Int) (t5 : Addr) (t21 : Sl) (t22 : Int) (t23 : Int) : ev Try.prog 41 Try.f41.results.toList C_inherit_New D_inherit_New 400 true (todoOf Try.f41 5) (T_inherit_New_5 things1 t5 t21 t22 t23) = B_inherit_New_5 things1 t5 t21 t22 t23 := by kernel_rfl
theorem S_inherit_New_5 (things1 : Int) (t5 : Addr) (t21 : Sl) (t22 : Int) (t23 : Int) {h : Hp} {Q : Value → Hp → Prop} (hb : B_inherit_New_5 things1 t5 t21 t22 t23 h Q) : K_inherit_New_5 things1 t5 t21 t22 t23 h Q :=
  Cut.of_ev Try.func41 mixed C_inherit_New D_inherit_New 400 (by rw [E_inherit_New_5]; exact hb)
theorem E_inherit_New_10 (t5 : Addr) (t39 : Int) (t40 : Int) : ev Try.prog 41 Try.f41.results.toList C_inherit_New D_inherit_New 400 true (todoOf Try.f41 10) (T_inherit_New_10 t5 t39 t40) = B_inherit_New_10 t5 t39 t40 := by kernel_rfl
theorem S_inherit_New_10 (t5 : Addr) (t39 : Int) (t40 : Int) {h : Hp} {Q : Value → Hp → Prop} (hb : B_inherit_New_10 t5 t39 t40 h Q) : K_inherit_New_10 t5 t39 t40 h Q :=
  Cut.of_ev Try.func41 mixed C_inherit_New D_inherit_New 400 (by rw [E_inherit_New_10]; exact hb)
def C_inherit_Table_Take : List (Nat × List Nat) := []
def D_inherit_Table_Take : List (Nat × List Nat) := []
def B_inherit_Table_Take (t0 : Option Addr) (p1 : Int) (x2 : Int) : M Value :=
  mBind (N_inherit_Table_is t0 p1 x2) fun r14 =>
  unI .i64 r14 fun (x14 : Int) =>
  mIf (x14 != (0 : Int)) (
    mRet (.tuple #[.bool false, .int .i64 x14])) (
    mNil t0 fun (a3 : Addr) =>
    mLdL a3 fun (x21 : Sl) =>
    mIdx x21 p1 2 fun (x23 : Addr) =>
    mNil t0 fun (a8 : Addr) =>
    mLdL (a8.add 1) fun (x27 : Sl) =>
    mIdx x27 x2 2 fun (x29 : Addr) =>
    mLdI .i64 (x23.add 1) fun (x34 : Int) =>
    mIf (x34 != (-1 : Int)) (
      mRet (.tuple #[.bool false, .int .i64 (7 : Int)])) (
      mLdI .i64 x29 fun (x40 : Int) =>
      mIf (x40 == p1) (
        mRet (.tuple #[.bool false, .int .i64 (10 : Int)])) (
        mBind (N_inherit_Table_chain t0 x2 p1) fun r47 =>
        unB r47 fun (x47 : Bool) =>
        mIf x47 (
          mRet (.tuple #[.bool false, .int .i64 (9 : Int)])) (
          mLdI .i64 x29 fun (x52 : Int) =>
          mIf (x52 == (-1 : Int)) (
            mSt x29 (.int .i64 p1) <|
            mRet (.tuple #[.bool true, .int .i64 (0 : Int)])) (
            mSt (x23.add 1) (.int .i64 x2) <|
            mLdL (x29.add 1) fun (x66 : Sl) =>
            mNew #[.int .i64 p1] 3 fun (x68 : Addr) =>
            mApp 3 1 8 #[.int .i64 (0 : Int)] x66 ⟨(some x68), 1, 1⟩ fun (x69 : Sl) =>
            mSt (x29.add 1) (.slice x69.p x69.n x69.c) <|
            mRet (.tuple #[.bool false, .int .i64 (0 : Int)]))))))
theorem E_inherit_Table_Take (t0 : Option Addr) (p1 : Int) (x2 : Int) : ev Try.prog 42 Try.f42.results.toList C_inherit_Table_Take D_inherit_Table_Take 400 false [.code (bodyOf Try.f42)] (List.map some [.pointer t0, .int .i64 p1, .int .i64 x2] ++ List.replicate (Try.f42.ntmps - List.length ([.pointer t0, .int .i64 p1, .int .i64 x2] : List Value)) none) = B_inherit_Table_Take t0 p1 x2 := by kernel_rfl
theorem S_inherit_Table_Take (t0 : Option Addr) (p1 : Int) (x2 : Int) {h : Hp} {Q : Value → Hp → Prop} (hb : B_inherit_Table_Take t0 p1 x2 h Q) : N_inherit_Table_Take t0 p1 x2 h Q :=
  Nf.of_ev Try.call42 Try.func42 (c := bodyOf Try.f42) rfl mixed C_inherit_Table_Take D_inherit_Table_Take 400 (args := [.pointer t0, .int .i64 p1, .int .i64 x2]) (by rw [E_inherit_Table_Take]; exact hb)
def C_inherit_Table_Priority : List (Nat × List Nat) := []
def D_inherit_Table_Priority : List (Nat × List Nat) := []
def B_inherit_Table_Priority (t0 : Option Addr) (p1 : Int) : M Value :=
  mBind (mIf (t0.isNone || (decide (p1 < (0 : Int)))) (mRet true) (mNil t0 fun (a2 : Addr) =>
    mLdL a2 fun (x17 : Sl) =>
    mRet (decide (p1 ≥ (x17.n : Int))))) fun (b5 : Bool) =>
  mIf b5 (
    mRet (.tuple #[.int .i64 (0 : Int), .bool false])) (
    mBind (N_inherit_Table_priority t0 p1) fun r23 =>
    unI .i64 r23 fun (x23 : Int) =>
    mRet (.tuple #[.int .i64 x23, .bool true]))
theorem E_inherit_Table_Priority (t0 : Option Addr) (p1 : Int) : ev Try.prog 43 Try.f43.results.toList C_inherit_Table_Priority D_inherit_Table_Priority 400 false [.code (bodyOf Try.f43)] (List.map some [.pointer t0, .int .i64 p1] ++ List.replicate (Try.f43.ntmps - List.length ([.pointer t0, .int .i64 p1] : List Value)) none) = B_inherit_Table_Priority t0 p1 := by kernel_rfl
theorem S_inherit_Table_Priority (t0 : Option Addr) (p1 : Int) {h : Hp} {Q : Value → Hp → Prop} (hb : B_inherit_Table_Priority t0 p1 h Q) : N_inherit_Table_Priority t0 p1 h Q :=
  Nf.of_ev Try.call43 Try.func43 (c := bodyOf Try.f43) rfl mixed C_inherit_Table_Priority D_inherit_Table_Priority 400 (args := [.pointer t0, .int .i64 p1]) (by rw [E_inherit_Table_Priority]; exact hb)
def C_inherit_Table_Drop : List (Nat × List Nat) := [(9, [0, 9, 10, 36, 37, 38])]
def D_inherit_Table_Drop : List (Nat × List Nat) := [(11, [])]
def T_inherit_Table_Drop_9 (t0 : Option Addr) (at9 : Addr) (best10 : Int) (t36 : Sl) (t37 : Int) (t38 : Int) : Env := mkEnv [(0, .pointer t0), (9, .pointer (some at9)), (10, .int .i64 best10), (36, .slice t36.p t36.n t36.c), (37, .int .i64 t37), (38, .int .i64 t38)] 98 0
def K_inherit_Table_Drop_9 (t0 : Option Addr) (at9 : Addr) (best10 : Int) (t36 : Sl) (t37 : Int) (t38 : Int) : M Value := Cut Try.prog 76 (todoOf Try.f76 9) (T_inherit_Table_Drop_9 t0 at9 best10 t36 t37 t38)
def B_inherit_Table_Drop (t0 : Option Addr) (p1 : Int) (x2 : Int) : M Value :=
  mBind (N_inherit_Table_is t0 p1 x2) fun r17 =>
  unI .i64 r17 fun (x17 : Int) =>
  mIf (x17 != (0 : Int)) (
    mRet (.tuple #[.int .i64 (-1 : Int), .int .i64 x17])) (
    mNil t0 fun (a3 : Addr) =>
    mLdL (a3.add 1) fun (x24 : Sl) =>
    mIdx x24 x2 2 fun (x26 : Addr) =>
    mLdI .i64 x26 fun (x30 : Int) =>
    mIf (x30 != p1) (
      mRet (.tuple #[.int .i64 (-1 : Int), .int .i64 (6 : Int)])) (
      mLdL (x26.add 1) fun (x36 : Sl) =>
      K_inherit_Table_Drop_9 t0 x26 (-1 : Int) x36 (x36.n : Int) (0 : Int)))
def B_inherit_Table_Drop_9 (t0 : Option Addr) (at9 : Addr) (best10 : Int) (t36 : Sl) (t37 : Int) (t38 : Int) : M Value :=
  mIf (decide (t38 < t37)) (
    mIdx t36 t38 1 fun (x41 : Addr) =>
    mLdI .i64 x41 fun (x42 : Int) =>
    mIf (best10 == (-1 : Int)) (
      mAnd (
        K_inherit_Table_Drop_9 t0 at9 t38 t36 t37 (IntKind.i64.wrap (t38 + (1 : Int)))) (
        mAnd (
          K_inherit_Table_Drop_9 t0 at9 t38 t36 t37 (IntKind.i64.wrap (t38 + (1 : Int)))) (
          K_inherit_Table_Drop_9 t0 at9 t38 t36 t37 (IntKind.i64.wrap (t38 + (1 : Int)))))) (
      mAnd (
        mBind (N_inherit_Table_priority t0 x42) fun r48_28 =>
        unI .i64 r48_28 fun (x48_28 : Int) =>
        mLdL (at9.add 1) fun (x53_29 : Sl) =>
        mIdx x53_29 best10 1 fun (x55_30 : Addr) =>
        mLdI .i64 x55_30 fun (x56_31 : Int) =>
        mBind (N_inherit_Table_priority t0 x56_31) fun r57_32 =>
        unI .i64 r57_32 fun (x57_32 : Int) =>
        mIf (match false with | true => true | false => (decide (x48_28 > x57_32))) (
          K_inherit_Table_Drop_9 t0 at9 t38 t36 t37 (IntKind.i64.wrap (t38 + (1 : Int)))) (
          K_inherit_Table_Drop_9 t0 at9 best10 t36 t37 (IntKind.i64.wrap (t38 + (1 : Int))))) (
        mLdL (at9.add 1) fun (x53 : Sl) =>
        mIdx x53 best10 1 fun (x55 : Addr) =>
        mAnd (
          mBind (N_inherit_Table_priority t0 x42) fun r48_25 =>
          unI .i64 r48_25 fun (x48_25 : Int) =>
          mLdI .i64 x55 fun (x56_26 : Int) =>
          mBind (N_inherit_Table_priority t0 x56_26) fun r57_27 =>
          unI .i64 r57_27 fun (x57_27 : Int) =>
          mIf (match false with | true => true | false => (decide (x48_25 > x57_27))) (
            K_inherit_Table_Drop_9 t0 at9 t38 t36 t37 (IntKind.i64.wrap (t38 + (1 : Int)))) (
            K_inherit_Table_Drop_9 t0 at9 best10 t36 t37 (IntKind.i64.wrap (t38 + (1 : Int))))) (
          mLdI .i64 x55 fun (x56 : Int) =>
          mBind (N_inherit_Table_priority t0 x42) fun r48 =>
          unI .i64 r48 fun (x48 : Int) =>
          mBind (N_inherit_Table_priority t0 x56) fun r57 =>
          unI .i64 r57 fun (x57 : Int) =>
          mIf (match false with | true => true | false => (decide (x48 > x57))) (
            K_inherit_Table_Drop_9 t0 at9 t38 t36 t37 (IntKind.i64.wrap (t38 + (1 : Int)))) (
            K_inherit_Table_Drop_9 t0 at9 best10 t36 t37 (IntKind.i64.wrap (t38 + (1 : Int)))))))) (
    mIf (best10 == (-1 : Int)) (
      mSt at9 (.int .i64 (-1 : Int)) <|
      mRet (.tuple #[.int .i64 (-1 : Int), .int .i64 (0 : Int)])) (
      mLdL (at9.add 1) fun (x70 : Sl) =>
      mIdx x70 best10 1 fun (x72 : Addr) =>
      mLdI .i64 x72 fun (x73 : Int) =>
      mLdL (at9.add 1) fun (x78 : Sl) =>
      mBind (N_slices_Clone_int_int x78) fun r79 =>
      unL r79 fun (x79 : Sl) =>
      mBind (N_slices_Delete_int_int x79 best10 (IntKind.i64.wrap (best10 + (1 : Int)))) fun r83 =>
      unL r83 fun (x83 : Sl) =>
      mSt (at9.add 1) (.slice x83.p x83.n x83.c) <|
      mSt at9 (.int .i64 x73) <|
      mNil t0 fun (a53 : Addr) =>
      mLdL a53 fun (x93 : Sl) =>
      mIdx x93 x73 2 fun (x95 : Addr) =>
      mSt (x95.add 1) (.int .i64 (-1 : Int)) <|
      mRet (.tuple #[.int .i64 x73, .int .i64 (0 : Int)])))
theorem E_inherit_Table_Drop (t0 : Option Addr) (p1 : Int) (x2 : Int) : ev Try.prog 76 Try.f76.results.toList C_inherit_Table_Drop D_inherit_Table_Drop 400 false [.code (bodyOf Try.f76)] (List.map some [.pointer t0, .int .i64 p1, .int .i64 x2] ++ List.replicate (Try.f76.ntmps - List.length ([.pointer t0, .int .i64 p1, .int .i64 x2] : List Value)) none) = B_inherit_Table_Drop t0 p1 x2 := by kernel_rfl
theorem S_inherit_Table_Drop (t0 : Option Addr) (p1 : Int) (x2 : Int) {h : Hp} {Q : Value → Hp → Prop} (hb : B_inherit_Table_Drop t0 p1 x2 h Q) : N_inherit_Table_Drop t0 p1 x2 h Q :=
  Nf.of_ev Try.call76 Try.func76 (c := bodyOf Try.f76) rfl mixed C_inherit_Table_Drop D_inherit_Table_Drop 400 (args := [.pointer t0, .int .i64 p1, .int .i64 x2]) (by rw [E_inherit_Table_Drop]; exact hb)
theorem E_inherit_Table_Drop_9 (t0 : Option Addr) (at9 : Addr) (best10 : Int) (t36 : Sl) (t37 : Int) (t38 : Int) : ev Try.prog 76 Try.f76.results.toList C_inherit_Table_Drop D_inherit_Table_Drop 400 true (todoOf Try.f76 9) (T_inherit_Table_Drop_9 t0 at9 best10 t36 t37 t38) = B_inherit_Table_Drop_9 t0 at9 best10 t36 t37 t38 := by kernel_rfl
theorem S_inherit_Table_Drop_9 (t0 : Option Addr) (at9 : Addr) (best10 : Int) (t36 : Sl) (t37 : Int) (t38 : Int) {h : Hp} {Q : Value → Hp → Prop} (hb : B_inherit_Table_Drop_9 t0 at9 best10 t36 t37 t38 h Q) : K_inherit_Table_Drop_9 t0 at9 best10 t36 t37 t38 h Q :=
  Cut.of_ev Try.func76 mixed C_inherit_Table_Drop D_inherit_Table_Drop 400 (by rw [E_inherit_Table_Drop_9]; exact hb)
def C_inherit_Table_Holder : List (Nat × List Nat) := []
def D_inherit_Table_Holder : List (Nat × List Nat) := []
def B_inherit_Table_Holder (t0 : Option Addr) (x1 : Int) : M Value :=
  mBind (mIf (t0.isNone || (decide (x1 < (0 : Int)))) (mRet true) (mNil t0 fun (a2 : Addr) =>
    mLdL (a2.add 1) fun (x17 : Sl) =>
    mRet (decide (x1 ≥ (x17.n : Int))))) fun (b5 : Bool) =>
  mBind (mIf b5 (mRet true) (mNil t0 fun (a7 : Addr) =>
    mLdL (a7.add 1) fun (x25 : Sl) =>
    mIdx x25 x1 2 fun (x27 : Addr) =>
    mLdI .i64 x27 fun (x29 : Int) =>
    mRet (x29 == (-1 : Int)))) fun (b13 : Bool) =>
  mIf b13 (
    mRet (.tuple #[.int .i64 (0 : Int), .bool false])) (
    mNil t0 fun (a15 : Addr) =>
    mLdL (a15.add 1) fun (x35 : Sl) =>
    mIdx x35 x1 2 fun (x37 : Addr) =>
    mLdI .i64 x37 fun (x39 : Int) =>
    mRet (.tuple #[.int .i64 x39, .bool true]))
theorem E_inherit_Table_Holder (t0 : Option Addr) (x1 : Int) : ev Try.prog 77 Try.f77.results.toList C_inherit_Table_Holder D_inherit_Table_Holder 400 false [.code (bodyOf Try.f77)] (List.map some [.pointer t0, .int .i64 x1] ++ List.replicate (Try.f77.ntmps - List.length ([.pointer t0, .int .i64 x1] : List Value)) none) = B_inherit_Table_Holder t0 x1 := by kernel_rfl
theorem S_inherit_Table_Holder (t0 : Option Addr) (x1 : Int) {h : Hp} {Q : Value → Hp → Prop} (hb : B_inherit_Table_Holder t0 x1 h Q) : N_inherit_Table_Holder t0 x1 h Q :=
  Nf.of_ev Try.call77 Try.func77 (c := bodyOf Try.f77) rfl mixed C_inherit_Table_Holder D_inherit_Table_Holder 400 (args := [.pointer t0, .int .i64 x1]) (by rw [E_inherit_Table_Holder]; exact hb)
def C_inherit_Table_is : List (Nat × List Nat) := []
def D_inherit_Table_is : List (Nat × List Nat) := []
def B_inherit_Table_is (t0 : Option Addr) (p1 : Int) (x2 : Int) : M Value :=
  mIf t0.isNone (
    mRet (.int .i64 (1 : Int))) (
    mBind (mIf (decide (p1 < (0 : Int))) (mRet true) (mNil t0 fun (a2 : Addr) =>
      mLdL a2 fun (x18 : Sl) =>
      mRet (decide (p1 ≥ (x18.n : Int))))) fun (b5 : Bool) =>
    mBind (mIf (b5 || (decide (x2 < (0 : Int)))) (mRet true) (mNil t0 fun (a7 : Addr) =>
      mLdL (a7.add 1) fun (x31 : Sl) =>
      mRet (decide (x2 ≥ (x31.n : Int))))) fun (b10 : Bool) =>
    mIf b10 (
      mRet (.int .i64 (5 : Int))) (
      mRet (.int .i64 (0 : Int))))
theorem E_inherit_Table_is (t0 : Option Addr) (p1 : Int) (x2 : Int) : ev Try.prog 78 Try.f78.results.toList C_inherit_Table_is D_inherit_Table_is 400 false [.code (bodyOf Try.f78)] (List.map some [.pointer t0, .int .i64 p1, .int .i64 x2] ++ List.replicate (Try.f78.ntmps - List.length ([.pointer t0, .int .i64 p1, .int .i64 x2] : List Value)) none) = B_inherit_Table_is t0 p1 x2 := by kernel_rfl
theorem S_inherit_Table_is (t0 : Option Addr) (p1 : Int) (x2 : Int) {h : Hp} {Q : Value → Hp → Prop} (hb : B_inherit_Table_is t0 p1 x2 h Q) : N_inherit_Table_is t0 p1 x2 h Q :=
  Nf.of_ev Try.call78 Try.func78 (c := bodyOf Try.f78) rfl mixed C_inherit_Table_is D_inherit_Table_is 400 (args := [.pointer t0, .int .i64 p1, .int .i64 x2]) (by rw [E_inherit_Table_is]; exact hb)
def C_inherit_Table_chain : List (Nat × List Nat) := [(1, [0, 1, 2])]
def D_inherit_Table_chain : List (Nat × List Nat) := []
def T_inherit_Table_chain_1 (t0 : Option Addr) (x1 : Int) (p2 : Int) : Env := mkEnv [(0, .pointer t0), (1, .int .i64 x1), (2, .int .i64 p2)] 32 0
def K_inherit_Table_chain_1 (t0 : Option Addr) (x1 : Int) (p2 : Int) : M Value := Cut Try.prog 79 (todoOf Try.f79 1) (T_inherit_Table_chain_1 t0 x1 p2)
def B_inherit_Table_chain (t0 : Option Addr) (x1 : Int) (p2 : Int) : M Value :=
  K_inherit_Table_chain_1 t0 x1 p2
def B_inherit_Table_chain_1 (t0 : Option Addr) (x1 : Int) (p2 : Int) : M Value :=
  mIf (x1 != (-1 : Int)) (
    mNil t0 fun (a2 : Addr) =>
    mLdL (a2.add 1) fun (x13 : Sl) =>
    mIdx x13 x1 2 fun (x15 : Addr) =>
    mLdI .i64 x15 fun (x17 : Int) =>
    mIf (x17 == p2) (
      mRet (.bool true)) (
      mIf (x17 == (-1 : Int)) (
        mRet (.bool false)) (
        mNil t0 fun (a9 : Addr) =>
        mLdL a9 fun (x27 : Sl) =>
        mIdx x27 x17 2 fun (x29 : Addr) =>
        mLdI .i64 (x29.add 1) fun (x31 : Int) =>
        K_inherit_Table_chain_1 t0 x31 p2))) (
    mRet (.bool false))
theorem E_inherit_Table_chain (t0 : Option Addr) (x1 : Int) (p2 : Int) : ev Try.prog 79 Try.f79.results.toList C_inherit_Table_chain D_inherit_Table_chain 400 false [.code (bodyOf Try.f79)] (List.map some [.pointer t0, .int .i64 x1, .int .i64 p2] ++ List.replicate (Try.f79.ntmps - List.length ([.pointer t0, .int .i64 x1, .int .i64 p2] : List Value)) none) = B_inherit_Table_chain t0 x1 p2 := by kernel_rfl
theorem S_inherit_Table_chain (t0 : Option Addr) (x1 : Int) (p2 : Int) {h : Hp} {Q : Value → Hp → Prop} (hb : B_inherit_Table_chain t0 x1 p2 h Q) : N_inherit_Table_chain t0 x1 p2 h Q :=
  Nf.of_ev Try.call79 Try.func79 (c := bodyOf Try.f79) rfl mixed C_inherit_Table_chain D_inherit_Table_chain 400 (args := [.pointer t0, .int .i64 x1, .int .i64 p2]) (by rw [E_inherit_Table_chain]; exact hb)
theorem E_inherit_Table_chain_1 (t0 : Option Addr) (x1 : Int) (p2 : Int) : ev Try.prog 79 Try.f79.results.toList C_inherit_Table_chain D_inherit_Table_chain 400 true (todoOf Try.f79 1) (T_inherit_Table_chain_1 t0 x1 p2) = B_inherit_Table_chain_1 t0 x1 p2 := by kernel_rfl
theorem S_inherit_Table_chain_1 (t0 : Option Addr) (x1 : Int) (p2 : Int) {h : Hp} {Q : Value → Hp → Prop} (hb : B_inherit_Table_chain_1 t0 x1 p2 h Q) : K_inherit_Table_chain_1 t0 x1 p2 h Q :=
  Cut.of_ev Try.func79 mixed C_inherit_Table_chain D_inherit_Table_chain 400 (by rw [E_inherit_Table_chain_1]; exact hb)
def C_inherit_Table_priority : List (Nat × List Nat) := [(3, [0, 1, 5, 21, 22, 23]), (7, [0, 1, 5, 21, 22, 23, 32, 33, 34])]
def D_inherit_Table_priority : List (Nat × List Nat) := []
def T_inherit_Table_priority_3 (t0 : Option Addr) (p1 : Int) (n5 : Int) (t21 : Sl) (t22 : Int) (t23 : Int) : Env := mkEnv [(0, .pointer t0), (1, .int .i64 p1), (5, .int .i64 n5), (21, .slice t21.p t21.n t21.c), (22, .int .i64 t22), (23, .int .i64 t23)] 46 0
def K_inherit_Table_priority_3 (t0 : Option Addr) (p1 : Int) (n5 : Int) (t21 : Sl) (t22 : Int) (t23 : Int) : M Value := Cut Try.prog 80 (todoOf Try.f80 3) (T_inherit_Table_priority_3 t0 p1 n5 t21 t22 t23)
def T_inherit_Table_priority_7 (t0 : Option Addr) (p1 : Int) (n5 : Int) (t21 : Sl) (t22 : Int) (t23 : Int) (t32 : Sl) (t33 : Int) (t34 : Int) : Env := mkEnv [(0, .pointer t0), (1, .int .i64 p1), (5, .int .i64 n5), (21, .slice t21.p t21.n t21.c), (22, .int .i64 t22), (23, .int .i64 t23), (32, .slice t32.p t32.n t32.c), (33, .int .i64 t33), (34, .int .i64 t34)] 46 0
def K_inherit_Table_priority_7 (t0 : Option Addr) (p1 : Int) (n5 : Int) (t21 : Sl) (t22 : Int) (t23 : Int) (t32 : Sl) (t33 : Int) (t34 : Int) : M Value := Cut Try.prog 80 (todoOf Try.f80 7) (T_inherit_Table_priority_7 t0 p1 n5 t21 t22 t23 t32 t33 t34)
def B_inherit_Table_priority (t0 : Option Addr) (p1 : Int) : M Value :=
  mNil t0 fun (a2 : Addr) =>
  mLdL a2 fun (x13 : Sl) =>
  mIdx x13 p1 2 fun (x15 : Addr) =>
  mLdI .i64 x15 fun (x17 : Int) =>
  mNil t0 fun (a9 : Addr) =>
  mLdL (a9.add 1) fun (x21 : Sl) =>
  K_inherit_Table_priority_3 t0 p1 x17 x21 (x21.n : Int) (0 : Int)
def B_inherit_Table_priority_3 (t0 : Option Addr) (p1 : Int) (n5 : Int) (t21 : Sl) (t22 : Int) (t23 : Int) : M Value :=
  mIf (decide (t23 < t22)) (
    mIdx t21 t23 2 fun (x25 : Addr) =>
    mLdI .i64 x25 fun (x26_0 : Int) =>
    mLdL (x25.add 1) fun (x26_1 : Sl) =>
    mNew #[.int .i64 (0 : Int), .slice none (0) (0)] 124 fun (x7 : Addr) =>
    mSt x7 (.int .i64 x26_0) <|
    mSt (x7.add 1) (.slice x26_1.p x26_1.n x26_1.c) <|
    mLdI .i64 x7 fun (x28 : Int) =>
    mIf (x28 != p1) (
      K_inherit_Table_priority_3 t0 p1 n5 t21 t22 (IntKind.i64.wrap (t23 + (1 : Int)))) (
      mLdL (x7.add 1) fun (x32 : Sl) =>
      K_inherit_Table_priority_7 t0 p1 n5 t21 t22 t23 x32 (x32.n : Int) (0 : Int))) (
    mRet (.int .i64 n5))
def B_inherit_Table_priority_7 (t0 : Option Addr) (p1 : Int) (n5 : Int) (t21 : Sl) (t22 : Int) (t23 : Int) (t32 : Sl) (t33 : Int) (t34 : Int) : M Value :=
  mIf (decide (t34 < t33)) (
    mIdx t32 t34 1 fun (x36 : Addr) =>
    mLdI .i64 x36 fun (x37 : Int) =>
    mBind (N_inherit_Table_priority t0 x37) fun r41 =>
    unI .i64 r41 fun (x41 : Int) =>
    K_inherit_Table_priority_7 t0 p1 (if x41 > n5 then x41 else n5) t21 t22 t23 t32 t33 (IntKind.i64.wrap (t34 + (1 : Int)))) (
    K_inherit_Table_priority_3 t0 p1 n5 t21 t22 (IntKind.i64.wrap (t23 + (1 : Int))))
theorem E_inherit_Table_priority (t0 : Option Addr) (p1 : Int) : ev Try.prog 80 Try.f80.results.toList C_inherit_Table_priority D_inherit_Table_priority 400 false [.code (bodyOf Try.f80)] (List.map some [.pointer t0, .int .i64 p1] ++ List.replicate (Try.f80.ntmps - List.length ([.pointer t0, .int .i64 p1] : List Value)) none) = B_inherit_Table_priority t0 p1 := by kernel_rfl
theorem S_inherit_Table_priority (t0 : Option Addr) (p1 : Int) {h : Hp} {Q : Value → Hp → Prop} (hb : B_inherit_Table_priority t0 p1 h Q) : N_inherit_Table_priority t0 p1 h Q :=
  Nf.of_ev Try.call80 Try.func80 (c := bodyOf Try.f80) rfl mixed C_inherit_Table_priority D_inherit_Table_priority 400 (args := [.pointer t0, .int .i64 p1]) (by rw [E_inherit_Table_priority]; exact hb)
theorem E_inherit_Table_priority_3 (t0 : Option Addr) (p1 : Int) (n5 : Int) (t21 : Sl) (t22 : Int) (t23 : Int) : ev Try.prog 80 Try.f80.results.toList C_inherit_Table_priority D_inherit_Table_priority 400 true (todoOf Try.f80 3) (T_inherit_Table_priority_3 t0 p1 n5 t21 t22 t23) = B_inherit_Table_priority_3 t0 p1 n5 t21 t22 t23 := by kernel_rfl
theorem S_inherit_Table_priority_3 (t0 : Option Addr) (p1 : Int) (n5 : Int) (t21 : Sl) (t22 : Int) (t23 : Int) {h : Hp} {Q : Value → Hp → Prop} (hb : B_inherit_Table_priority_3 t0 p1 n5 t21 t22 t23 h Q) : K_inherit_Table_priority_3 t0 p1 n5 t21 t22 t23 h Q :=
  Cut.of_ev Try.func80 mixed C_inherit_Table_priority D_inherit_Table_priority 400 (by rw [E_inherit_Table_priority_3]; exact hb)
theorem E_inherit_Table_priority_7 (t0 : Option Addr) (p1 : Int) (n5 : Int) (t21 : Sl) (t22 : Int) (t23 : Int) (t32 : Sl) (t33 : Int) (t34 : Int) : ev Try.prog 80 Try.f80.results.toList C_inherit_Table_priority D_inherit_Table_priority 400 true (todoOf Try.f80 7) (T_inherit_Table_priority_7 t0 p1 n5 t21 t22 t23 t32 t33 t34) = B_inherit_Table_priority_7 t0 p1 n5 t21 t22 t23 t32 t33 t34 := by kernel_rfl
theorem S_inherit_Table_priority_7 (t0 : Option Addr) (p1 : Int) (n5 : Int) (t21 : Sl) (t22 : Int) (t23 : Int) (t32 : Sl) (t33 : Int) (t34 : Int) {h : Hp} {Q : Value → Hp → Prop} (hb : B_inherit_Table_priority_7 t0 p1 n5 t21 t22 t23 t32 t33 t34 h Q) : K_inherit_Table_priority_7 t0 p1 n5 t21 t22 t23 t32 t33 t34 h Q :=
  Cut.of_ev Try.func80 mixed C_inherit_Table_priority D_inherit_Table_priority 400 (by rw [E_inherit_Table_priority_7]; exact hb)
def C_slices_Delete_int_int : List (Nat × List Nat) := []
def D_slices_Delete_int_int : List (Nat × List Nat) := [(5, [])]
def B_slices_Delete_int_int (s0 : Sl) (i1 : Int) (j2 : Int) : M Value :=
  mSlc s0 1 i1 j2 (s0.n : Int) fun (_x13 : Sl) =>
  mIf (i1 == j2) (
    mRet (.slice s0.p s0.n s0.c)) (
    mSlc s0 1 (0 : Int) i1 (s0.c : Int) fun (x22 : Sl) =>
    mSlc s0 1 j2 (s0.n : Int) (s0.c : Int) fun (x25 : Sl) =>
    mApp 3 1 8 #[.int .i64 (0 : Int)] x22 x25 fun (x26 : Sl) =>
    mSlc x26 1 (x26.n : Int) (s0.n : Int) (x26.c : Int) fun (x31 : Sl) =>
    mClear 1 #[.int .i64 (0 : Int)] x31 <|
    mRet (.slice x26.p x26.n x26.c))
theorem E_slices_Delete_int_int (s0 : Sl) (i1 : Int) (j2 : Int) : ev Try.prog 91 Try.f91.results.toList C_slices_Delete_int_int D_slices_Delete_int_int 400 false [.code (bodyOf Try.f91)] (List.map some [.slice s0.p s0.n s0.c, .int .i64 i1, .int .i64 j2] ++ List.replicate (Try.f91.ntmps - List.length ([.slice s0.p s0.n s0.c, .int .i64 i1, .int .i64 j2] : List Value)) none) = B_slices_Delete_int_int s0 i1 j2 := by kernel_rfl
theorem S_slices_Delete_int_int (s0 : Sl) (i1 : Int) (j2 : Int) {h : Hp} {Q : Value → Hp → Prop} (hb : B_slices_Delete_int_int s0 i1 j2 h Q) : N_slices_Delete_int_int s0 i1 j2 h Q :=
  Nf.of_ev Try.call91 Try.func91 (c := bodyOf Try.f91) rfl mixed C_slices_Delete_int_int D_slices_Delete_int_int 400 (args := [.slice s0.p s0.n s0.c, .int .i64 i1, .int .i64 j2]) (by rw [E_slices_Delete_int_int]; exact hb)
def C_slices_Clone_int_int : List (Nat × List Nat) := []
def D_slices_Clone_int_int : List (Nat × List Nat) := []
def B_slices_Clone_int_int (s0 : Sl) : M Value :=
  mIf s0.p.isNone (
    mRet (.slice none (0) (0))) (
    mNew #[] 3 fun (x5 : Addr) =>
    mApp 3 1 8 #[.int .i64 (0 : Int)] ⟨(some x5), 0, 0⟩ s0 fun (x7 : Sl) =>
    mRet (.slice x7.p x7.n x7.c))
theorem E_slices_Clone_int_int (s0 : Sl) : ev Try.prog 92 Try.f92.results.toList C_slices_Clone_int_int D_slices_Clone_int_int 400 false [.code (bodyOf Try.f92)] (List.map some [.slice s0.p s0.n s0.c] ++ List.replicate (Try.f92.ntmps - List.length ([.slice s0.p s0.n s0.c] : List Value)) none) = B_slices_Clone_int_int s0 := by kernel_rfl
theorem S_slices_Clone_int_int (s0 : Sl) {h : Hp} {Q : Value → Hp → Prop} (hb : B_slices_Clone_int_int s0 h Q) : N_slices_Clone_int_int s0 h Q :=
  Nf.of_ev Try.call92 Try.func92 (c := bodyOf Try.f92) rfl mixed C_slices_Clone_int_int D_slices_Clone_int_int 400 (args := [.slice s0.p s0.n s0.c]) (by rw [E_slices_Clone_int_int]; exact hb)
def C_signalboxlaw40_InheritChain : List (Nat × List Nat) := [(8, [0, 3, 4, 31, 32]), (16, [0, 3, 4, 8, 53, 54])]
def D_signalboxlaw40_InheritChain : List (Nat × List Nat) := []
def T_signalboxlaw40_InheritChain_8 (bases0 : Sl) (n3 : Int) (t4 : Option Addr) (t31 : Int) (t32 : Int) : Env := mkEnv [(0, .slice bases0.p bases0.n bases0.c), (3, .int .i64 n3), (4, .pointer t4), (31, .int .i64 t31), (32, .int .i64 t32)] 101 0
def K_signalboxlaw40_InheritChain_8 (bases0 : Sl) (n3 : Int) (t4 : Option Addr) (t31 : Int) (t32 : Int) : M Value := Cut Try.prog 8 (todoOf Try.f8 8) (T_signalboxlaw40_InheritChain_8 bases0 n3 t4 t31 t32)
def T_signalboxlaw40_InheritChain_16 (bases0 : Sl) (n3 : Int) (t4 : Option Addr) (most8 : Int) (t53 : Int) (t54 : Int) : Env := mkEnv [(0, .slice bases0.p bases0.n bases0.c), (3, .int .i64 n3), (4, .pointer t4), (8, .int .i64 most8), (53, .int .i64 t53), (54, .int .i64 t54)] 101 0
def K_signalboxlaw40_InheritChain_16 (bases0 : Sl) (n3 : Int) (t4 : Option Addr) (most8 : Int) (t53 : Int) (t54 : Int) : M Value := Cut Try.prog 8 (todoOf Try.f8 16) (T_signalboxlaw40_InheritChain_16 bases0 n3 t4 most8 t53 t54)
def B_signalboxlaw40_InheritChain (bases0 : Sl) : M Value :=
  mBind (N_signalboxlaw40_fixed) fun r16 =>
  unB r16 fun (x16 : Bool) =>
  mIf (!x16) (
    mRet (.bool false)) (
    mIf ((decide ((bases0.n : Int) < (2 : Int))) || (decide ((bases0.n : Int) > (60 : Int)))) (
      mRet (.bool true)) (
      mBind (N_inherit_New bases0 (bases0.n : Int)) fun r30 =>
      unP r30 fun (x30 : Option Addr) =>
      K_signalboxlaw40_InheritChain_8 bases0 (bases0.n : Int) x30 (bases0.n : Int) (0 : Int)))
def B_signalboxlaw40_InheritChain_8 (bases0 : Sl) (n3 : Int) (t4 : Option Addr) (t31 : Int) (t32 : Int) : M Value :=
  mIf (decide (t32 < t31)) (
    mBind (N_inherit_Table_Take t4 t32 t32) fun r39 =>
    un2 unB (unI .i64) r39 fun (x39_0 : Bool) (x39_1 : Int) =>
    mIf ((!x39_0) || (x39_1 != (0 : Int))) (
      mRet (.bool false)) (
      K_signalboxlaw40_InheritChain_8 bases0 n3 t4 t31 (IntKind.i64.wrap (t32 + (1 : Int))))) (
    mIdx bases0 (0 : Int) 1 fun (x50 : Addr) =>
    mLdI .i64 x50 fun (x51 : Int) =>
    K_signalboxlaw40_InheritChain_16 bases0 n3 t4 x51 (IntKind.i64.wrap (n3 - (1 : Int))) (0 : Int))
def B_signalboxlaw40_InheritChain_16 (bases0 : Sl) (n3 : Int) (t4 : Option Addr) (most8 : Int) (t53 : Int) (t54 : Int) : M Value :=
  mIf (decide (t54 < t53)) (
    mBind (N_inherit_Table_Take t4 t54 (IntKind.i64.wrap (t54 + (1 : Int)))) fun r62 =>
    un2 unB (unI .i64) r62 fun (x62_0 : Bool) (x62_1 : Int) =>
    mIf (x62_0 || (x62_1 != (0 : Int))) (
      mRet (.bool false)) (
      mIdx bases0 (IntKind.i64.wrap (t54 + (1 : Int))) 1 fun (x74 : Addr) =>
      mLdI .i64 x74 fun (x75 : Int) =>
      mBind (N_inherit_Table_Priority t4 (IntKind.i64.wrap (t54 + (1 : Int)))) fun r81 =>
      un2 (unI .i64) unB r81 fun (x81_0 : Int) (x81_1 : Bool) =>
      mIf ((!x81_1) || (x81_0 != (if x75 > most8 then x75 else most8))) (
        mRet (.bool false)) (
        K_signalboxlaw40_InheritChain_16 bases0 n3 t4 (if x75 > most8 then x75 else most8) t53 (IntKind.i64.wrap (t54 + (1 : Int)))))) (
    mBind (N_inherit_Table_Take t4 (IntKind.i64.wrap (n3 - (1 : Int))) (0 : Int)) fun r96 =>
    un2 unB (unI .i64) r96 fun (_x96_0 : Bool) (x96_1 : Int) =>
    mRet (.bool (x96_1 == (9 : Int))))
theorem E_signalboxlaw40_InheritChain (bases0 : Sl) : ev Try.prog 8 Try.f8.results.toList C_signalboxlaw40_InheritChain D_signalboxlaw40_InheritChain 400 false [.code (bodyOf Try.f8)] (List.map some [.slice bases0.p bases0.n bases0.c] ++ List.replicate (Try.f8.ntmps - List.length ([.slice bases0.p bases0.n bases0.c] : List Value)) none) = B_signalboxlaw40_InheritChain bases0 := by kernel_rfl
theorem S_signalboxlaw40_InheritChain (bases0 : Sl) {h : Hp} {Q : Value → Hp → Prop} (hb : B_signalboxlaw40_InheritChain bases0 h Q) : N_signalboxlaw40_InheritChain bases0 h Q :=
  Nf.of_ev Try.call8 Try.func8 (c := bodyOf Try.f8) rfl mixed C_signalboxlaw40_InheritChain D_signalboxlaw40_InheritChain 400 (args := [.slice bases0.p bases0.n bases0.c]) (by rw [E_signalboxlaw40_InheritChain]; exact hb)
theorem E_signalboxlaw40_InheritChain_8 (bases0 : Sl) (n3 : Int) (t4 : Option Addr) (t31 : Int) (t32 : Int) : ev Try.prog 8 Try.f8.results.toList C_signalboxlaw40_InheritChain D_signalboxlaw40_InheritChain 400 true (todoOf Try.f8 8) (T_signalboxlaw40_InheritChain_8 bases0 n3 t4 t31 t32) = B_signalboxlaw40_InheritChain_8 bases0 n3 t4 t31 t32 := by kernel_rfl
theorem S_signalboxlaw40_InheritChain_8 (bases0 : Sl) (n3 : Int) (t4 : Option Addr) (t31 : Int) (t32 : Int) {h : Hp} {Q : Value → Hp → Prop} (hb : B_signalboxlaw40_InheritChain_8 bases0 n3 t4 t31 t32 h Q) : K_signalboxlaw40_InheritChain_8 bases0 n3 t4 t31 t32 h Q :=
  Cut.of_ev Try.func8 mixed C_signalboxlaw40_InheritChain D_signalboxlaw40_InheritChain 400 (by rw [E_signalboxlaw40_InheritChain_8]; exact hb)
theorem E_signalboxlaw40_InheritChain_16 (bases0 : Sl) (n3 : Int) (t4 : Option Addr) (most8 : Int) (t53 : Int) (t54 : Int) : ev Try.prog 8 Try.f8.results.toList C_signalboxlaw40_InheritChain D_signalboxlaw40_InheritChain 400 true (todoOf Try.f8 16) (T_signalboxlaw40_InheritChain_16 bases0 n3 t4 most8 t53 t54) = B_signalboxlaw40_InheritChain_16 bases0 n3 t4 most8 t53 t54 := by kernel_rfl
theorem S_signalboxlaw40_InheritChain_16 (bases0 : Sl) (n3 : Int) (t4 : Option Addr) (most8 : Int) (t53 : Int) (t54 : Int) {h : Hp} {Q : Value → Hp → Prop} (hb : B_signalboxlaw40_InheritChain_16 bases0 n3 t4 most8 t53 t54 h Q) : K_signalboxlaw40_InheritChain_16 bases0 n3 t4 most8 t53 t54 h Q :=
  Cut.of_ev Try.func8 mixed C_signalboxlaw40_InheritChain D_signalboxlaw40_InheritChain 400 (by rw [E_signalboxlaw40_InheritChain_16]; exact hb)
end Go.Proofs.Ytinjifhjjkdmoaa
