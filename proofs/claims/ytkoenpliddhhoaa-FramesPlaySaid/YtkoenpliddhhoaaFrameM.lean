/- What the functions of this layer come to, as forms of the small logic; written by program. Conditions: none. -/
import Derived.Test.YtkoenpliddhhoaaSbU
import Derived.Test.YtkoenpliddhhoaaChecked
import Derived.KernelRfl
set_option maxRecDepth 100000
namespace Go.Proofs.Ytkoenpliddhhoaa
open Go Go.Sb
theorem mixed : Try.prog.follows .mixedOrders = true := by kernel_rfl
def N_signalboxlaw15_fixed : M Value := Nf Try.prog 25 #[]
def N_frames_New : M Value := Nf Try.prog 26 #[]
def N_frames_Stack_Pop (s0 : Option Addr) (who1 : Int) : M Value := Nf Try.prog 27 #[.pointer s0, .int .i64 who1]
def N_frames_Stack_Push (s0 : Option Addr) (who1 : Int) (size2 : Int) : M Value := Nf Try.prog 28 #[.pointer s0, .int .i64 who1, .int .i64 size2]
def N_frames_Stack_All (s0 : Option Addr) : M Value := Nf Try.prog 29 #[.pointer s0]
def N_frames_Stack_Top (s0 : Option Addr) : M Value := Nf Try.prog 30 #[.pointer s0]
def N_frames_Stack_Depth (s0 : Option Addr) : M Value := Nf Try.prog 31 #[.pointer s0]
def N_frames_Stack_Peak (s0 : Option Addr) : M Value := Nf Try.prog 32 #[.pointer s0]
def N_frames_Frame_end (f0_0 : Int) (f0_1 : Int) (f0_2 : Int) : M Value := Nf Try.prog 60 #[.agg #[.int .i64 f0_0, .int .i64 f0_1, .int .i64 f0_2]]
def N_slices_Clone_frames_Frame_frames_Frame (s0 : Sl) : M Value := Nf Try.prog 61 #[.slice s0.p s0.n s0.c]
def N_signalboxlaw15_FramesNest (l0 : Sl) : M Value := Nf Try.prog 8 #[.slice l0.p l0.n l0.c]
def N_signalboxlaw15_FramesPlay (l0 : Sl) : M Value := Nf Try.prog 7 #[.slice l0.p l0.n l0.c]
def C_signalboxlaw15_fixed : List (Nat × List Nat) := []
def D_signalboxlaw15_fixed : List (Nat × List Nat) := []
def B_signalboxlaw15_fixed : M Value :=
  mBind (N_frames_New) fun r10 =>
  unP r10 fun (x10 : Option Addr) =>
  mBind (N_frames_Stack_Push x10 (1 : Int) (5 : Int)) fun r13 =>
  un2 (unI .i64) (unI .i64) r13 fun (x13_0 : Int) (x13_1 : Int) =>
  mBind (N_frames_Stack_Push x10 (2 : Int) (3 : Int)) fun r18 =>
  un2 (unI .i64) (unI .i64) r18 fun (x18_0 : Int) (x18_1 : Int) =>
  mBind (N_frames_Stack_Pop x10 (1 : Int)) fun r22 =>
  unI .i64 r22 fun (x22 : Int) =>
  mBind (N_frames_Stack_Pop x10 (2 : Int)) fun r24 =>
  unI .i64 r24 fun (x24 : Int) =>
  mBind (N_frames_Stack_Push x10 (3 : Int) (-1 : Int)) fun r27 =>
  un2 (unI .i64) (unI .i64) r27 fun (_x27_0 : Int) (x27_1 : Int) =>
  mBind (mIf ((((((x13_0 == (0 : Int)) && (x13_1 == (0 : Int))) && (x18_0 == (5 : Int))) && (x18_1 == (0 : Int))) && (x22 == (9 : Int))) && (x24 == (0 : Int))) (mBind (N_frames_Stack_Depth x10) fun r54 =>
    unI .i64 r54 fun (x54 : Int) =>
    mRet (x54 == (5 : Int))) (mRet false)) fun (b8 : Bool) =>
  mBind (mIf b8 (mBind (N_frames_Stack_Peak x10) fun r59 =>
    unI .i64 r59 fun (x59 : Int) =>
    mRet (x59 == (8 : Int))) (mRet false)) fun (b10 : Bool) =>
  mBind (mIf (b10 && (x27_1 == (5 : Int))) (mBind (N_frames_Stack_All x10) fun r68 =>
    unL r68 fun (x68 : Sl) =>
    mRet ((x68.n : Int) == (1 : Int))) (mRet false)) fun (b12 : Bool) =>
  mRet (.bool b12)
theorem E_signalboxlaw15_fixed : ev Try.prog 25 Try.f25.results.toList C_signalboxlaw15_fixed D_signalboxlaw15_fixed 400 false [.code (bodyOf Try.f25)] (List.map some [] ++ List.replicate (Try.f25.ntmps - List.length ([] : List Value)) none) = B_signalboxlaw15_fixed := by kernel_rfl
theorem S_signalboxlaw15_fixed {h : Hp} {Q : Value → Hp → Prop} (hb : B_signalboxlaw15_fixed h Q) : N_signalboxlaw15_fixed h Q :=
  Nf.of_ev Try.call25 Try.func25 (c := bodyOf Try.f25) rfl mixed C_signalboxlaw15_fixed D_signalboxlaw15_fixed 400 (args := []) (by rw [E_signalboxlaw15_fixed]; exact hb)
def C_frames_New : List (Nat × List Nat) := []
def D_frames_New : List (Nat × List Nat) := []
def B_frames_New : M Value :=
  mNew #[.slice none (0) (0), .int .i64 (0 : Int)] 117 fun (x2 : Addr) =>
  mRet (.pointer (some x2))
theorem E_frames_New : ev Try.prog 26 Try.f26.results.toList C_frames_New D_frames_New 400 false [.code (bodyOf Try.f26)] (List.map some [] ++ List.replicate (Try.f26.ntmps - List.length ([] : List Value)) none) = B_frames_New := by kernel_rfl
theorem S_frames_New {h : Hp} {Q : Value → Hp → Prop} (hb : B_frames_New h Q) : N_frames_New h Q :=
  Nf.of_ev Try.call26 Try.func26 (c := bodyOf Try.f26) rfl mixed C_frames_New D_frames_New 400 (args := []) (by rw [E_frames_New]; exact hb)
def C_frames_Stack_Pop : List (Nat × List Nat) := []
def D_frames_Stack_Pop : List (Nat × List Nat) := [(6, [0, 1, 2, 3, 4, 5, 6, 7, 8, 9, 10, 11])]
def B_frames_Stack_Pop (s0 : Option Addr) (who1 : Int) : M Value :=
  mBind (N_frames_Stack_Top s0) fun r9 =>
  unT r9 fun x9l =>
  unC x9l fun x9v0 x9l0 =>
  unA x9v0 fun x9_0l =>
  unC x9_0l fun x9_0v0 x9_0l0 =>
  unI .i64 x9_0v0 fun (x9_0_0 : Int) =>
  unC x9_0l0 fun x9_0v1 x9_0l1 =>
  unI .i64 x9_0v1 fun (x9_0_1 : Int) =>
  unC x9_0l1 fun x9_0v2 x9_0l2 =>
  unI .i64 x9_0v2 fun (x9_0_2 : Int) =>
  unE x9_0l2 <|
  unC x9l0 fun x9v1 x9l1 =>
  unB x9v1 fun (x9_1 : Bool) =>
  unE x9l1 <|
  mNew #[.int .i64 (0 : Int), .int .i64 (0 : Int), .int .i64 (0 : Int)] 67 fun (x5 : Addr) =>
  mSt x5 (.int .i64 x9_0_0) <|
  mSt (x5.add 1) (.int .i64 x9_0_1) <|
  mSt (x5.add 2) (.int .i64 x9_0_2) <|
  mIf (!x9_1) (
    mRet (.int .i64 (8 : Int))) (
    mLdI .i64 x5 fun (x17 : Int) =>
    mIf (x17 != who1) (
      mRet (.int .i64 (9 : Int))) (
      mNil s0 fun (a7 : Addr) =>
      mLdL a7 fun (x24 : Sl) =>
      mNil s0 fun (a11 : Addr) =>
      mLdL a11 fun (x28 : Sl) =>
      mSlc x24 3 (0 : Int) (IntKind.i64.wrap ((x28.n : Int) - (1 : Int))) (x24.c : Int) fun (x31 : Sl) =>
      mNil s0 fun (a16 : Addr) =>
      mSt a16 (.slice x31.p x31.n x31.c) <|
      mRet (.int .i64 (0 : Int))))
theorem E_frames_Stack_Pop (s0 : Option Addr) (who1 : Int) : ev Try.prog 27 Try.f27.results.toList C_frames_Stack_Pop D_frames_Stack_Pop 400 false [.code (bodyOf Try.f27)] (List.map some [.pointer s0, .int .i64 who1] ++ List.replicate (Try.f27.ntmps - List.length ([.pointer s0, .int .i64 who1] : List Value)) none) = B_frames_Stack_Pop s0 who1 := by kernel_rfl
theorem S_frames_Stack_Pop (s0 : Option Addr) (who1 : Int) {h : Hp} {Q : Value → Hp → Prop} (hb : B_frames_Stack_Pop s0 who1 h Q) : N_frames_Stack_Pop s0 who1 h Q :=
  Nf.of_ev Try.call27 Try.func27 (c := bodyOf Try.f27) rfl mixed C_frames_Stack_Pop D_frames_Stack_Pop 400 (args := [.pointer s0, .int .i64 who1]) (by rw [E_frames_Stack_Pop]; exact hb)
def C_frames_Stack_Push : List (Nat × List Nat) := [(9, [0, 8])]
def D_frames_Stack_Push : List (Nat × List Nat) := [(8, []), (9, [])]
def T_frames_Stack_Push_9 (s0 : Option Addr) (f8 : Addr) : Env := mkEnv [(0, .pointer s0), (8, .pointer (some f8))] 53 0
def K_frames_Stack_Push_9 (s0 : Option Addr) (f8 : Addr) : M Value := Cut Try.prog 28 (todoOf Try.f28 9) (T_frames_Stack_Push_9 s0 f8)
def B_frames_Stack_Push (s0 : Option Addr) (who1 : Int) (size2 : Int) : M Value :=
  mIf s0.isNone (
    mRet (.tuple #[.int .i64 (0 : Int), .int .i64 (1 : Int)])) (
    mIf ((decide (size2 < (0 : Int))) || (decide (size2 > (4096 : Int)))) (
      mRet (.tuple #[.int .i64 (0 : Int), .int .i64 (5 : Int)])) (
      mNil s0 fun (a2 : Addr) =>
      mLdL a2 fun (x23 : Sl) =>
      mIf (decide ((x23.n : Int) ≥ (256 : Int))) (
        mRet (.tuple #[.int .i64 (0 : Int), .int .i64 (7 : Int)])) (
        mBind (N_frames_Stack_Depth s0) fun r28 =>
        unI .i64 r28 fun (x28 : Int) =>
        mNew #[.int .i64 (0 : Int), .int .i64 (0 : Int), .int .i64 (0 : Int)] 67 fun (x8 : Addr) =>
        mSt x8 (.int .i64 who1) <|
        mSt (x8.add 1) (.int .i64 x28) <|
        mSt (x8.add 2) (.int .i64 size2) <|
        mNil s0 fun (a9 : Addr) =>
        mAnd (
          mLdL a9 fun (x35_26 : Sl) =>
          mLdI .i64 x8 fun (x36_27_0 : Int) =>
          mLdI .i64 (x8.add 1) fun (x36_27_1 : Int) =>
          mLdI .i64 (x8.add 2) fun (x36_27_2 : Int) =>
          mNew #[.int .i64 x36_27_0, .int .i64 x36_27_1, .int .i64 x36_27_2] 67 fun (x37_28 : Addr) =>
          mApp 67 3 24 #[.int .i64 (0 : Int), .int .i64 (0 : Int), .int .i64 (0 : Int)] x35_26 ⟨(some x37_28), 1, 1⟩ fun (x38_29 : Sl) =>
          mNil s0 fun (a31 : Addr) =>
          mSt a31 (.slice x38_29.p x38_29.n x38_29.c) <|
          K_frames_Stack_Push_9 s0 x8) (
          mLdI .i64 x8 fun (x36_0 : Int) =>
          mLdI .i64 (x8.add 1) fun (x36_1 : Int) =>
          mLdI .i64 (x8.add 2) fun (x36_2 : Int) =>
          mAnd (
            mLdL a9 fun (x35_19 : Sl) =>
            mNew #[.int .i64 x36_0, .int .i64 x36_1, .int .i64 x36_2] 67 fun (x37_20 : Addr) =>
            mApp 67 3 24 #[.int .i64 (0 : Int), .int .i64 (0 : Int), .int .i64 (0 : Int)] x35_19 ⟨(some x37_20), 1, 1⟩ fun (x38_21 : Sl) =>
            mNil s0 fun (a23 : Addr) =>
            mSt a23 (.slice x38_21.p x38_21.n x38_21.c) <|
            K_frames_Stack_Push_9 s0 x8) (
            mNew #[.int .i64 x36_0, .int .i64 x36_1, .int .i64 x36_2] 67 fun (x37 : Addr) =>
            mLdL a9 fun (x35 : Sl) =>
            mApp 67 3 24 #[.int .i64 (0 : Int), .int .i64 (0 : Int), .int .i64 (0 : Int)] x35 ⟨(some x37), 1, 1⟩ fun (x38 : Sl) =>
            mNil s0 fun (a16 : Addr) =>
            mSt a16 (.slice x38.p x38.n x38.c) <|
            K_frames_Stack_Push_9 s0 x8)))))
def B_frames_Stack_Push_9 (s0 : Option Addr) (f8 : Addr) : M Value :=
  mNil s0 fun (a35 : Addr) =>
  mAnd (
    mLdI .i64 (a35.add 1) fun (x45_54 : Int) =>
    mLdI .i64 f8 fun (x46_55_0 : Int) =>
    mLdI .i64 (f8.add 1) fun (x46_55_1 : Int) =>
    mLdI .i64 (f8.add 2) fun (x46_55_2 : Int) =>
    mBind (N_frames_Frame_end x46_55_0 x46_55_1 x46_55_2) fun r47_56 =>
    unI .i64 r47_56 fun (x47_56 : Int) =>
    mNil s0 fun (a58 : Addr) =>
    mSt (a58.add 1) (.int .i64 (if x47_56 > x45_54 then x47_56 else x45_54)) <|
    mLdI .i64 (f8.add 1) fun (x52_62 : Int) =>
    mRet (.tuple #[.int .i64 x52_62, .int .i64 (0 : Int)])) (
    mLdI .i64 f8 fun (x46_0 : Int) =>
    mLdI .i64 (f8.add 1) fun (x46_1 : Int) =>
    mLdI .i64 (f8.add 2) fun (x46_2 : Int) =>
    mAnd (
      mLdI .i64 (a35.add 1) fun (x45_46 : Int) =>
      mBind (N_frames_Frame_end x46_0 x46_1 x46_2) fun r47_47 =>
      unI .i64 r47_47 fun (x47_47 : Int) =>
      mNil s0 fun (a49 : Addr) =>
      mSt (a49.add 1) (.int .i64 (if x47_47 > x45_46 then x47_47 else x45_46)) <|
      mLdI .i64 (f8.add 1) fun (x52_53 : Int) =>
      mRet (.tuple #[.int .i64 x52_53, .int .i64 (0 : Int)])) (
      mBind (N_frames_Frame_end x46_0 x46_1 x46_2) fun r47 =>
      unI .i64 r47 fun (x47 : Int) =>
      mLdI .i64 (a35.add 1) fun (x45 : Int) =>
      mNil s0 fun (a41 : Addr) =>
      mSt (a41.add 1) (.int .i64 (if x47 > x45 then x47 else x45)) <|
      mLdI .i64 (f8.add 1) fun (x52 : Int) =>
      mRet (.tuple #[.int .i64 x52, .int .i64 (0 : Int)])))
theorem E_frames_Stack_Push (s0 : Option Addr) (who1 : Int) (size2 : Int) : ev Try.prog 28 Try.f28.results.toList C_frames_Stack_Push D_frames_Stack_Push 400 false [.code (bodyOf Try.f28)] (List.map some [.pointer s0, .int .i64 who1, .int .i64 size2] ++ List.replicate (Try.f28.ntmps - List.length ([.pointer s0, .int .i64 who1, .int .i64 size2] : List Value)) none) = B_frames_Stack_Push s0 who1 size2 := by kernel_rfl
theorem S_frames_Stack_Push (s0 : Option Addr) (who1 : Int) (size2 : Int) {h : Hp} {Q : Value → Hp → Prop} (hb : B_frames_Stack_Push s0 who1 size2 h Q) : N_frames_Stack_Push s0 who1 size2 h Q :=
  Nf.of_ev Try.call28 Try.func28 (c := bodyOf Try.f28) rfl mixed C_frames_Stack_Push D_frames_Stack_Push 400 (args := [.pointer s0, .int .i64 who1, .int .i64 size2]) (by rw [E_frames_Stack_Push]; exact hb)
theorem E_frames_Stack_Push_9 (s0 : Option Addr) (f8 : Addr) : ev Try.prog 28 Try.f28.results.toList C_frames_Stack_Push D_frames_Stack_Push 400 true (todoOf Try.f28 9) (T_frames_Stack_Push_9 s0 f8) = B_frames_Stack_Push_9 s0 f8 := by kernel_rfl
theorem S_frames_Stack_Push_9 (s0 : Option Addr) (f8 : Addr) {h : Hp} {Q : Value → Hp → Prop} (hb : B_frames_Stack_Push_9 s0 f8 h Q) : K_frames_Stack_Push_9 s0 f8 h Q :=
  Cut.of_ev Try.func28 mixed C_frames_Stack_Push D_frames_Stack_Push 400 (by rw [E_frames_Stack_Push_9]; exact hb)
def C_frames_Stack_All : List (Nat × List Nat) := []
def D_frames_Stack_All : List (Nat × List Nat) := []
def B_frames_Stack_All (s0 : Option Addr) : M Value :=
  mIf s0.isNone (
    mRet (.slice none (0) (0))) (
    mNil s0 fun (a2 : Addr) =>
    mLdL a2 fun (x8 : Sl) =>
    mBind (N_slices_Clone_frames_Frame_frames_Frame x8) fun r9 =>
    unL r9 fun (x9 : Sl) =>
    mRet (.slice x9.p x9.n x9.c))
theorem E_frames_Stack_All (s0 : Option Addr) : ev Try.prog 29 Try.f29.results.toList C_frames_Stack_All D_frames_Stack_All 400 false [.code (bodyOf Try.f29)] (List.map some [.pointer s0] ++ List.replicate (Try.f29.ntmps - List.length ([.pointer s0] : List Value)) none) = B_frames_Stack_All s0 := by kernel_rfl
theorem S_frames_Stack_All (s0 : Option Addr) {h : Hp} {Q : Value → Hp → Prop} (hb : B_frames_Stack_All s0 h Q) : N_frames_Stack_All s0 h Q :=
  Nf.of_ev Try.call29 Try.func29 (c := bodyOf Try.f29) rfl mixed C_frames_Stack_All D_frames_Stack_All 400 (args := [.pointer s0]) (by rw [E_frames_Stack_All]; exact hb)
def C_frames_Stack_Top : List (Nat × List Nat) := []
def D_frames_Stack_Top : List (Nat × List Nat) := [(3, [0, 1, 2, 3, 4, 5, 6, 7, 8, 9, 10, 11])]
def B_frames_Stack_Top (s0 : Option Addr) : M Value :=
  mNew #[.int .i64 (0 : Int), .int .i64 (0 : Int), .int .i64 (0 : Int)] 67 fun (x2 : Addr) =>
  mBind (mIf s0.isNone (mRet true) (mNil s0 fun (a3 : Addr) =>
    mLdL a3 fun (x10 : Sl) =>
    mRet ((x10.n : Int) == (0 : Int)))) fun (b6 : Bool) =>
  mIf b6 (
    mSt x2 (.int .i64 (0 : Int)) <|
    mSt (x2.add 1) (.int .i64 (0 : Int)) <|
    mSt (x2.add 2) (.int .i64 (0 : Int)) <|
    mLdI .i64 x2 fun (q8_0 : Int) =>
    mLdI .i64 (x2.add 1) fun (q8_1 : Int) =>
    mLdI .i64 (x2.add 2) fun (q8_2 : Int) =>
    mRet (.tuple #[.agg #[.int .i64 q8_0, .int .i64 q8_1, .int .i64 q8_2], .bool false])) (
    mNil s0 fun (a10 : Addr) =>
    mLdL a10 fun (x18 : Sl) =>
    mNil s0 fun (a14 : Addr) =>
    mLdL a14 fun (x22 : Sl) =>
    mIdx x18 (IntKind.i64.wrap ((x22.n : Int) - (1 : Int))) 3 fun (x25 : Addr) =>
    mLdI .i64 x25 fun (x26_0 : Int) =>
    mLdI .i64 (x25.add 1) fun (x26_1 : Int) =>
    mLdI .i64 (x25.add 2) fun (x26_2 : Int) =>
    mSt x2 (.int .i64 x26_0) <|
    mSt (x2.add 1) (.int .i64 x26_1) <|
    mSt (x2.add 2) (.int .i64 x26_2) <|
    mLdI .i64 x2 fun (q20_0 : Int) =>
    mLdI .i64 (x2.add 1) fun (q20_1 : Int) =>
    mLdI .i64 (x2.add 2) fun (q20_2 : Int) =>
    mRet (.tuple #[.agg #[.int .i64 q20_0, .int .i64 q20_1, .int .i64 q20_2], .bool true]))
theorem E_frames_Stack_Top (s0 : Option Addr) : ev Try.prog 30 Try.f30.results.toList C_frames_Stack_Top D_frames_Stack_Top 400 false [.code (bodyOf Try.f30)] (List.map some [.pointer s0] ++ List.replicate (Try.f30.ntmps - List.length ([.pointer s0] : List Value)) none) = B_frames_Stack_Top s0 := by kernel_rfl
theorem S_frames_Stack_Top (s0 : Option Addr) {h : Hp} {Q : Value → Hp → Prop} (hb : B_frames_Stack_Top s0 h Q) : N_frames_Stack_Top s0 h Q :=
  Nf.of_ev Try.call30 Try.func30 (c := bodyOf Try.f30) rfl mixed C_frames_Stack_Top D_frames_Stack_Top 400 (args := [.pointer s0]) (by rw [E_frames_Stack_Top]; exact hb)
def C_frames_Stack_Depth : List (Nat × List Nat) := []
def D_frames_Stack_Depth : List (Nat × List Nat) := []
def B_frames_Stack_Depth (s0 : Option Addr) : M Value :=
  mBind (N_frames_Stack_Top s0) fun r7 =>
  unT r7 fun x7l =>
  unC x7l fun x7v0 x7l0 =>
  unA x7v0 fun x7_0l =>
  unC x7_0l fun x7_0v0 x7_0l0 =>
  unI .i64 x7_0v0 fun (x7_0_0 : Int) =>
  unC x7_0l0 fun x7_0v1 x7_0l1 =>
  unI .i64 x7_0v1 fun (x7_0_1 : Int) =>
  unC x7_0l1 fun x7_0v2 x7_0l2 =>
  unI .i64 x7_0v2 fun (x7_0_2 : Int) =>
  unE x7_0l2 <|
  unC x7l0 fun x7v1 x7l1 =>
  unB x7v1 fun (_x7_1 : Bool) =>
  unE x7l1 <|
  mNew #[.int .i64 (0 : Int), .int .i64 (0 : Int), .int .i64 (0 : Int)] 67 fun (x3 : Addr) =>
  mSt x3 (.int .i64 x7_0_0) <|
  mSt (x3.add 1) (.int .i64 x7_0_1) <|
  mSt (x3.add 2) (.int .i64 x7_0_2) <|
  mLdI .i64 x3 fun (x10_0 : Int) =>
  mLdI .i64 (x3.add 1) fun (x10_1 : Int) =>
  mLdI .i64 (x3.add 2) fun (x10_2 : Int) =>
  mBind (N_frames_Frame_end x10_0 x10_1 x10_2) fun r11 =>
  unI .i64 r11 fun (x11 : Int) =>
  mRet (.int .i64 x11)
theorem E_frames_Stack_Depth (s0 : Option Addr) : ev Try.prog 31 Try.f31.results.toList C_frames_Stack_Depth D_frames_Stack_Depth 400 false [.code (bodyOf Try.f31)] (List.map some [.pointer s0] ++ List.replicate (Try.f31.ntmps - List.length ([.pointer s0] : List Value)) none) = B_frames_Stack_Depth s0 := by kernel_rfl
theorem S_frames_Stack_Depth (s0 : Option Addr) {h : Hp} {Q : Value → Hp → Prop} (hb : B_frames_Stack_Depth s0 h Q) : N_frames_Stack_Depth s0 h Q :=
  Nf.of_ev Try.call31 Try.func31 (c := bodyOf Try.f31) rfl mixed C_frames_Stack_Depth D_frames_Stack_Depth 400 (args := [.pointer s0]) (by rw [E_frames_Stack_Depth]; exact hb)
def C_frames_Stack_Peak : List (Nat × List Nat) := []
def D_frames_Stack_Peak : List (Nat × List Nat) := []
def B_frames_Stack_Peak (s0 : Option Addr) : M Value :=
  mIf s0.isNone (
    mRet (.int .i64 (0 : Int))) (
    mNil s0 fun (a2 : Addr) =>
    mLdI .i64 (a2.add 1) fun (x8 : Int) =>
    mRet (.int .i64 x8))
theorem E_frames_Stack_Peak (s0 : Option Addr) : ev Try.prog 32 Try.f32.results.toList C_frames_Stack_Peak D_frames_Stack_Peak 400 false [.code (bodyOf Try.f32)] (List.map some [.pointer s0] ++ List.replicate (Try.f32.ntmps - List.length ([.pointer s0] : List Value)) none) = B_frames_Stack_Peak s0 := by kernel_rfl
theorem S_frames_Stack_Peak (s0 : Option Addr) {h : Hp} {Q : Value → Hp → Prop} (hb : B_frames_Stack_Peak s0 h Q) : N_frames_Stack_Peak s0 h Q :=
  Nf.of_ev Try.call32 Try.func32 (c := bodyOf Try.f32) rfl mixed C_frames_Stack_Peak D_frames_Stack_Peak 400 (args := [.pointer s0]) (by rw [E_frames_Stack_Peak]; exact hb)
def C_frames_Frame_end : List (Nat × List Nat) := []
def D_frames_Frame_end : List (Nat × List Nat) := []
def B_frames_Frame_end (f0_0 : Int) (f0_1 : Int) (f0_2 : Int) : M Value :=
  mNew #[.int .i64 f0_0, .int .i64 f0_1, .int .i64 f0_2] 67 fun (x1 : Addr) =>
  mLdI .i64 (x1.add 1) fun (x4 : Int) =>
  mLdI .i64 (x1.add 2) fun (x6 : Int) =>
  mRet (.int .i64 (IntKind.i64.wrap (x4 + x6)))
theorem E_frames_Frame_end (f0_0 : Int) (f0_1 : Int) (f0_2 : Int) : ev Try.prog 60 Try.f60.results.toList C_frames_Frame_end D_frames_Frame_end 400 false [.code (bodyOf Try.f60)] (List.map some [.agg #[.int .i64 f0_0, .int .i64 f0_1, .int .i64 f0_2]] ++ List.replicate (Try.f60.ntmps - List.length ([.agg #[.int .i64 f0_0, .int .i64 f0_1, .int .i64 f0_2]] : List Value)) none) = B_frames_Frame_end f0_0 f0_1 f0_2 := by kernel_rfl
theorem S_frames_Frame_end (f0_0 : Int) (f0_1 : Int) (f0_2 : Int) {h : Hp} {Q : Value → Hp → Prop} (hb : B_frames_Frame_end f0_0 f0_1 f0_2 h Q) : N_frames_Frame_end f0_0 f0_1 f0_2 h Q :=
  Nf.of_ev Try.call60 Try.func60 (c := bodyOf Try.f60) rfl mixed C_frames_Frame_end D_frames_Frame_end 400 (args := [.agg #[.int .i64 f0_0, .int .i64 f0_1, .int .i64 f0_2]]) (by rw [E_frames_Frame_end]; exact hb)
def C_slices_Clone_frames_Frame_frames_Frame : List (Nat × List Nat) := []
def D_slices_Clone_frames_Frame_frames_Frame : List (Nat × List Nat) := []
def B_slices_Clone_frames_Frame_frames_Frame (s0 : Sl) : M Value :=
  mIf s0.p.isNone (
    mRet (.slice none (0) (0))) (
    mNew #[] 67 fun (x5 : Addr) =>
    mApp 67 3 24 #[.int .i64 (0 : Int), .int .i64 (0 : Int), .int .i64 (0 : Int)] ⟨(some x5), 0, 0⟩ s0 fun (x7 : Sl) =>
    mRet (.slice x7.p x7.n x7.c))
theorem E_slices_Clone_frames_Frame_frames_Frame (s0 : Sl) : ev Try.prog 61 Try.f61.results.toList C_slices_Clone_frames_Frame_frames_Frame D_slices_Clone_frames_Frame_frames_Frame 400 false [.code (bodyOf Try.f61)] (List.map some [.slice s0.p s0.n s0.c] ++ List.replicate (Try.f61.ntmps - List.length ([.slice s0.p s0.n s0.c] : List Value)) none) = B_slices_Clone_frames_Frame_frames_Frame s0 := by kernel_rfl
theorem S_slices_Clone_frames_Frame_frames_Frame (s0 : Sl) {h : Hp} {Q : Value → Hp → Prop} (hb : B_slices_Clone_frames_Frame_frames_Frame s0 h Q) : N_slices_Clone_frames_Frame_frames_Frame s0 h Q :=
  Nf.of_ev Try.call61 Try.func61 (c := bodyOf Try.f61) rfl mixed C_slices_Clone_frames_Frame_frames_Frame D_slices_Clone_frames_Frame_frames_Frame 400 (args := [.slice s0.p s0.n s0.c]) (by rw [E_slices_Clone_frames_Frame_frames_Frame]; exact hb)
def C_signalboxlaw15_FramesNest : List (Nat × List Nat) := [(8, [0, 3, 4, 16, 17, 18]), (16, [3, 4, 9])]
def D_signalboxlaw15_FramesNest : List (Nat × List Nat) := []
def T_signalboxlaw15_FramesNest_8 (l0 : Sl) (s3 : Option Addr) (sum4 : Int) (t16 : Sl) (t17 : Int) (t18 : Int) : Env := mkEnv [(0, .slice l0.p l0.n l0.c), (3, .pointer s3), (4, .int .i64 sum4), (16, .slice t16.p t16.n t16.c), (17, .int .i64 t17), (18, .int .i64 t18)] 68 0
def K_signalboxlaw15_FramesNest_8 (l0 : Sl) (s3 : Option Addr) (sum4 : Int) (t16 : Sl) (t17 : Int) (t18 : Int) : M Value := Cut Try.prog 8 (todoOf Try.f8 8) (T_signalboxlaw15_FramesNest_8 l0 s3 sum4 t16 t17 t18)
def T_signalboxlaw15_FramesNest_16 (s3 : Option Addr) (sum4 : Int) (i9 : Int) : Env := mkEnv [(3, .pointer s3), (4, .int .i64 sum4), (9, .int .i64 i9)] 68 0
def K_signalboxlaw15_FramesNest_16 (s3 : Option Addr) (sum4 : Int) (i9 : Int) : M Value := Cut Try.prog 8 (todoOf Try.f8 16) (T_signalboxlaw15_FramesNest_16 s3 sum4 i9)
def B_signalboxlaw15_FramesNest (l0 : Sl) : M Value :=
  mBind (N_signalboxlaw15_fixed) fun r10 =>
  unB r10 fun (x10 : Bool) =>
  mIf (!x10) (
    mRet (.bool false)) (
    mIf (decide ((l0.n : Int) > (200 : Int))) (
      mRet (.bool true)) (
      mBind (N_frames_New) fun r15 =>
      unP r15 fun (x15 : Option Addr) =>
      K_signalboxlaw15_FramesNest_8 l0 x15 (0 : Int) l0 (l0.n : Int) (0 : Int)))
def B_signalboxlaw15_FramesNest_8 (l0 : Sl) (s3 : Option Addr) (sum4 : Int) (t16 : Sl) (t17 : Int) (t18 : Int) : M Value :=
  mIf (decide (t18 < t17)) (
    mIdx t16 t18 1 fun (x21 : Addr) =>
    mLdI .u8 x21 fun (x22 : Int) =>
    mBind (N_frames_Stack_Push s3 t18 (IntKind.i64.wrap x22)) fun r28 =>
    un2 (unI .i64) (unI .i64) r28 fun (x28_0 : Int) (x28_1 : Int) =>
    mIf ((x28_0 != sum4) || (x28_1 != (0 : Int))) (
      mRet (.bool false)) (
      K_signalboxlaw15_FramesNest_8 l0 s3 (IntKind.i64.wrap (sum4 + (IntKind.i64.wrap x22))) t16 t17 (IntKind.i64.wrap (t18 + (1 : Int))))) (
    K_signalboxlaw15_FramesNest_16 s3 sum4 (IntKind.i64.wrap ((l0.n : Int) - (1 : Int))))
def B_signalboxlaw15_FramesNest_16 (s3 : Option Addr) (sum4 : Int) (i9 : Int) : M Value :=
  mIf (decide (i9 ≥ (0 : Int))) (
    mBind (N_frames_Stack_Pop s3 i9) fun r52 =>
    unI .i64 r52 fun (x52 : Int) =>
    mIf (x52 != (0 : Int)) (
      mRet (.bool false)) (
      K_signalboxlaw15_FramesNest_16 s3 sum4 (IntKind.i64.wrap (i9 - (1 : Int))))) (
    mBind (N_frames_Stack_Depth s3) fun r55 =>
    unI .i64 r55 fun (x55 : Int) =>
    mBind (mIf (x55 == (0 : Int)) (mBind (N_frames_Stack_Peak s3) fun r59 =>
      unI .i64 r59 fun (x59 : Int) =>
      mRet (x59 == sum4)) (mRet false)) fun (b9 : Bool) =>
    mBind (mIf b9 (mBind (N_frames_Stack_Pop s3 (0 : Int)) fun r65 =>
      unI .i64 r65 fun (x65 : Int) =>
      mRet (x65 == (8 : Int))) (mRet false)) fun (b11 : Bool) =>
    mRet (.bool b11))
theorem E_signalboxlaw15_FramesNest (l0 : Sl) : ev Try.prog 8 Try.f8.results.toList C_signalboxlaw15_FramesNest D_signalboxlaw15_FramesNest 400 false [.code (bodyOf Try.f8)] (List.map some [.slice l0.p l0.n l0.c] ++ List.replicate (Try.f8.ntmps - List.length ([.slice l0.p l0.n l0.c] : List Value)) none) = B_signalboxlaw15_FramesNest l0 := by kernel_rfl
theorem S_signalboxlaw15_FramesNest (l0 : Sl) {h : Hp} {Q : Value → Hp → Prop} (hb : B_signalboxlaw15_FramesNest l0 h Q) : N_signalboxlaw15_FramesNest l0 h Q :=
  Nf.of_ev Try.call8 Try.func8 (c := bodyOf Try.f8) rfl mixed C_signalboxlaw15_FramesNest D_signalboxlaw15_FramesNest 400 (args := [.slice l0.p l0.n l0.c]) (by rw [E_signalboxlaw15_FramesNest]; exact hb)
theorem E_signalboxlaw15_FramesNest_8 (l0 : Sl) (s3 : Option Addr) (sum4 : Int) (t16 : Sl) (t17 : Int) (t18 : Int) : ev Try.prog 8 Try.f8.results.toList C_signalboxlaw15_FramesNest D_signalboxlaw15_FramesNest 400 true (todoOf Try.f8 8) (T_signalboxlaw15_FramesNest_8 l0 s3 sum4 t16 t17 t18) = B_signalboxlaw15_FramesNest_8 l0 s3 sum4 t16 t17 t18 := by kernel_rfl
theorem S_signalboxlaw15_FramesNest_8 (l0 : Sl) (s3 : Option Addr) (sum4 : Int) (t16 : Sl) (t17 : Int) (t18 : Int) {h : Hp} {Q : Value → Hp → Prop} (hb : B_signalboxlaw15_FramesNest_8 l0 s3 sum4 t16 t17 t18 h Q) : K_signalboxlaw15_FramesNest_8 l0 s3 sum4 t16 t17 t18 h Q :=
  Cut.of_ev Try.func8 mixed C_signalboxlaw15_FramesNest D_signalboxlaw15_FramesNest 400 (by rw [E_signalboxlaw15_FramesNest_8]; exact hb)
theorem E_signalboxlaw15_FramesNest_16 (s3 : Option Addr) (sum4 : Int) (i9 : Int) : ev Try.prog 8 Try.f8.results.toList C_signalboxlaw15_FramesNest D_signalboxlaw15_FramesNest 400 true (todoOf Try.f8 16) (T_signalboxlaw15_FramesNest_16 s3 sum4 i9) = B_signalboxlaw15_FramesNest_16 s3 sum4 i9 := by kernel_rfl
theorem S_signalboxlaw15_FramesNest_16 (s3 : Option Addr) (sum4 : Int) (i9 : Int) {h : Hp} {Q : Value → Hp → Prop} (hb : B_signalboxlaw15_FramesNest_16 s3 sum4 i9 h Q) : K_signalboxlaw15_FramesNest_16 s3 sum4 i9 h Q :=
  Cut.of_ev Try.func8 mixed C_signalboxlaw15_FramesNest D_signalboxlaw15_FramesNest 400 (by rw [E_signalboxlaw15_FramesNest_16]; exact hb)
def C_signalboxlaw15_FramesPlay : List (Nat × List Nat) := [(9, [3, 4, 5, 6, 29, 30, 31]), (30, [3, 4, 5, 6, 29, 30, 31]), (36, [3, 4, 5, 6, 15, 29, 30, 31, 160, 161, 162])]
def D_signalboxlaw15_FramesPlay : List (Nat × List Nat) := [(32, [])]
def T_signalboxlaw15_FramesPlay_9 (s3 : Option Addr) (row4 : Sl) (depth5 : Int) (peak6 : Int) (t29 : Sl) (t30 : Int) (t31 : Int) : Env := mkEnv [(3, .pointer s3), (4, .slice row4.p row4.n row4.c), (5, .int .i64 depth5), (6, .int .i64 peak6), (29, .slice t29.p t29.n t29.c), (30, .int .i64 t30), (31, .int .i64 t31)] 219 0
def K_signalboxlaw15_FramesPlay_9 (s3 : Option Addr) (row4 : Sl) (depth5 : Int) (peak6 : Int) (t29 : Sl) (t30 : Int) (t31 : Int) : M Value := Cut Try.prog 7 (todoOf Try.f7 9) (T_signalboxlaw15_FramesPlay_9 s3 row4 depth5 peak6 t29 t30 t31)
def T_signalboxlaw15_FramesPlay_30 (s3 : Option Addr) (row4 : Sl) (depth5 : Int) (peak6 : Int) (t29 : Sl) (t30 : Int) (t31 : Int) : Env := mkEnv [(3, .pointer s3), (4, .slice row4.p row4.n row4.c), (5, .int .i64 depth5), (6, .int .i64 peak6), (29, .slice t29.p t29.n t29.c), (30, .int .i64 t30), (31, .int .i64 t31)] 219 0
def K_signalboxlaw15_FramesPlay_30 (s3 : Option Addr) (row4 : Sl) (depth5 : Int) (peak6 : Int) (t29 : Sl) (t30 : Int) (t31 : Int) : M Value := Cut Try.prog 7 (todoOf Try.f7 30) (T_signalboxlaw15_FramesPlay_30 s3 row4 depth5 peak6 t29 t30 t31)
def T_signalboxlaw15_FramesPlay_36 (s3 : Option Addr) (row4 : Sl) (depth5 : Int) (peak6 : Int) (end15 : Int) (t29 : Sl) (t30 : Int) (t31 : Int) (t160 : Sl) (t161 : Int) (t162 : Int) : Env := mkEnv [(3, .pointer s3), (4, .slice row4.p row4.n row4.c), (5, .int .i64 depth5), (6, .int .i64 peak6), (15, .int .i64 end15), (29, .slice t29.p t29.n t29.c), (30, .int .i64 t30), (31, .int .i64 t31), (160, .slice t160.p t160.n t160.c), (161, .int .i64 t161), (162, .int .i64 t162)] 219 0
def K_signalboxlaw15_FramesPlay_36 (s3 : Option Addr) (row4 : Sl) (depth5 : Int) (peak6 : Int) (end15 : Int) (t29 : Sl) (t30 : Int) (t31 : Int) (t160 : Sl) (t161 : Int) (t162 : Int) : M Value := Cut Try.prog 7 (todoOf Try.f7 36) (T_signalboxlaw15_FramesPlay_36 s3 row4 depth5 peak6 end15 t29 t30 t31 t160 t161 t162)
def B_signalboxlaw15_FramesPlay (l0 : Sl) : M Value :=
  mBind (N_signalboxlaw15_fixed) fun r23 =>
  unB r23 fun (x23 : Bool) =>
  mIf (!x23) (
    mRet (.bool false)) (
    mIf (decide ((l0.n : Int) > (200 : Int))) (
      mRet (.bool true)) (
      mBind (N_frames_New) fun r28 =>
      unP r28 fun (x28 : Option Addr) =>
      K_signalboxlaw15_FramesPlay_9 x28 (Sl.mk none 0 0) (0 : Int) (0 : Int) l0 (l0.n : Int) (0 : Int)))
def B_signalboxlaw15_FramesPlay_9 (s3 : Option Addr) (row4 : Sl) (depth5 : Int) (peak6 : Int) (t29 : Sl) (t30 : Int) (t31 : Int) : M Value :=
  mIf (decide (t31 < t30)) (
    mIdx t29 t31 3 fun (x33 : Addr) =>
    mLdB x33 fun (x34_0 : Bool) =>
    mLdI .i64 (x33.add 1) fun (x34_1 : Int) =>
    mLdI .i64 (x33.add 2) fun (x34_2 : Int) =>
    mNew #[.bool false, .int .i64 (0 : Int), .int .i64 (0 : Int)] 65 fun (x8 : Addr) =>
    mSt x8 (.bool x34_0) <|
    mSt (x8.add 1) (.int .i64 x34_1) <|
    mSt (x8.add 2) (.int .i64 x34_2) <|
    mLdB x8 fun (x36 : Bool) =>
    mIf x36 (
      mIf ((row4.n : Int) == (0 : Int)) (
        mLdI .i64 (x8.add 1) fun (x66 : Int) =>
        mBind (N_frames_Stack_Pop s3 x66) fun r67 =>
        unI .i64 r67 fun (x67 : Int) =>
        mIf (x67 != (8 : Int)) (
          mRet (.bool false)) (
          K_signalboxlaw15_FramesPlay_30 s3 row4 depth5 peak6 t29 t30 t31)) (
        mIdx row4 (IntKind.i64.wrap ((row4.n : Int) - (1 : Int))) 3 fun (x58 : Addr) =>
        mLdI .i64 x58 fun (x60 : Int) =>
        mLdI .i64 (x8.add 1) fun (x62 : Int) =>
        mIf (x60 != x62) (
          mLdI .i64 (x8.add 1) fun (x66_18 : Int) =>
          mBind (N_frames_Stack_Pop s3 x66_18) fun r67_19 =>
          unI .i64 r67_19 fun (x67_19 : Int) =>
          mIf (x67_19 != (9 : Int)) (
            mRet (.bool false)) (
            K_signalboxlaw15_FramesPlay_30 s3 row4 depth5 peak6 t29 t30 t31)) (
          mIdx row4 (IntKind.i64.wrap ((row4.n : Int) - (1 : Int))) 3 fun (x41 : Addr) =>
          mLdI .i64 (x41.add 1) fun (x43 : Int) =>
          mSlc row4 3 (0 : Int) (IntKind.i64.wrap ((row4.n : Int) - (1 : Int))) (row4.c : Int) fun (x48 : Sl) =>
          mLdI .i64 (x8.add 1) fun (x66_25 : Int) =>
          mBind (N_frames_Stack_Pop s3 x66_25) fun r67_26 =>
          unI .i64 r67_26 fun (x67_26 : Int) =>
          mIf (x67_26 != (0 : Int)) (
            mRet (.bool false)) (
            K_signalboxlaw15_FramesPlay_30 s3 x48 x43 peak6 t29 t30 t31)))) (
      mLdI .i64 (x8.add 1) fun (x73 : Int) =>
      mLdI .i64 (x8.add 2) fun (x75 : Int) =>
      mBind (N_frames_Stack_Push s3 x73 x75) fun r76 =>
      un2 (unI .i64) (unI .i64) r76 fun (x76_0 : Int) (x76_1 : Int) =>
      mLdI .i64 (x8.add 2) fun (x80 : Int) =>
      mBind (mIf (decide (x80 < (0 : Int))) (mRet true) (mLdI .i64 (x8.add 2) fun (x84 : Int) =>
        mRet (decide (x84 > (4096 : Int))))) fun (b36 : Bool) =>
      mIf b36 (
        mIf ((x76_1 != (5 : Int)) || (x76_0 != (0 : Int))) (
          mRet (.bool false)) (
          K_signalboxlaw15_FramesPlay_30 s3 row4 depth5 peak6 t29 t30 t31)) (
        mIf ((x76_1 != (0 : Int)) || (x76_0 != depth5)) (
          mRet (.bool false)) (
          mLdI .i64 (x8.add 1) fun (x102 : Int) =>
          mLdI .i64 (x8.add 2) fun (x105 : Int) =>
          mNew #[.int .i64 x102, .int .i64 depth5, .int .i64 x105] 67 fun (x107 : Addr) =>
          mApp 67 3 24 #[.int .i64 (0 : Int), .int .i64 (0 : Int), .int .i64 (0 : Int)] row4 ⟨(some x107), 1, 1⟩ fun (x108 : Sl) =>
          mLdI .i64 (x8.add 2) fun (x111 : Int) =>
          K_signalboxlaw15_FramesPlay_30 s3 x108 (IntKind.i64.wrap (depth5 + x111)) (if (IntKind.i64.wrap (depth5 + x111)) > peak6 then (IntKind.i64.wrap (depth5 + x111)) else peak6) t29 t30 t31)))) (
    mBind (N_frames_Stack_Push none (1 : Int) (1 : Int)) fun r188 =>
    un2 (unI .i64) (unI .i64) r188 fun (_x188_0 : Int) (x188_1 : Int) =>
    mBind (N_frames_Stack_Top none) fun r193 =>
    unT r193 fun x193l =>
    unC x193l fun x193v0 x193l0 =>
    unA x193v0 fun x193_0l =>
    unC x193_0l fun x193_0v0 x193_0l0 =>
    unI .i64 x193_0v0 fun (x193_0_0 : Int) =>
    unC x193_0l0 fun x193_0v1 x193_0l1 =>
    unI .i64 x193_0v1 fun (x193_0_1 : Int) =>
    unC x193_0l1 fun x193_0v2 x193_0l2 =>
    unI .i64 x193_0v2 fun (x193_0_2 : Int) =>
    unE x193_0l2 <|
    unC x193l0 fun x193v1 x193l1 =>
    unB x193v1 fun (x193_1 : Bool) =>
    unE x193l1 <|
    mNew #[.int .i64 (0 : Int), .int .i64 (0 : Int), .int .i64 (0 : Int)] 67 fun (x21 : Addr) =>
    mSt x21 (.int .i64 x193_0_0) <|
    mSt (x21.add 1) (.int .i64 x193_0_1) <|
    mSt (x21.add 2) (.int .i64 x193_0_2) <|
    mBind (mIf (x188_1 == (1 : Int)) (mBind (N_frames_Stack_Pop none (1 : Int)) fun r200 =>
      unI .i64 r200 fun (x200 : Int) =>
      mRet (x200 == (8 : Int))) (mRet false)) fun (b50 : Bool) =>
    mBind (mIf b50 (mBind (N_frames_Stack_Depth none) fun r205 =>
      unI .i64 r205 fun (x205 : Int) =>
      mBind (N_frames_Stack_Peak none) fun r207 =>
      unI .i64 r207 fun (x207 : Int) =>
      mBind (N_frames_Stack_All none) fun r210 =>
      unL r210 fun (x210 : Sl) =>
      mRet ((IntKind.i64.wrap ((IntKind.i64.wrap (x205 + x207)) + (x210.n : Int))) == (0 : Int))) (mRet false)) fun (b54 : Bool) =>
    mRet (.bool (b54 && (!x193_1))))
def B_signalboxlaw15_FramesPlay_30 (s3 : Option Addr) (row4 : Sl) (depth5 : Int) (peak6 : Int) (t29 : Sl) (t30 : Int) (t31 : Int) : M Value :=
  mBind (N_frames_Stack_All s3) fun r117 =>
  unL r117 fun (x117 : Sl) =>
  mBind (N_frames_Stack_Top s3) fun r120 =>
  unT r120 fun x120l =>
  unC x120l fun x120v0 x120l0 =>
  unA x120v0 fun x120_0l =>
  unC x120_0l fun x120_0v0 x120_0l0 =>
  unI .i64 x120_0v0 fun (x120_0_0 : Int) =>
  unC x120_0l0 fun x120_0v1 x120_0l1 =>
  unI .i64 x120_0v1 fun (x120_0_1 : Int) =>
  unC x120_0l1 fun x120_0v2 x120_0l2 =>
  unI .i64 x120_0v2 fun (x120_0_2 : Int) =>
  unE x120_0l2 <|
  unC x120l0 fun x120v1 x120l1 =>
  unB x120v1 fun (x120_1 : Bool) =>
  unE x120l1 <|
  mNew #[.int .i64 (0 : Int), .int .i64 (0 : Int), .int .i64 (0 : Int)] 67 fun (x13 : Addr) =>
  mSt x13 (.int .i64 x120_0_0) <|
  mSt (x13.add 1) (.int .i64 x120_0_1) <|
  mSt (x13.add 2) (.int .i64 x120_0_2) <|
  mIf ((x117.n : Int) != (row4.n : Int)) (
    mAnd (
      mRet (.bool false)) (
      mAnd (
        mRet (.bool false)) (
        mRet (.bool false)))) (
    mBind (N_frames_Stack_Depth s3) fun r130 =>
    unI .i64 r130 fun (x130 : Int) =>
    mIf (match false with | true => true | false => (x130 != depth5)) (
      mAnd (
        mRet (.bool false)) (
        mAnd (
          mRet (.bool false)) (
          mRet (.bool false)))) (
      mBind (N_frames_Stack_Peak s3) fun r136 =>
      unI .i64 r136 fun (x136 : Int) =>
      mIf (match false with | true => true | false => (x136 != peak6)) (
        mAnd (
          mRet (.bool false)) (
          mAnd (
            mRet (.bool false)) (
            mRet (.bool false)))) (
        mIf (match false with | true => true | false => (!(x120_1 == (decide ((row4.n : Int) > (0 : Int)))))) (
          mAnd (
            mRet (.bool false)) (
            mAnd (
              mRet (.bool false)) (
              mRet (.bool false)))) (
          mIf x120_1 (
            mIdx row4 (IntKind.i64.wrap ((row4.n : Int) - (1 : Int))) 3 fun (x155 : Addr) =>
            mAnd (
              mLdI .i64 x13 fun (x150_82_0 : Int) =>
              mLdI .i64 (x13.add 1) fun (x150_82_1 : Int) =>
              mLdI .i64 (x13.add 2) fun (x150_82_2 : Int) =>
              mLdI .i64 x155 fun (x156_83_0 : Int) =>
              mLdI .i64 (x155.add 1) fun (x156_83_1 : Int) =>
              mLdI .i64 (x155.add 2) fun (x156_83_2 : Int) =>
              mIf (match false with | true => true | false => (match true with | true => (!((x150_82_0 == x156_83_0) && ((x150_82_1 == x156_83_1) && ((x150_82_2 == x156_83_2) && true)))) | false => false)) (
                mRet (.bool false)) (
                K_signalboxlaw15_FramesPlay_36 s3 row4 depth5 peak6 (0 : Int) t29 t30 t31 x117 (x117.n : Int) (0 : Int))) (
              mLdI .i64 x155 fun (x156_0 : Int) =>
              mLdI .i64 (x155.add 1) fun (x156_1 : Int) =>
              mLdI .i64 (x155.add 2) fun (x156_2 : Int) =>
              mLdI .i64 x13 fun (x150_0 : Int) =>
              mLdI .i64 (x13.add 1) fun (x150_1 : Int) =>
              mLdI .i64 (x13.add 2) fun (x150_2 : Int) =>
              mIf (match false with | true => true | false => (match true with | true => (!((x150_0 == x156_0) && ((x150_1 == x156_1) && ((x150_2 == x156_2) && true)))) | false => false)) (
                mRet (.bool false)) (
                K_signalboxlaw15_FramesPlay_36 s3 row4 depth5 peak6 (0 : Int) t29 t30 t31 x117 (x117.n : Int) (0 : Int)))) (
            mAnd (
              mIf (match false with | true => true | false => false) (
                mRet (.bool false)) (
                K_signalboxlaw15_FramesPlay_36 s3 row4 depth5 peak6 (0 : Int) t29 t30 t31 x117 (x117.n : Int) (0 : Int))) (
              mAnd (
                mIf (match false with | true => true | false => false) (
                  mRet (.bool false)) (
                  K_signalboxlaw15_FramesPlay_36 s3 row4 depth5 peak6 (0 : Int) t29 t30 t31 x117 (x117.n : Int) (0 : Int))) (
                mIf (match false with | true => true | false => false) (
                  mRet (.bool false)) (
                  K_signalboxlaw15_FramesPlay_36 s3 row4 depth5 peak6 (0 : Int) t29 t30 t31 x117 (x117.n : Int) (0 : Int)))))))))
def B_signalboxlaw15_FramesPlay_36 (s3 : Option Addr) (row4 : Sl) (depth5 : Int) (peak6 : Int) (end15 : Int) (t29 : Sl) (t30 : Int) (t31 : Int) (t160 : Sl) (t161 : Int) (t162 : Int) : M Value :=
  mIf (decide (t162 < t161)) (
    mIdx t160 t162 3 fun (x165 : Addr) =>
    mLdI .i64 x165 fun (x166_0 : Int) =>
    mLdI .i64 (x165.add 1) fun (x166_1 : Int) =>
    mLdI .i64 (x165.add 2) fun (x166_2 : Int) =>
    mNew #[.int .i64 (0 : Int), .int .i64 (0 : Int), .int .i64 (0 : Int)] 67 fun (x17 : Addr) =>
    mSt x17 (.int .i64 x166_0) <|
    mSt (x17.add 1) (.int .i64 x166_1) <|
    mSt (x17.add 2) (.int .i64 x166_2) <|
    mLdI .i64 x17 fun (x167_0 : Int) =>
    mLdI .i64 (x17.add 1) fun (x167_1 : Int) =>
    mLdI .i64 (x17.add 2) fun (x167_2 : Int) =>
    mIdx row4 t162 3 fun (x170 : Addr) =>
    mLdI .i64 x170 fun (x171_0 : Int) =>
    mLdI .i64 (x170.add 1) fun (x171_1 : Int) =>
    mLdI .i64 (x170.add 2) fun (x171_2 : Int) =>
    mBind (mIf (!((x167_0 == x171_0) && ((x167_1 == x171_1) && ((x167_2 == x171_2) && true)))) (mRet true) (mLdI .i64 (x17.add 1) fun (x175 : Int) =>
      mRet (x175 != end15))) fun (b96 : Bool) =>
    mIf b96 (
      mRet (.bool false)) (
      mLdI .i64 (x17.add 1) fun (x180 : Int) =>
      mLdI .i64 (x17.add 2) fun (x182 : Int) =>
      K_signalboxlaw15_FramesPlay_36 s3 row4 depth5 peak6 (IntKind.i64.wrap (x180 + x182)) t29 t30 t31 t160 t161 (IntKind.i64.wrap (t162 + (1 : Int))))) (
    K_signalboxlaw15_FramesPlay_9 s3 row4 depth5 peak6 t29 t30 (IntKind.i64.wrap (t31 + (1 : Int))))
theorem E_signalboxlaw15_FramesPlay (l0 : Sl) : ev Try.prog 7 Try.f7.results.toList C_signalboxlaw15_FramesPlay D_signalboxlaw15_FramesPlay 400 false [.code (bodyOf Try.f7)] (List.map some [.slice l0.p l0.n l0.c] ++ List.replicate (Try.f7.ntmps - List.length ([.slice l0.p l0.n l0.c] : List Value)) none) = B_signalboxlaw15_FramesPlay l0 := by kernel_rfl
theorem S_signalboxlaw15_FramesPlay (l0 : Sl) {h : Hp} {Q : Value → Hp → Prop} (hb : B_signalboxlaw15_FramesPlay l0 h Q) : N_signalboxlaw15_FramesPlay l0 h Q :=
  Nf.of_ev Try.call7 Try.func7 (c := bodyOf Try.f7) rfl mixed C_signalboxlaw15_FramesPlay D_signalboxlaw15_FramesPlay 400 (args := [.slice l0.p l0.n l0.c]) (by rw [E_signalboxlaw15_FramesPlay]; exact hb)
theorem E_signalboxlaw15_FramesPlay_9 (s3 : Option Addr) (row4 : Sl) (depth5 : Int) (peak6 : Int) (t29 : Sl) (t30 : Int) (t31 : Int) : ev Try.prog 7 Try.f7.results.toList C_signalboxlaw15_FramesPlay D_signalboxlaw15_FramesPlay 400 true (todoOf Try.f7 9) (T_signalboxlaw15_FramesPlay_9 s3 row4 depth5 peak6 t29 t30 t31) = B_signalboxlaw15_FramesPlay_9 s3 row4 depth5 peak6 t29 t30 t31 := by kernel_rfl
theorem S_signalboxlaw15_FramesPlay_9 (s3 : Option Addr) (row4 : Sl) (depth5 : Int) (peak6 : Int) (t29 : Sl) (t30 : Int) (t31 : Int) {h : Hp} {Q : Value → Hp → Prop} (hb : B_signalboxlaw15_FramesPlay_9 s3 row4 depth5 peak6 t29 t30 t31 h Q) : K_signalboxlaw15_FramesPlay_9 s3 row4 depth5 peak6 t29 t30 t31 h Q :=
  Cut.of_ev Try.func7 mixed C_signalboxlaw15_FramesPlay D_signalboxlaw15_FramesPlay 400 (by rw [E_signalboxlaw15_FramesPlay_9]; exact hb)
theorem E_signalboxlaw15_FramesPlay_30 (s3 : Option Addr) (row4 : Sl) (depth5 : Int) (peak6 : Int) (t29 : Sl) (t30 : Int) (t31 : Int) : ev Try.prog 7 Try.f7.results.toList C_signalboxlaw15_FramesPlay D_signalboxlaw15_FramesPlay 400 true (todoOf Try.f7 30) (T_signalboxlaw15_FramesPlay_30 s3 row4 depth5 peak6 t29 t30 t31) = B_signalboxlaw15_FramesPlay_30 s3 row4 depth5 peak6 t29 t30 t31 := by kernel_rfl
theorem S_signalboxlaw15_FramesPlay_30 (s3 : Option Addr) (row4 : Sl) (depth5 : Int) (peak6 : Int) (t29 : Sl) (t30 : Int) (t31 : Int) {h : Hp} {Q : Value → Hp → Prop} (hb : B_signalboxlaw15_FramesPlay_30 s3 row4 depth5 peak6 t29 t30 t31 h Q) : K_signalboxlaw15_FramesPlay_30 s3 row4 depth5 peak6 t29 t30 t31 h Q :=
  Cut.of_ev Try.func7 mixed C_signalboxlaw15_FramesPlay D_signalboxlaw15_FramesPlay 400 (by rw [E_signalboxlaw15_FramesPlay_30]; exact hb)
theorem E_signalboxlaw15_FramesPlay_36 (s3 : Option Addr) (row4 : Sl) (depth5 : Int) (peak6 : Int) (end15 : Int) (t29 : Sl) (t30 : Int) (t31 : Int) (t160 : Sl) (t161 : Int) (t162 : Int) : ev Try.prog 7 Try.f7.results.toList C_signalboxlaw15_FramesPlay D_signalboxlaw15_FramesPlay 400 true (todoOf Try.f7 36) (T_signalboxlaw15_FramesPlay_36 s3 row4 depth5 peak6 end15 t29 t30 t31 t160 t161 t162) = B_signalboxlaw15_FramesPlay_36 s3 row4 depth5 peak6 end15 t29 t30 t31 t160 t161 t162 := by kernel_rfl
theorem S_signalboxlaw15_FramesPlay_36 (s3 : Option Addr) (row4 : Sl) (depth5 : Int) (peak6 : Int) (end15 : Int) (t29 : Sl) (t30 : Int) (t31 : Int) (t160 : Sl) (t161 : Int) (t162 : Int) {h : Hp} {Q : Value → Hp → Prop} (hb : B_signalboxlaw15_FramesPlay_36 s3 row4 depth5 peak6 end15 t29 t30 t31 t160 t161 t162 h Q) : K_signalboxlaw15_FramesPlay_36 s3 row4 depth5 peak6 end15 t29 t30 t31 t160 t161 t162 h Q :=
  Cut.of_ev Try.func7 mixed C_signalboxlaw15_FramesPlay D_signalboxlaw15_FramesPlay 400 (by rw [E_signalboxlaw15_FramesPlay_36]; exact hb)
end Go.Proofs.Ytkoenpliddhhoaa
