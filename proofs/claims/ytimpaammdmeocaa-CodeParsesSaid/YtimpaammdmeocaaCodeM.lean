/- What the functions of this layer come to, as forms of the small logic; written by program. Conditions: none. -/
import Derived.Test.YtimpaammdmeocaaSbU
import Derived.Test.YtimpaammdmeocaaCfgM
import Derived.Test.YtimpaammdmeocaaSameM
import Derived.Test.YtimpaammdmeocaaChecked
import Derived.KernelRfl
set_option maxRecDepth 100000
namespace Go.Proofs.Ytimpaammdmeocaa
open Go Go.Sb
def N_signalboxlaw46_CodeNumbers (b0 : Sl) (n1 : Int) : M Value := Nf Try.prog 3 #[.slice b0.p b0.n b0.c, .int .i64 n1]
def N_signalboxlaw46_CodeBytes (c0_0 : Int) (c0_1 : Int) (c0_2 : Int) (c0_3 : Int) (c0_4 : Sl) (c0_5 : Int) (c0_6 : Sl) (c0_7 : Sl) (c0_8 : Sl) (c0_9 : Sl) : M Value := Nf Try.prog 4 #[.agg #[.int .i64 c0_0, .int .i64 c0_1, .int .i64 c0_2, .int .i64 c0_3, .slice c0_4.p c0_4.n c0_4.c, .int .i64 c0_5, .slice c0_6.p c0_6.n c0_6.c, .slice c0_7.p c0_7.n c0_7.c, .slice c0_8.p c0_8.n c0_8.c, .slice c0_9.p c0_9.n c0_9.c]]
def N_signalboxlaw46_CodeParses (c0_0 : Int) (c0_1 : Int) (c0_2 : Int) (c0_3 : Int) (c0_4 : Sl) (c0_5 : Int) (c0_6 : Sl) (c0_7 : Sl) (c0_8 : Sl) (c0_9 : Sl) (at1 : Int) (by2 : Int) (raw3 : Sl) : M Value := Nf Try.prog 5 #[.agg #[.int .i64 c0_0, .int .i64 c0_1, .int .i64 c0_2, .int .i64 c0_3, .slice c0_4.p c0_4.n c0_4.c, .int .i64 c0_5, .slice c0_6.p c0_6.n c0_6.c, .slice c0_7.p c0_7.n c0_7.c, .slice c0_8.p c0_8.n c0_8.c, .slice c0_9.p c0_9.n c0_9.c], .int .u16 at1, .int .u8 by2, .slice raw3.p raw3.n raw3.c]
def N_signalboxlaw46_fixed : M Value := Nf Try.prog 7 #[]
def N_code_Number (b0 : Sl) (n1 : Int) : M Value := Nf Try.prog 8 #[.slice b0.p b0.n b0.c, .int .i64 n1]
def N_signalboxref46_Number (b0 : Sl) (n1 : Int) : M Value := Nf Try.prog 9 #[.slice b0.p b0.n b0.c, .int .i64 n1]
def N_code_Sum (b0 : Sl) : M Value := Nf Try.prog 10 #[.slice b0.p b0.n b0.c]
def N_signalboxref46_Sum (b0 : Sl) : M Value := Nf Try.prog 11 #[.slice b0.p b0.n b0.c]
def N_code_Read (b0 : Sl) : M Value := Nf Try.prog 12 #[.slice b0.p b0.n b0.c]
def N_signalboxref46_Read (b0 : Sl) : M Value := Nf Try.prog 13 #[.slice b0.p b0.n b0.c]
def N_code_Bytes (c0_0 : Int) (c0_1 : Int) (c0_2 : Int) (c0_3 : Int) (c0_4 : Sl) (c0_5 : Int) (c0_6 : Sl) (c0_7 : Sl) (c0_8 : Sl) (c0_9 : Sl) : M Value := Nf Try.prog 15 #[.agg #[.int .i64 c0_0, .int .i64 c0_1, .int .i64 c0_2, .int .i64 c0_3, .slice c0_4.p c0_4.n c0_4.c, .int .i64 c0_5, .slice c0_6.p c0_6.n c0_6.c, .slice c0_7.p c0_7.n c0_7.c, .slice c0_8.p c0_8.n c0_8.c, .slice c0_9.p c0_9.n c0_9.c]]
def N_code_Parse (b0 : Sl) : M Value := Nf Try.prog 17 #[.slice b0.p b0.n b0.c]
def N_signalboxref46_Bytes (c0_0 : Int) (c0_1 : Int) (c0_2 : Int) (c0_3 : Int) (c0_4 : Sl) (c0_5 : Int) (c0_6 : Sl) (c0_7 : Sl) (c0_8 : Sl) (c0_9 : Sl) : M Value := Nf Try.prog 18 #[.agg #[.int .i64 c0_0, .int .i64 c0_1, .int .i64 c0_2, .int .i64 c0_3, .slice c0_4.p c0_4.n c0_4.c, .int .i64 c0_5, .slice c0_6.p c0_6.n c0_6.c, .slice c0_7.p c0_7.n c0_7.c, .slice c0_8.p c0_8.n c0_8.c, .slice c0_9.p c0_9.n c0_9.c]]
def N_signalboxlaw46_one : M Value := Nf Try.prog 28 #[]
def N_code_begin : M Value := Nf Try.prog 30 #[]
def N_code_writer_put (w0 : Option Addr) (l1 : Sl) : M Value := Nf Try.prog 31 #[.pointer w0, .slice l1.p l1.n l1.c]
def N_code_writer_list (w0 : Option Addr) (l1 : Sl) : M Value := Nf Try.prog 32 #[.pointer w0, .slice l1.p l1.n l1.c]
def N_bytes_CutPrefix (s0 : Sl) (prefix1 : Sl) : M Value := Nf Try.prog 36 #[.slice s0.p s0.n s0.c, .slice prefix1.p prefix1.n prefix1.c]
def N_code_cursor_number (r0 : Option Addr) : M Value := Nf Try.prog 37 #[.pointer r0]
def N_code_cursor_list (r0 : Option Addr) : M Value := Nf Try.prog 38 #[.pointer r0]
def N_code_cursor_many (r0 : Option Addr) : M Value := Nf Try.prog 39 #[.pointer r0]
def N_code_cursor_task (r0 : Option Addr) : M Value := Nf Try.prog 40 #[.pointer r0]
def N_signalboxref46_list (b0 : Sl) (l1 : Sl) : M Value := Nf Try.prog 41 #[.slice b0.p b0.n b0.c, .slice l1.p l1.n l1.c]
def N_bytes_HasPrefix (s0 : Sl) (prefix1 : Sl) : M Value := Nf Try.prog 58 #[.slice s0.p s0.n s0.c, .slice prefix1.p prefix1.n prefix1.c]
def N_bytes_Equal (a0 : Sl) (b1 : Sl) : M Value := Nf Try.prog 73 #[.slice a0.p a0.n a0.c, .slice b1.p b1.n b1.c]
def C_signalboxlaw46_CodeNumbers : List (Nat × List Nat) := [(7, []), (8, [0])]
def D_signalboxlaw46_CodeNumbers : List (Nat × List Nat) := [(6, [])]
def T_signalboxlaw46_CodeNumbers_7 : Env := mkEnv [] 65 0
def K_signalboxlaw46_CodeNumbers_7 : M Value := Cut Try.prog 3 (todoOf Try.f3 7) (T_signalboxlaw46_CodeNumbers_7)
def T_signalboxlaw46_CodeNumbers_8 (b0 : Sl) : Env := mkEnv [(0, .slice b0.p b0.n b0.c)] 65 0
def K_signalboxlaw46_CodeNumbers_8 (b0 : Sl) : M Value := Cut Try.prog 3 (todoOf Try.f3 8) (T_signalboxlaw46_CodeNumbers_8 b0)
def B_signalboxlaw46_CodeNumbers (b0 : Sl) (n1 : Int) : M Value :=
  mBind (N_signalboxlaw46_fixed) fun r12 =>
  unB r12 fun (x12 : Bool) =>
  mIf (!x12) (
    mRet (.bool false)) (
    mIf (decide ((b0.n : Int) > (300 : Int))) (
      mRet (.bool true)) (
      mNew #[] 5 fun (x17 : Addr) =>
      mApp 5 1 1 #[.int .u8 (0 : Int)] ⟨(some x17), 0, 0⟩ b0 fun (x19 : Sl) =>
      mBind (N_code_Number x19 n1) fun r21 =>
      unL r21 fun (x21 : Sl) =>
      mAnd (
        mStr x21 fun (x23_16 : ByteArray) =>
        mBind (N_signalboxref46_Number b0 n1) fun r26_17 =>
        unL r26_17 fun (x26_17 : Sl) =>
        mStr x26_17 fun (x27_18 : ByteArray) =>
        mIf (!((x23_16).toList == (x27_18).toList)) (
          K_signalboxlaw46_CodeNumbers_7) (
          mBind (N_code_Sum b0) fun r31_20 =>
          unI .u8 r31_20 fun (x31_20 : Int) =>
          mBind (N_signalboxref46_Sum b0) fun r33_21 =>
          unI .u8 r33_21 fun (x33_21 : Int) =>
          mIf (match false with | true => true | false => (x31_20 != x33_21)) (
            K_signalboxlaw46_CodeNumbers_7) (
            K_signalboxlaw46_CodeNumbers_8 b0))) (
        mBind (N_signalboxref46_Number b0 n1) fun r26 =>
        unL r26 fun (x26 : Sl) =>
        mAnd (
          mStr x21 fun (x23_11 : ByteArray) =>
          mStr x26 fun (x27_12 : ByteArray) =>
          mIf (!((x23_11).toList == (x27_12).toList)) (
            K_signalboxlaw46_CodeNumbers_7) (
            mBind (N_code_Sum b0) fun r31_14 =>
            unI .u8 r31_14 fun (x31_14 : Int) =>
            mBind (N_signalboxref46_Sum b0) fun r33_15 =>
            unI .u8 r33_15 fun (x33_15 : Int) =>
            mIf (match false with | true => true | false => (x31_14 != x33_15)) (
              K_signalboxlaw46_CodeNumbers_7) (
              K_signalboxlaw46_CodeNumbers_8 b0))) (
          mStr x26 fun (x27 : ByteArray) =>
          mStr x21 fun (x23 : ByteArray) =>
          mIf (!((x23).toList == (x27).toList)) (
            K_signalboxlaw46_CodeNumbers_7) (
            mBind (N_code_Sum b0) fun r31 =>
            unI .u8 r31 fun (x31 : Int) =>
            mBind (N_signalboxref46_Sum b0) fun r33 =>
            unI .u8 r33 fun (x33 : Int) =>
            mIf (match false with | true => true | false => (x31 != x33)) (
              K_signalboxlaw46_CodeNumbers_7) (
              K_signalboxlaw46_CodeNumbers_8 b0))))))
def B_signalboxlaw46_CodeNumbers_7 : M Value :=
  mRet (.bool false)
def B_signalboxlaw46_CodeNumbers_8 (b0 : Sl) : M Value :=
  mBind (N_code_Read b0) fun r38 =>
  un3 (unI .i64) (unI .i64) unB r38 fun (x38_0 : Int) (x38_1 : Int) (x38_2 : Bool) =>
  mBind (N_signalboxref46_Read b0) fun r44 =>
  un3 (unI .i64) (unI .i64) unB r44 fun (x44_0 : Int) (x44_1 : Int) (x44_2 : Bool) =>
  mBind (mIf (x38_2 == x44_2) (mBind (mIf (!x38_2) (mRet true) (mRet ((x38_0 == x44_0) && (x38_1 == x44_1)))) fun (b24 : Bool) =>
    mRet b24) (mRet false)) fun (b25 : Bool) =>
  mRet (.bool b25)
theorem E_signalboxlaw46_CodeNumbers (b0 : Sl) (n1 : Int) : ev Try.prog 3 Try.f3.results.toList C_signalboxlaw46_CodeNumbers D_signalboxlaw46_CodeNumbers 400 false [.code (bodyOf Try.f3)] (List.map some [.slice b0.p b0.n b0.c, .int .i64 n1] ++ List.replicate (Try.f3.ntmps - List.length ([.slice b0.p b0.n b0.c, .int .i64 n1] : List Value)) none) = B_signalboxlaw46_CodeNumbers b0 n1 := by kernel_rfl
theorem S_signalboxlaw46_CodeNumbers (b0 : Sl) (n1 : Int) {h : Hp} {Q : Value → Hp → Prop} (hb : B_signalboxlaw46_CodeNumbers b0 n1 h Q) : N_signalboxlaw46_CodeNumbers b0 n1 h Q :=
  Nf.of_ev Try.call3 Try.func3 (c := bodyOf Try.f3) rfl mixed C_signalboxlaw46_CodeNumbers D_signalboxlaw46_CodeNumbers 400 (args := [.slice b0.p b0.n b0.c, .int .i64 n1]) (by rw [E_signalboxlaw46_CodeNumbers]; exact hb)
theorem E_signalboxlaw46_CodeNumbers_7 : ev Try.prog 3 Try.f3.results.toList C_signalboxlaw46_CodeNumbers D_signalboxlaw46_CodeNumbers 400 true (todoOf Try.f3 7) (T_signalboxlaw46_CodeNumbers_7) = B_signalboxlaw46_CodeNumbers_7 := by kernel_rfl
theorem S_signalboxlaw46_CodeNumbers_7 {h : Hp} {Q : Value → Hp → Prop} (hb : B_signalboxlaw46_CodeNumbers_7 h Q) : K_signalboxlaw46_CodeNumbers_7 h Q :=
  Cut.of_ev Try.func3 mixed C_signalboxlaw46_CodeNumbers D_signalboxlaw46_CodeNumbers 400 (by rw [E_signalboxlaw46_CodeNumbers_7]; exact hb)
theorem E_signalboxlaw46_CodeNumbers_8 (b0 : Sl) : ev Try.prog 3 Try.f3.results.toList C_signalboxlaw46_CodeNumbers D_signalboxlaw46_CodeNumbers 400 true (todoOf Try.f3 8) (T_signalboxlaw46_CodeNumbers_8 b0) = B_signalboxlaw46_CodeNumbers_8 b0 := by kernel_rfl
theorem S_signalboxlaw46_CodeNumbers_8 (b0 : Sl) {h : Hp} {Q : Value → Hp → Prop} (hb : B_signalboxlaw46_CodeNumbers_8 b0 h Q) : K_signalboxlaw46_CodeNumbers_8 b0 h Q :=
  Cut.of_ev Try.func3 mixed C_signalboxlaw46_CodeNumbers D_signalboxlaw46_CodeNumbers 400 (by rw [E_signalboxlaw46_CodeNumbers_8]; exact hb)
def C_signalboxlaw46_CodeBytes : List (Nat × List Nat) := []
def D_signalboxlaw46_CodeBytes : List (Nat × List Nat) := [(10, [])]
def B_signalboxlaw46_CodeBytes (c0_0 : Int) (c0_1 : Int) (c0_2 : Int) (c0_3 : Int) (c0_4 : Sl) (c0_5 : Int) (c0_6 : Sl) (c0_7 : Sl) (c0_8 : Sl) (c0_9 : Sl) : M Value :=
  mNew #[.int .i64 c0_0, .int .i64 c0_1, .int .i64 c0_2, .int .i64 c0_3, .slice c0_4.p c0_4.n c0_4.c, .int .i64 c0_5, .slice c0_6.p c0_6.n c0_6.c, .slice c0_7.p c0_7.n c0_7.c, .slice c0_8.p c0_8.n c0_8.c, .slice c0_9.p c0_9.n c0_9.c] 34 fun (x1 : Addr) =>
  mBind (N_signalboxlaw46_fixed) fun r8 =>
  unB r8 fun (x8 : Bool) =>
  mIf (!x8) (
    mRet (.bool false)) (
    mLdI .i64 x1 fun (x10_0 : Int) =>
    mLdI .i64 (x1.add 1) fun (x10_1 : Int) =>
    mLdI .i64 (x1.add 2) fun (x10_2 : Int) =>
    mLdI .i64 (x1.add 3) fun (x10_3 : Int) =>
    mLdL (x1.add 4) fun (x10_4 : Sl) =>
    mLdI .i64 (x1.add 5) fun (x10_5 : Int) =>
    mLdL (x1.add 6) fun (x10_6 : Sl) =>
    mLdL (x1.add 7) fun (x10_7 : Sl) =>
    mLdL (x1.add 8) fun (x10_8 : Sl) =>
    mLdL (x1.add 9) fun (x10_9 : Sl) =>
    mBind (N_signalboxref07_Few x10_0 x10_1 x10_2 x10_3 x10_4 x10_5 x10_6 x10_7 x10_8 x10_9) fun r11 =>
    unB r11 fun (x11 : Bool) =>
    mBind (mIf (!x11) (mRet true) (mLdI .i64 (x1.add 5) fun (x15 : Int) =>
      mRet (decide (x15 > (1000 : Int))))) fun (b7 : Bool) =>
    mBind (mIf b7 (mRet true) (mLdI .i64 (x1.add 5) fun (x20 : Int) =>
      mRet (decide (x20 < (-1000 : Int))))) fun (b10 : Bool) =>
    mIf b10 (
      mRet (.bool true)) (
      mLdI .i64 x1 fun (x24_0 : Int) =>
      mLdI .i64 (x1.add 1) fun (x24_1 : Int) =>
      mLdI .i64 (x1.add 2) fun (x24_2 : Int) =>
      mLdI .i64 (x1.add 3) fun (x24_3 : Int) =>
      mLdL (x1.add 4) fun (x24_4 : Sl) =>
      mLdI .i64 (x1.add 5) fun (x24_5 : Int) =>
      mLdL (x1.add 6) fun (x24_6 : Sl) =>
      mLdL (x1.add 7) fun (x24_7 : Sl) =>
      mLdL (x1.add 8) fun (x24_8 : Sl) =>
      mLdL (x1.add 9) fun (x24_9 : Sl) =>
      mBind (N_code_Bytes x24_0 x24_1 x24_2 x24_3 x24_4 x24_5 x24_6 x24_7 x24_8 x24_9) fun r25 =>
      un2 unL (unI .i64) r25 fun (x25_0 : Sl) (x25_1 : Int) =>
      mLdI .i64 x1 fun (x28_0 : Int) =>
      mLdI .i64 (x1.add 1) fun (x28_1 : Int) =>
      mLdI .i64 (x1.add 2) fun (x28_2 : Int) =>
      mLdI .i64 (x1.add 3) fun (x28_3 : Int) =>
      mLdL (x1.add 4) fun (x28_4 : Sl) =>
      mLdI .i64 (x1.add 5) fun (x28_5 : Int) =>
      mLdL (x1.add 6) fun (x28_6 : Sl) =>
      mLdL (x1.add 7) fun (x28_7 : Sl) =>
      mLdL (x1.add 8) fun (x28_8 : Sl) =>
      mLdL (x1.add 9) fun (x28_9 : Sl) =>
      mBind (N_signalboxref07_Check x28_0 x28_1 x28_2 x28_3 x28_4 x28_5 x28_6 x28_7 x28_8 x28_9) fun r29 =>
      unI .i64 r29 fun (x29 : Int) =>
      mIf (x29 != (0 : Int)) (
        mRet (.bool ((x25_1 == x29) && ((x25_0.n : Int) == (0 : Int))))) (
        mBind (N_code_Parse x25_0) fun r42 =>
        unT r42 fun x42l =>
        unC x42l fun x42v0 x42l0 =>
        unA x42v0 fun x42_0l =>
        unC x42_0l fun x42_0v0 x42_0l0 =>
        unI .i64 x42_0v0 fun (x42_0_0 : Int) =>
        unC x42_0l0 fun x42_0v1 x42_0l1 =>
        unI .i64 x42_0v1 fun (x42_0_1 : Int) =>
        unC x42_0l1 fun x42_0v2 x42_0l2 =>
        unI .i64 x42_0v2 fun (x42_0_2 : Int) =>
        unC x42_0l2 fun x42_0v3 x42_0l3 =>
        unI .i64 x42_0v3 fun (x42_0_3 : Int) =>
        unC x42_0l3 fun x42_0v4 x42_0l4 =>
        unL x42_0v4 fun (x42_0_4 : Sl) =>
        unC x42_0l4 fun x42_0v5 x42_0l5 =>
        unI .i64 x42_0v5 fun (x42_0_5 : Int) =>
        unC x42_0l5 fun x42_0v6 x42_0l6 =>
        unL x42_0v6 fun (x42_0_6 : Sl) =>
        unC x42_0l6 fun x42_0v7 x42_0l7 =>
        unL x42_0v7 fun (x42_0_7 : Sl) =>
        unC x42_0l7 fun x42_0v8 x42_0l8 =>
        unL x42_0v8 fun (x42_0_8 : Sl) =>
        unC x42_0l8 fun x42_0v9 x42_0l9 =>
        unL x42_0v9 fun (x42_0_9 : Sl) =>
        unE x42_0l9 <|
        unC x42l0 fun x42v1 x42l1 =>
        unI .i64 x42v1 fun (x42_1 : Int) =>
        unE x42l1 <|
        mNew #[.int .i64 (0 : Int), .int .i64 (0 : Int), .int .i64 (0 : Int), .int .i64 (0 : Int), .slice none (0) (0), .int .i64 (0 : Int), .slice none (0) (0), .slice none (0) (0), .slice none (0) (0), .slice none (0) (0)] 34 fun (x6 : Addr) =>
        mSt x6 (.int .i64 x42_0_0) <|
        mSt (x6.add 1) (.int .i64 x42_0_1) <|
        mSt (x6.add 2) (.int .i64 x42_0_2) <|
        mSt (x6.add 3) (.int .i64 x42_0_3) <|
        mSt (x6.add 4) (.slice x42_0_4.p x42_0_4.n x42_0_4.c) <|
        mSt (x6.add 5) (.int .i64 x42_0_5) <|
        mSt (x6.add 6) (.slice x42_0_6.p x42_0_6.n x42_0_6.c) <|
        mSt (x6.add 7) (.slice x42_0_7.p x42_0_7.n x42_0_7.c) <|
        mSt (x6.add 8) (.slice x42_0_8.p x42_0_8.n x42_0_8.c) <|
        mSt (x6.add 9) (.slice x42_0_9.p x42_0_9.n x42_0_9.c) <|
        mIf (x25_1 == (0 : Int)) (
          mAnd (
            mStr x25_0 fun (x49_60 : ByteArray) =>
            mLdI .i64 x1 fun (x50_61_0 : Int) =>
            mLdI .i64 (x1.add 1) fun (x50_61_1 : Int) =>
            mLdI .i64 (x1.add 2) fun (x50_61_2 : Int) =>
            mLdI .i64 (x1.add 3) fun (x50_61_3 : Int) =>
            mLdL (x1.add 4) fun (x50_61_4 : Sl) =>
            mLdI .i64 (x1.add 5) fun (x50_61_5 : Int) =>
            mLdL (x1.add 6) fun (x50_61_6 : Sl) =>
            mLdL (x1.add 7) fun (x50_61_7 : Sl) =>
            mLdL (x1.add 8) fun (x50_61_8 : Sl) =>
            mLdL (x1.add 9) fun (x50_61_9 : Sl) =>
            mBind (N_signalboxref46_Bytes x50_61_0 x50_61_1 x50_61_2 x50_61_3 x50_61_4 x50_61_5 x50_61_6 x50_61_7 x50_61_8 x50_61_9) fun r51_62 =>
            unL r51_62 fun (x51_62 : Sl) =>
            mStr x51_62 fun (x52_63 : ByteArray) =>
            mIf (match true with | true => ((x49_60).toList == (x52_63).toList) | false => false) (
              mAnd (
                mIf (match true with | true => (x42_1 == (0 : Int)) | false => false) (
                  mLdI .i64 x1 fun (x60_68_0 : Int) =>
                  mLdI .i64 (x1.add 1) fun (x60_68_1 : Int) =>
                  mLdI .i64 (x1.add 2) fun (x60_68_2 : Int) =>
                  mLdI .i64 (x1.add 3) fun (x60_68_3 : Int) =>
                  mLdL (x1.add 4) fun (x60_68_4 : Sl) =>
                  mLdI .i64 (x1.add 5) fun (x60_68_5 : Int) =>
                  mLdL (x1.add 6) fun (x60_68_6 : Sl) =>
                  mLdL (x1.add 7) fun (x60_68_7 : Sl) =>
                  mLdL (x1.add 8) fun (x60_68_8 : Sl) =>
                  mLdL (x1.add 9) fun (x60_68_9 : Sl) =>
                  mLdI .i64 x6 fun (x61_69_0 : Int) =>
                  mLdI .i64 (x6.add 1) fun (x61_69_1 : Int) =>
                  mLdI .i64 (x6.add 2) fun (x61_69_2 : Int) =>
                  mLdI .i64 (x6.add 3) fun (x61_69_3 : Int) =>
                  mLdL (x6.add 4) fun (x61_69_4 : Sl) =>
                  mLdI .i64 (x6.add 5) fun (x61_69_5 : Int) =>
                  mLdL (x6.add 6) fun (x61_69_6 : Sl) =>
                  mLdL (x6.add 7) fun (x61_69_7 : Sl) =>
                  mLdL (x6.add 8) fun (x61_69_8 : Sl) =>
                  mLdL (x6.add 9) fun (x61_69_9 : Sl) =>
                  mBind (N_signalboxref07_Same x60_68_0 x60_68_1 x60_68_2 x60_68_3 x60_68_4 x60_68_5 x60_68_6 x60_68_7 x60_68_8 x60_68_9 x61_69_0 x61_69_1 x61_69_2 x61_69_3 x61_69_4 x61_69_5 x61_69_6 x61_69_7 x61_69_8 x61_69_9) fun r62_70 =>
                  unB r62_70 fun (x62_70 : Bool) =>
                  mRet (.bool (match true with | true => x62_70 | false => false))) (
                  mRet (.bool false))) (
                mIf (match true with | true => (x42_1 == (0 : Int)) | false => false) (
                  mLdI .i64 x6 fun (x61_64_0 : Int) =>
                  mLdI .i64 (x6.add 1) fun (x61_64_1 : Int) =>
                  mLdI .i64 (x6.add 2) fun (x61_64_2 : Int) =>
                  mLdI .i64 (x6.add 3) fun (x61_64_3 : Int) =>
                  mLdL (x6.add 4) fun (x61_64_4 : Sl) =>
                  mLdI .i64 (x6.add 5) fun (x61_64_5 : Int) =>
                  mLdL (x6.add 6) fun (x61_64_6 : Sl) =>
                  mLdL (x6.add 7) fun (x61_64_7 : Sl) =>
                  mLdL (x6.add 8) fun (x61_64_8 : Sl) =>
                  mLdL (x6.add 9) fun (x61_64_9 : Sl) =>
                  mLdI .i64 x1 fun (x60_65_0 : Int) =>
                  mLdI .i64 (x1.add 1) fun (x60_65_1 : Int) =>
                  mLdI .i64 (x1.add 2) fun (x60_65_2 : Int) =>
                  mLdI .i64 (x1.add 3) fun (x60_65_3 : Int) =>
                  mLdL (x1.add 4) fun (x60_65_4 : Sl) =>
                  mLdI .i64 (x1.add 5) fun (x60_65_5 : Int) =>
                  mLdL (x1.add 6) fun (x60_65_6 : Sl) =>
                  mLdL (x1.add 7) fun (x60_65_7 : Sl) =>
                  mLdL (x1.add 8) fun (x60_65_8 : Sl) =>
                  mLdL (x1.add 9) fun (x60_65_9 : Sl) =>
                  mBind (N_signalboxref07_Same x60_65_0 x60_65_1 x60_65_2 x60_65_3 x60_65_4 x60_65_5 x60_65_6 x60_65_7 x60_65_8 x60_65_9 x61_64_0 x61_64_1 x61_64_2 x61_64_3 x61_64_4 x61_64_5 x61_64_6 x61_64_7 x61_64_8 x61_64_9) fun r62_66 =>
                  unB r62_66 fun (x62_66 : Bool) =>
                  mRet (.bool (match true with | true => x62_66 | false => false))) (
                  mRet (.bool false)))) (
              mAnd (
                mRet (.bool false)) (
                mRet (.bool false)))) (
            mLdI .i64 x1 fun (x50_0 : Int) =>
            mLdI .i64 (x1.add 1) fun (x50_1 : Int) =>
            mLdI .i64 (x1.add 2) fun (x50_2 : Int) =>
            mLdI .i64 (x1.add 3) fun (x50_3 : Int) =>
            mLdL (x1.add 4) fun (x50_4 : Sl) =>
            mLdI .i64 (x1.add 5) fun (x50_5 : Int) =>
            mLdL (x1.add 6) fun (x50_6 : Sl) =>
            mLdL (x1.add 7) fun (x50_7 : Sl) =>
            mLdL (x1.add 8) fun (x50_8 : Sl) =>
            mLdL (x1.add 9) fun (x50_9 : Sl) =>
            mAnd (
              mStr x25_0 fun (x49_46 : ByteArray) =>
              mBind (N_signalboxref46_Bytes x50_0 x50_1 x50_2 x50_3 x50_4 x50_5 x50_6 x50_7 x50_8 x50_9) fun r51_47 =>
              unL r51_47 fun (x51_47 : Sl) =>
              mStr x51_47 fun (x52_48 : ByteArray) =>
              mIf (match true with | true => ((x49_46).toList == (x52_48).toList) | false => false) (
                mAnd (
                  mIf (match true with | true => (x42_1 == (0 : Int)) | false => false) (
                    mLdI .i64 x1 fun (x60_53_0 : Int) =>
                    mLdI .i64 (x1.add 1) fun (x60_53_1 : Int) =>
                    mLdI .i64 (x1.add 2) fun (x60_53_2 : Int) =>
                    mLdI .i64 (x1.add 3) fun (x60_53_3 : Int) =>
                    mLdL (x1.add 4) fun (x60_53_4 : Sl) =>
                    mLdI .i64 (x1.add 5) fun (x60_53_5 : Int) =>
                    mLdL (x1.add 6) fun (x60_53_6 : Sl) =>
                    mLdL (x1.add 7) fun (x60_53_7 : Sl) =>
                    mLdL (x1.add 8) fun (x60_53_8 : Sl) =>
                    mLdL (x1.add 9) fun (x60_53_9 : Sl) =>
                    mLdI .i64 x6 fun (x61_54_0 : Int) =>
                    mLdI .i64 (x6.add 1) fun (x61_54_1 : Int) =>
                    mLdI .i64 (x6.add 2) fun (x61_54_2 : Int) =>
                    mLdI .i64 (x6.add 3) fun (x61_54_3 : Int) =>
                    mLdL (x6.add 4) fun (x61_54_4 : Sl) =>
                    mLdI .i64 (x6.add 5) fun (x61_54_5 : Int) =>
                    mLdL (x6.add 6) fun (x61_54_6 : Sl) =>
                    mLdL (x6.add 7) fun (x61_54_7 : Sl) =>
                    mLdL (x6.add 8) fun (x61_54_8 : Sl) =>
                    mLdL (x6.add 9) fun (x61_54_9 : Sl) =>
                    mBind (N_signalboxref07_Same x60_53_0 x60_53_1 x60_53_2 x60_53_3 x60_53_4 x60_53_5 x60_53_6 x60_53_7 x60_53_8 x60_53_9 x61_54_0 x61_54_1 x61_54_2 x61_54_3 x61_54_4 x61_54_5 x61_54_6 x61_54_7 x61_54_8 x61_54_9) fun r62_55 =>
                    unB r62_55 fun (x62_55 : Bool) =>
                    mRet (.bool (match true with | true => x62_55 | false => false))) (
                    mRet (.bool false))) (
                  mIf (match true with | true => (x42_1 == (0 : Int)) | false => false) (
                    mLdI .i64 x6 fun (x61_49_0 : Int) =>
                    mLdI .i64 (x6.add 1) fun (x61_49_1 : Int) =>
                    mLdI .i64 (x6.add 2) fun (x61_49_2 : Int) =>
                    mLdI .i64 (x6.add 3) fun (x61_49_3 : Int) =>
                    mLdL (x6.add 4) fun (x61_49_4 : Sl) =>
                    mLdI .i64 (x6.add 5) fun (x61_49_5 : Int) =>
                    mLdL (x6.add 6) fun (x61_49_6 : Sl) =>
                    mLdL (x6.add 7) fun (x61_49_7 : Sl) =>
                    mLdL (x6.add 8) fun (x61_49_8 : Sl) =>
                    mLdL (x6.add 9) fun (x61_49_9 : Sl) =>
                    mLdI .i64 x1 fun (x60_50_0 : Int) =>
                    mLdI .i64 (x1.add 1) fun (x60_50_1 : Int) =>
                    mLdI .i64 (x1.add 2) fun (x60_50_2 : Int) =>
                    mLdI .i64 (x1.add 3) fun (x60_50_3 : Int) =>
                    mLdL (x1.add 4) fun (x60_50_4 : Sl) =>
                    mLdI .i64 (x1.add 5) fun (x60_50_5 : Int) =>
                    mLdL (x1.add 6) fun (x60_50_6 : Sl) =>
                    mLdL (x1.add 7) fun (x60_50_7 : Sl) =>
                    mLdL (x1.add 8) fun (x60_50_8 : Sl) =>
                    mLdL (x1.add 9) fun (x60_50_9 : Sl) =>
                    mBind (N_signalboxref07_Same x60_50_0 x60_50_1 x60_50_2 x60_50_3 x60_50_4 x60_50_5 x60_50_6 x60_50_7 x60_50_8 x60_50_9 x61_49_0 x61_49_1 x61_49_2 x61_49_3 x61_49_4 x61_49_5 x61_49_6 x61_49_7 x61_49_8 x61_49_9) fun r62_51 =>
                    unB r62_51 fun (x62_51 : Bool) =>
                    mRet (.bool (match true with | true => x62_51 | false => false))) (
                    mRet (.bool false)))) (
                mAnd (
                  mRet (.bool false)) (
                  mRet (.bool false)))) (
              mBind (N_signalboxref46_Bytes x50_0 x50_1 x50_2 x50_3 x50_4 x50_5 x50_6 x50_7 x50_8 x50_9) fun r51 =>
              unL r51 fun (x51 : Sl) =>
              mAnd (
                mStr x25_0 fun (x49_33 : ByteArray) =>
                mStr x51 fun (x52_34 : ByteArray) =>
                mIf (match true with | true => ((x49_33).toList == (x52_34).toList) | false => false) (
                  mAnd (
                    mIf (match true with | true => (x42_1 == (0 : Int)) | false => false) (
                      mLdI .i64 x1 fun (x60_39_0 : Int) =>
                      mLdI .i64 (x1.add 1) fun (x60_39_1 : Int) =>
                      mLdI .i64 (x1.add 2) fun (x60_39_2 : Int) =>
                      mLdI .i64 (x1.add 3) fun (x60_39_3 : Int) =>
                      mLdL (x1.add 4) fun (x60_39_4 : Sl) =>
                      mLdI .i64 (x1.add 5) fun (x60_39_5 : Int) =>
                      mLdL (x1.add 6) fun (x60_39_6 : Sl) =>
                      mLdL (x1.add 7) fun (x60_39_7 : Sl) =>
                      mLdL (x1.add 8) fun (x60_39_8 : Sl) =>
                      mLdL (x1.add 9) fun (x60_39_9 : Sl) =>
                      mLdI .i64 x6 fun (x61_40_0 : Int) =>
                      mLdI .i64 (x6.add 1) fun (x61_40_1 : Int) =>
                      mLdI .i64 (x6.add 2) fun (x61_40_2 : Int) =>
                      mLdI .i64 (x6.add 3) fun (x61_40_3 : Int) =>
                      mLdL (x6.add 4) fun (x61_40_4 : Sl) =>
                      mLdI .i64 (x6.add 5) fun (x61_40_5 : Int) =>
                      mLdL (x6.add 6) fun (x61_40_6 : Sl) =>
                      mLdL (x6.add 7) fun (x61_40_7 : Sl) =>
                      mLdL (x6.add 8) fun (x61_40_8 : Sl) =>
                      mLdL (x6.add 9) fun (x61_40_9 : Sl) =>
                      mBind (N_signalboxref07_Same x60_39_0 x60_39_1 x60_39_2 x60_39_3 x60_39_4 x60_39_5 x60_39_6 x60_39_7 x60_39_8 x60_39_9 x61_40_0 x61_40_1 x61_40_2 x61_40_3 x61_40_4 x61_40_5 x61_40_6 x61_40_7 x61_40_8 x61_40_9) fun r62_41 =>
                      unB r62_41 fun (x62_41 : Bool) =>
                      mRet (.bool (match true with | true => x62_41 | false => false))) (
                      mRet (.bool false))) (
                    mIf (match true with | true => (x42_1 == (0 : Int)) | false => false) (
                      mLdI .i64 x6 fun (x61_35_0 : Int) =>
                      mLdI .i64 (x6.add 1) fun (x61_35_1 : Int) =>
                      mLdI .i64 (x6.add 2) fun (x61_35_2 : Int) =>
                      mLdI .i64 (x6.add 3) fun (x61_35_3 : Int) =>
                      mLdL (x6.add 4) fun (x61_35_4 : Sl) =>
                      mLdI .i64 (x6.add 5) fun (x61_35_5 : Int) =>
                      mLdL (x6.add 6) fun (x61_35_6 : Sl) =>
                      mLdL (x6.add 7) fun (x61_35_7 : Sl) =>
                      mLdL (x6.add 8) fun (x61_35_8 : Sl) =>
                      mLdL (x6.add 9) fun (x61_35_9 : Sl) =>
                      mLdI .i64 x1 fun (x60_36_0 : Int) =>
                      mLdI .i64 (x1.add 1) fun (x60_36_1 : Int) =>
                      mLdI .i64 (x1.add 2) fun (x60_36_2 : Int) =>
                      mLdI .i64 (x1.add 3) fun (x60_36_3 : Int) =>
                      mLdL (x1.add 4) fun (x60_36_4 : Sl) =>
                      mLdI .i64 (x1.add 5) fun (x60_36_5 : Int) =>
                      mLdL (x1.add 6) fun (x60_36_6 : Sl) =>
                      mLdL (x1.add 7) fun (x60_36_7 : Sl) =>
                      mLdL (x1.add 8) fun (x60_36_8 : Sl) =>
                      mLdL (x1.add 9) fun (x60_36_9 : Sl) =>
                      mBind (N_signalboxref07_Same x60_36_0 x60_36_1 x60_36_2 x60_36_3 x60_36_4 x60_36_5 x60_36_6 x60_36_7 x60_36_8 x60_36_9 x61_35_0 x61_35_1 x61_35_2 x61_35_3 x61_35_4 x61_35_5 x61_35_6 x61_35_7 x61_35_8 x61_35_9) fun r62_37 =>
                      unB r62_37 fun (x62_37 : Bool) =>
                      mRet (.bool (match true with | true => x62_37 | false => false))) (
                      mRet (.bool false)))) (
                  mAnd (
                    mRet (.bool false)) (
                    mRet (.bool false)))) (
                mStr x51 fun (x52 : ByteArray) =>
                mStr x25_0 fun (x49 : ByteArray) =>
                mIf (match true with | true => ((x49).toList == (x52).toList) | false => false) (
                  mAnd (
                    mIf (match true with | true => (x42_1 == (0 : Int)) | false => false) (
                      mLdI .i64 x1 fun (x60_26_0 : Int) =>
                      mLdI .i64 (x1.add 1) fun (x60_26_1 : Int) =>
                      mLdI .i64 (x1.add 2) fun (x60_26_2 : Int) =>
                      mLdI .i64 (x1.add 3) fun (x60_26_3 : Int) =>
                      mLdL (x1.add 4) fun (x60_26_4 : Sl) =>
                      mLdI .i64 (x1.add 5) fun (x60_26_5 : Int) =>
                      mLdL (x1.add 6) fun (x60_26_6 : Sl) =>
                      mLdL (x1.add 7) fun (x60_26_7 : Sl) =>
                      mLdL (x1.add 8) fun (x60_26_8 : Sl) =>
                      mLdL (x1.add 9) fun (x60_26_9 : Sl) =>
                      mLdI .i64 x6 fun (x61_27_0 : Int) =>
                      mLdI .i64 (x6.add 1) fun (x61_27_1 : Int) =>
                      mLdI .i64 (x6.add 2) fun (x61_27_2 : Int) =>
                      mLdI .i64 (x6.add 3) fun (x61_27_3 : Int) =>
                      mLdL (x6.add 4) fun (x61_27_4 : Sl) =>
                      mLdI .i64 (x6.add 5) fun (x61_27_5 : Int) =>
                      mLdL (x6.add 6) fun (x61_27_6 : Sl) =>
                      mLdL (x6.add 7) fun (x61_27_7 : Sl) =>
                      mLdL (x6.add 8) fun (x61_27_8 : Sl) =>
                      mLdL (x6.add 9) fun (x61_27_9 : Sl) =>
                      mBind (N_signalboxref07_Same x60_26_0 x60_26_1 x60_26_2 x60_26_3 x60_26_4 x60_26_5 x60_26_6 x60_26_7 x60_26_8 x60_26_9 x61_27_0 x61_27_1 x61_27_2 x61_27_3 x61_27_4 x61_27_5 x61_27_6 x61_27_7 x61_27_8 x61_27_9) fun r62_28 =>
                      unB r62_28 fun (x62_28 : Bool) =>
                      mRet (.bool (match true with | true => x62_28 | false => false))) (
                      mRet (.bool false))) (
                    mIf (match true with | true => (x42_1 == (0 : Int)) | false => false) (
                      mLdI .i64 x6 fun (x61_0 : Int) =>
                      mLdI .i64 (x6.add 1) fun (x61_1 : Int) =>
                      mLdI .i64 (x6.add 2) fun (x61_2 : Int) =>
                      mLdI .i64 (x6.add 3) fun (x61_3 : Int) =>
                      mLdL (x6.add 4) fun (x61_4 : Sl) =>
                      mLdI .i64 (x6.add 5) fun (x61_5 : Int) =>
                      mLdL (x6.add 6) fun (x61_6 : Sl) =>
                      mLdL (x6.add 7) fun (x61_7 : Sl) =>
                      mLdL (x6.add 8) fun (x61_8 : Sl) =>
                      mLdL (x6.add 9) fun (x61_9 : Sl) =>
                      mLdI .i64 x1 fun (x60_0 : Int) =>
                      mLdI .i64 (x1.add 1) fun (x60_1 : Int) =>
                      mLdI .i64 (x1.add 2) fun (x60_2 : Int) =>
                      mLdI .i64 (x1.add 3) fun (x60_3 : Int) =>
                      mLdL (x1.add 4) fun (x60_4 : Sl) =>
                      mLdI .i64 (x1.add 5) fun (x60_5 : Int) =>
                      mLdL (x1.add 6) fun (x60_6 : Sl) =>
                      mLdL (x1.add 7) fun (x60_7 : Sl) =>
                      mLdL (x1.add 8) fun (x60_8 : Sl) =>
                      mLdL (x1.add 9) fun (x60_9 : Sl) =>
                      mBind (N_signalboxref07_Same x60_0 x60_1 x60_2 x60_3 x60_4 x60_5 x60_6 x60_7 x60_8 x60_9 x61_0 x61_1 x61_2 x61_3 x61_4 x61_5 x61_6 x61_7 x61_8 x61_9) fun r62 =>
                      unB r62 fun (x62 : Bool) =>
                      mRet (.bool (match true with | true => x62 | false => false))) (
                      mRet (.bool false)))) (
                  mAnd (
                    mRet (.bool false)) (
                    mRet (.bool false))))))) (
          mAnd (
            mAnd (
              mRet (.bool false)) (
              mRet (.bool false))) (
            mAnd (
              mAnd (
                mRet (.bool false)) (
                mRet (.bool false))) (
              mAnd (
                mAnd (
                  mRet (.bool false)) (
                  mRet (.bool false))) (
                mAnd (
                  mRet (.bool false)) (
                  mRet (.bool false)))))))))
theorem E_signalboxlaw46_CodeBytes (c0_0 : Int) (c0_1 : Int) (c0_2 : Int) (c0_3 : Int) (c0_4 : Sl) (c0_5 : Int) (c0_6 : Sl) (c0_7 : Sl) (c0_8 : Sl) (c0_9 : Sl) : ev Try.prog 4 Try.f4.results.toList C_signalboxlaw46_CodeBytes D_signalboxlaw46_CodeBytes 400 false [.code (bodyOf Try.f4)] (List.map some [.agg #[.int .i64 c0_0, .int .i64 c0_1, .int .i64 c0_2, .int .i64 c0_3, .slice c0_4.p c0_4.n c0_4.c, .int .i64 c0_5, .slice c0_6.p c0_6.n c0_6.c, .slice c0_7.p c0_7.n c0_7.c, .slice c0_8.p c0_8.n c0_8.c, .slice c0_9.p c0_9.n c0_9.c]] ++ List.replicate (Try.f4.ntmps - List.length ([.agg #[.int .i64 c0_0, .int .i64 c0_1, .int .i64 c0_2, .int .i64 c0_3, .slice c0_4.p c0_4.n c0_4.c, .int .i64 c0_5, .slice c0_6.p c0_6.n c0_6.c, .slice c0_7.p c0_7.n c0_7.c, .slice c0_8.p c0_8.n c0_8.c, .slice c0_9.p c0_9.n c0_9.c]] : List Value)) none) = B_signalboxlaw46_CodeBytes c0_0 c0_1 c0_2 c0_3 c0_4 c0_5 c0_6 c0_7 c0_8 c0_9 := by kernel_rfl
theorem S_signalboxlaw46_CodeBytes (c0_0 : Int) (c0_1 : Int) (c0_2 : Int) (c0_3 : Int) (c0_4 : Sl) (c0_5 : Int) (c0_6 : Sl) (c0_7 : Sl) (c0_8 : Sl) (c0_9 : Sl) {h : Hp} {Q : Value → Hp → Prop} (hb : B_signalboxlaw46_CodeBytes c0_0 c0_1 c0_2 c0_3 c0_4 c0_5 c0_6 c0_7 c0_8 c0_9 h Q) : N_signalboxlaw46_CodeBytes c0_0 c0_1 c0_2 c0_3 c0_4 c0_5 c0_6 c0_7 c0_8 c0_9 h Q :=
  Nf.of_ev Try.call4 Try.func4 (c := bodyOf Try.f4) rfl mixed C_signalboxlaw46_CodeBytes D_signalboxlaw46_CodeBytes 400 (args := [.agg #[.int .i64 c0_0, .int .i64 c0_1, .int .i64 c0_2, .int .i64 c0_3, .slice c0_4.p c0_4.n c0_4.c, .int .i64 c0_5, .slice c0_6.p c0_6.n c0_6.c, .slice c0_7.p c0_7.n c0_7.c, .slice c0_8.p c0_8.n c0_8.c, .slice c0_9.p c0_9.n c0_9.c]]) (by rw [E_signalboxlaw46_CodeBytes]; exact hb)
def C_signalboxlaw46_CodeParses : List (Nat × List Nat) := [(7, []), (8, [1, 2, 4])]
def D_signalboxlaw46_CodeParses : List (Nat × List Nat) := [(6, [])]
def T_signalboxlaw46_CodeParses_7 : Env := mkEnv [] 105 0
def K_signalboxlaw46_CodeParses_7 : M Value := Cut Try.prog 5 (todoOf Try.f5 7) (T_signalboxlaw46_CodeParses_7)
def T_signalboxlaw46_CodeParses_8 (at1 : Int) (by2 : Int) (c4 : Addr) : Env := mkEnv [(1, .int .u16 at1), (2, .int .u8 by2), (4, .pointer (some c4))] 105 0
def K_signalboxlaw46_CodeParses_8 (at1 : Int) (by2 : Int) (c4 : Addr) : M Value := Cut Try.prog 5 (todoOf Try.f5 8) (T_signalboxlaw46_CodeParses_8 at1 by2 c4)
def B_signalboxlaw46_CodeParses (c0_0 : Int) (c0_1 : Int) (c0_2 : Int) (c0_3 : Int) (c0_4 : Sl) (c0_5 : Int) (c0_6 : Sl) (c0_7 : Sl) (c0_8 : Sl) (c0_9 : Sl) (at1 : Int) (by2 : Int) (raw3 : Sl) : M Value :=
  mNew #[.int .i64 c0_0, .int .i64 c0_1, .int .i64 c0_2, .int .i64 c0_3, .slice c0_4.p c0_4.n c0_4.c, .int .i64 c0_5, .slice c0_6.p c0_6.n c0_6.c, .slice c0_7.p c0_7.n c0_7.c, .slice c0_8.p c0_8.n c0_8.c, .slice c0_9.p c0_9.n c0_9.c] 34 fun (x4 : Addr) =>
  mBind (N_signalboxlaw46_fixed) fun r17 =>
  unB r17 fun (x17 : Bool) =>
  mIf (!x17) (
    mRet (.bool false)) (
    mLdI .i64 x4 fun (x19_0 : Int) =>
    mLdI .i64 (x4.add 1) fun (x19_1 : Int) =>
    mLdI .i64 (x4.add 2) fun (x19_2 : Int) =>
    mLdI .i64 (x4.add 3) fun (x19_3 : Int) =>
    mLdL (x4.add 4) fun (x19_4 : Sl) =>
    mLdI .i64 (x4.add 5) fun (x19_5 : Int) =>
    mLdL (x4.add 6) fun (x19_6 : Sl) =>
    mLdL (x4.add 7) fun (x19_7 : Sl) =>
    mLdL (x4.add 8) fun (x19_8 : Sl) =>
    mLdL (x4.add 9) fun (x19_9 : Sl) =>
    mBind (N_signalboxref07_Few x19_0 x19_1 x19_2 x19_3 x19_4 x19_5 x19_6 x19_7 x19_8 x19_9) fun r20 =>
    unB r20 fun (x20 : Bool) =>
    mIf ((!x20) || (decide ((raw3.n : Int) > (400 : Int)))) (
      mRet (.bool true)) (
      mBind (N_code_Parse raw3) fun r29 =>
      unT r29 fun x29l =>
      unC x29l fun x29v0 x29l0 =>
      unA x29v0 fun x29_0l =>
      unC x29_0l fun x29_0v0 x29_0l0 =>
      unI .i64 x29_0v0 fun (x29_0_0 : Int) =>
      unC x29_0l0 fun x29_0v1 x29_0l1 =>
      unI .i64 x29_0v1 fun (x29_0_1 : Int) =>
      unC x29_0l1 fun x29_0v2 x29_0l2 =>
      unI .i64 x29_0v2 fun (x29_0_2 : Int) =>
      unC x29_0l2 fun x29_0v3 x29_0l3 =>
      unI .i64 x29_0v3 fun (x29_0_3 : Int) =>
      unC x29_0l3 fun x29_0v4 x29_0l4 =>
      unL x29_0v4 fun (x29_0_4 : Sl) =>
      unC x29_0l4 fun x29_0v5 x29_0l5 =>
      unI .i64 x29_0v5 fun (x29_0_5 : Int) =>
      unC x29_0l5 fun x29_0v6 x29_0l6 =>
      unL x29_0v6 fun (x29_0_6 : Sl) =>
      unC x29_0l6 fun x29_0v7 x29_0l7 =>
      unL x29_0v7 fun (x29_0_7 : Sl) =>
      unC x29_0l7 fun x29_0v8 x29_0l8 =>
      unL x29_0v8 fun (x29_0_8 : Sl) =>
      unC x29_0l8 fun x29_0v9 x29_0l9 =>
      unL x29_0v9 fun (x29_0_9 : Sl) =>
      unE x29_0l9 <|
      unC x29l0 fun x29v1 x29l1 =>
      unI .i64 x29v1 fun (x29_1 : Int) =>
      unE x29l1 <|
      mNew #[.int .i64 (0 : Int), .int .i64 (0 : Int), .int .i64 (0 : Int), .int .i64 (0 : Int), .slice none (0) (0), .int .i64 (0 : Int), .slice none (0) (0), .slice none (0) (0), .slice none (0) (0), .slice none (0) (0)] 34 fun (x9 : Addr) =>
      mSt x9 (.int .i64 x29_0_0) <|
      mSt (x9.add 1) (.int .i64 x29_0_1) <|
      mSt (x9.add 2) (.int .i64 x29_0_2) <|
      mSt (x9.add 3) (.int .i64 x29_0_3) <|
      mSt (x9.add 4) (.slice x29_0_4.p x29_0_4.n x29_0_4.c) <|
      mSt (x9.add 5) (.int .i64 x29_0_5) <|
      mSt (x9.add 6) (.slice x29_0_6.p x29_0_6.n x29_0_6.c) <|
      mSt (x9.add 7) (.slice x29_0_7.p x29_0_7.n x29_0_7.c) <|
      mSt (x9.add 8) (.slice x29_0_8.p x29_0_8.n x29_0_8.c) <|
      mSt (x9.add 9) (.slice x29_0_9.p x29_0_9.n x29_0_9.c) <|
      mIf (x29_1 == (0 : Int)) (
        mLdI .i64 x9 fun (x35_0 : Int) =>
        mLdI .i64 (x9.add 1) fun (x35_1 : Int) =>
        mLdI .i64 (x9.add 2) fun (x35_2 : Int) =>
        mLdI .i64 (x9.add 3) fun (x35_3 : Int) =>
        mLdL (x9.add 4) fun (x35_4 : Sl) =>
        mLdI .i64 (x9.add 5) fun (x35_5 : Int) =>
        mLdL (x9.add 6) fun (x35_6 : Sl) =>
        mLdL (x9.add 7) fun (x35_7 : Sl) =>
        mLdL (x9.add 8) fun (x35_8 : Sl) =>
        mLdL (x9.add 9) fun (x35_9 : Sl) =>
        mBind (N_signalboxref07_Check x35_0 x35_1 x35_2 x35_3 x35_4 x35_5 x35_6 x35_7 x35_8 x35_9) fun r36 =>
        unI .i64 r36 fun (x36 : Int) =>
        mIf (x36 != (0 : Int)) (
          mAnd (
            mAnd (
              mAnd (
                mIf (match true with | true => true | false => false) (
                  K_signalboxlaw46_CodeParses_7) (
                  mIf (x29_1 != (0 : Int)) (
                    mLdL (x9.add 8) fun (x52_28 : Sl) =>
                    mIf (match false with | true => true | false => (match true with | true => ((x52_28.n : Int) != (0 : Int)) | false => false)) (
                      K_signalboxlaw46_CodeParses_7) (
                      K_signalboxlaw46_CodeParses_8 at1 by2 x4)) (
                    mIf (match false with | true => true | false => false) (
                      K_signalboxlaw46_CodeParses_7) (
                      K_signalboxlaw46_CodeParses_8 at1 by2 x4)))) (
                mIf (match true with | true => true | false => false) (
                  K_signalboxlaw46_CodeParses_7) (
                  mIf (x29_1 != (0 : Int)) (
                    mLdL (x9.add 8) fun (x52_23 : Sl) =>
                    mIf (match false with | true => true | false => (match true with | true => ((x52_23.n : Int) != (0 : Int)) | false => false)) (
                      K_signalboxlaw46_CodeParses_7) (
                      K_signalboxlaw46_CodeParses_8 at1 by2 x4)) (
                    mIf (match false with | true => true | false => false) (
                      K_signalboxlaw46_CodeParses_7) (
                      K_signalboxlaw46_CodeParses_8 at1 by2 x4))))) (
              mIf (match true with | true => true | false => false) (
                K_signalboxlaw46_CodeParses_7) (
                mIf (x29_1 != (0 : Int)) (
                  mLdL (x9.add 8) fun (x52_18 : Sl) =>
                  mIf (match false with | true => true | false => (match true with | true => ((x52_18.n : Int) != (0 : Int)) | false => false)) (
                    K_signalboxlaw46_CodeParses_7) (
                    K_signalboxlaw46_CodeParses_8 at1 by2 x4)) (
                  mIf (match false with | true => true | false => false) (
                    K_signalboxlaw46_CodeParses_7) (
                    K_signalboxlaw46_CodeParses_8 at1 by2 x4))))) (
            mIf (match true with | true => true | false => false) (
              K_signalboxlaw46_CodeParses_7) (
              mIf (x29_1 != (0 : Int)) (
                mLdL (x9.add 8) fun (x52 : Sl) =>
                mIf (match false with | true => true | false => (match true with | true => ((x52.n : Int) != (0 : Int)) | false => false)) (
                  K_signalboxlaw46_CodeParses_7) (
                  K_signalboxlaw46_CodeParses_8 at1 by2 x4)) (
                mIf (match false with | true => true | false => false) (
                  K_signalboxlaw46_CodeParses_7) (
                  K_signalboxlaw46_CodeParses_8 at1 by2 x4))))) (
          mAnd (
            mLdI .i64 x9 fun (x39_38_0 : Int) =>
            mLdI .i64 (x9.add 1) fun (x39_38_1 : Int) =>
            mLdI .i64 (x9.add 2) fun (x39_38_2 : Int) =>
            mLdI .i64 (x9.add 3) fun (x39_38_3 : Int) =>
            mLdL (x9.add 4) fun (x39_38_4 : Sl) =>
            mLdI .i64 (x9.add 5) fun (x39_38_5 : Int) =>
            mLdL (x9.add 6) fun (x39_38_6 : Sl) =>
            mLdL (x9.add 7) fun (x39_38_7 : Sl) =>
            mLdL (x9.add 8) fun (x39_38_8 : Sl) =>
            mLdL (x9.add 9) fun (x39_38_9 : Sl) =>
            mAnd (
              mBind (N_signalboxref46_Bytes x39_38_0 x39_38_1 x39_38_2 x39_38_3 x39_38_4 x39_38_5 x39_38_6 x39_38_7 x39_38_8 x39_38_9) fun r40_46 =>
              unL r40_46 fun (x40_46 : Sl) =>
              mAnd (
                mStr x40_46 fun (x41_53 : ByteArray) =>
                mStr raw3 fun (x43_54 : ByteArray) =>
                mIf (match true with | true => (match false with | true => true | false => (!((x41_53).toList == (x43_54).toList))) | false => false) (
                  K_signalboxlaw46_CodeParses_7) (
                  mIf (x29_1 != (0 : Int)) (
                    mLdL (x9.add 8) fun (x52_57 : Sl) =>
                    mIf (match false with | true => true | false => (match true with | true => ((x52_57.n : Int) != (0 : Int)) | false => false)) (
                      K_signalboxlaw46_CodeParses_7) (
                      K_signalboxlaw46_CodeParses_8 at1 by2 x4)) (
                    mIf (match false with | true => true | false => false) (
                      K_signalboxlaw46_CodeParses_7) (
                      K_signalboxlaw46_CodeParses_8 at1 by2 x4)))) (
                mStr raw3 fun (x43_47 : ByteArray) =>
                mStr x40_46 fun (x41_48 : ByteArray) =>
                mIf (match true with | true => (match false with | true => true | false => (!((x41_48).toList == (x43_47).toList))) | false => false) (
                  K_signalboxlaw46_CodeParses_7) (
                  mIf (x29_1 != (0 : Int)) (
                    mLdL (x9.add 8) fun (x52_51 : Sl) =>
                    mIf (match false with | true => true | false => (match true with | true => ((x52_51.n : Int) != (0 : Int)) | false => false)) (
                      K_signalboxlaw46_CodeParses_7) (
                      K_signalboxlaw46_CodeParses_8 at1 by2 x4)) (
                    mIf (match false with | true => true | false => false) (
                      K_signalboxlaw46_CodeParses_7) (
                      K_signalboxlaw46_CodeParses_8 at1 by2 x4))))) (
              mStr raw3 fun (x43_39 : ByteArray) =>
              mBind (N_signalboxref46_Bytes x39_38_0 x39_38_1 x39_38_2 x39_38_3 x39_38_4 x39_38_5 x39_38_6 x39_38_7 x39_38_8 x39_38_9) fun r40_40 =>
              unL r40_40 fun (x40_40 : Sl) =>
              mStr x40_40 fun (x41_41 : ByteArray) =>
              mIf (match true with | true => (match false with | true => true | false => (!((x41_41).toList == (x43_39).toList))) | false => false) (
                K_signalboxlaw46_CodeParses_7) (
                mIf (x29_1 != (0 : Int)) (
                  mLdL (x9.add 8) fun (x52_44 : Sl) =>
                  mIf (match false with | true => true | false => (match true with | true => ((x52_44.n : Int) != (0 : Int)) | false => false)) (
                    K_signalboxlaw46_CodeParses_7) (
                    K_signalboxlaw46_CodeParses_8 at1 by2 x4)) (
                  mIf (match false with | true => true | false => false) (
                    K_signalboxlaw46_CodeParses_7) (
                    K_signalboxlaw46_CodeParses_8 at1 by2 x4))))) (
            mStr raw3 fun (x43 : ByteArray) =>
            mLdI .i64 x9 fun (x39_0 : Int) =>
            mLdI .i64 (x9.add 1) fun (x39_1 : Int) =>
            mLdI .i64 (x9.add 2) fun (x39_2 : Int) =>
            mLdI .i64 (x9.add 3) fun (x39_3 : Int) =>
            mLdL (x9.add 4) fun (x39_4 : Sl) =>
            mLdI .i64 (x9.add 5) fun (x39_5 : Int) =>
            mLdL (x9.add 6) fun (x39_6 : Sl) =>
            mLdL (x9.add 7) fun (x39_7 : Sl) =>
            mLdL (x9.add 8) fun (x39_8 : Sl) =>
            mLdL (x9.add 9) fun (x39_9 : Sl) =>
            mBind (N_signalboxref46_Bytes x39_0 x39_1 x39_2 x39_3 x39_4 x39_5 x39_6 x39_7 x39_8 x39_9) fun r40 =>
            unL r40 fun (x40 : Sl) =>
            mStr x40 fun (x41 : ByteArray) =>
            mIf (match true with | true => (match false with | true => true | false => (!((x41).toList == (x43).toList))) | false => false) (
              K_signalboxlaw46_CodeParses_7) (
              mIf (x29_1 != (0 : Int)) (
                mLdL (x9.add 8) fun (x52_36 : Sl) =>
                mIf (match false with | true => true | false => (match true with | true => ((x52_36.n : Int) != (0 : Int)) | false => false)) (
                  K_signalboxlaw46_CodeParses_7) (
                  K_signalboxlaw46_CodeParses_8 at1 by2 x4)) (
                mIf (match false with | true => true | false => false) (
                  K_signalboxlaw46_CodeParses_7) (
                  K_signalboxlaw46_CodeParses_8 at1 by2 x4)))))) (
        mAnd (
          mAnd (
            mAnd (
              mIf (x29_1 != (0 : Int)) (
                mLdL (x9.add 8) fun (x52_73 : Sl) =>
                mIf (match false with | true => true | false => (match true with | true => ((x52_73.n : Int) != (0 : Int)) | false => false)) (
                  K_signalboxlaw46_CodeParses_7) (
                  K_signalboxlaw46_CodeParses_8 at1 by2 x4)) (
                mIf (match false with | true => true | false => false) (
                  K_signalboxlaw46_CodeParses_7) (
                  K_signalboxlaw46_CodeParses_8 at1 by2 x4))) (
              mIf (x29_1 != (0 : Int)) (
                mLdL (x9.add 8) fun (x52_69 : Sl) =>
                mIf (match false with | true => true | false => (match true with | true => ((x52_69.n : Int) != (0 : Int)) | false => false)) (
                  K_signalboxlaw46_CodeParses_7) (
                  K_signalboxlaw46_CodeParses_8 at1 by2 x4)) (
                mIf (match false with | true => true | false => false) (
                  K_signalboxlaw46_CodeParses_7) (
                  K_signalboxlaw46_CodeParses_8 at1 by2 x4)))) (
            mIf (x29_1 != (0 : Int)) (
              mLdL (x9.add 8) fun (x52_65 : Sl) =>
              mIf (match false with | true => true | false => (match true with | true => ((x52_65.n : Int) != (0 : Int)) | false => false)) (
                K_signalboxlaw46_CodeParses_7) (
                K_signalboxlaw46_CodeParses_8 at1 by2 x4)) (
              mIf (match false with | true => true | false => false) (
                K_signalboxlaw46_CodeParses_7) (
                K_signalboxlaw46_CodeParses_8 at1 by2 x4)))) (
          mIf (x29_1 != (0 : Int)) (
            mLdL (x9.add 8) fun (x52_61 : Sl) =>
            mIf (match false with | true => true | false => (match true with | true => ((x52_61.n : Int) != (0 : Int)) | false => false)) (
              K_signalboxlaw46_CodeParses_7) (
              K_signalboxlaw46_CodeParses_8 at1 by2 x4)) (
            mIf (match false with | true => true | false => false) (
              K_signalboxlaw46_CodeParses_7) (
              K_signalboxlaw46_CodeParses_8 at1 by2 x4))))))
def B_signalboxlaw46_CodeParses_7 : M Value :=
  mRet (.bool false)
def B_signalboxlaw46_CodeParses_8 (at1 : Int) (by2 : Int) (c4 : Addr) : M Value :=
  mLdI .i64 c4 fun (x57_0 : Int) =>
  mLdI .i64 (c4.add 1) fun (x57_1 : Int) =>
  mLdI .i64 (c4.add 2) fun (x57_2 : Int) =>
  mLdI .i64 (c4.add 3) fun (x57_3 : Int) =>
  mLdL (c4.add 4) fun (x57_4 : Sl) =>
  mLdI .i64 (c4.add 5) fun (x57_5 : Int) =>
  mLdL (c4.add 6) fun (x57_6 : Sl) =>
  mLdL (c4.add 7) fun (x57_7 : Sl) =>
  mLdL (c4.add 8) fun (x57_8 : Sl) =>
  mLdL (c4.add 9) fun (x57_9 : Sl) =>
  mBind (N_signalboxref07_Check x57_0 x57_1 x57_2 x57_3 x57_4 x57_5 x57_6 x57_7 x57_8 x57_9) fun r58 =>
  unI .i64 r58 fun (x58 : Int) =>
  mIf (x58 != (0 : Int)) (
    mRet (.bool true)) (
    mLdI .i64 c4 fun (x60_0 : Int) =>
    mLdI .i64 (c4.add 1) fun (x60_1 : Int) =>
    mLdI .i64 (c4.add 2) fun (x60_2 : Int) =>
    mLdI .i64 (c4.add 3) fun (x60_3 : Int) =>
    mLdL (c4.add 4) fun (x60_4 : Sl) =>
    mLdI .i64 (c4.add 5) fun (x60_5 : Int) =>
    mLdL (c4.add 6) fun (x60_6 : Sl) =>
    mLdL (c4.add 7) fun (x60_7 : Sl) =>
    mLdL (c4.add 8) fun (x60_8 : Sl) =>
    mLdL (c4.add 9) fun (x60_9 : Sl) =>
    mBind (N_signalboxref46_Bytes x60_0 x60_1 x60_2 x60_3 x60_4 x60_5 x60_6 x60_7 x60_8 x60_9) fun r61 =>
    unL r61 fun (x61 : Sl) =>
    mGuard ((x61.n : Int) ≠ 0) <|
    mIdx x61 (Int.tmod (IntKind.i64.wrap at1) (x61.n : Int)) 1 fun (x69 : Addr) =>
    mLdI .u8 x69 fun (x70 : Int) =>
    mIdx x61 (Int.tmod (IntKind.i64.wrap at1) (x61.n : Int)) 1 fun (x73 : Addr) =>
    mLdI .u8 x73 fun (x74 : Int) =>
    mIdx x61 (Int.tmod (IntKind.i64.wrap at1) (x61.n : Int)) 1 fun (x77 : Addr) =>
    mSt x77 (.int .u8 (ixor .u8 x74 by2)) <|
    mIdx x61 (Int.tmod (IntKind.i64.wrap at1) (x61.n : Int)) 1 fun (x82 : Addr) =>
    mLdI .u8 x82 fun (x83 : Int) =>
    mBind (N_code_Parse x61) fun r88 =>
    unT r88 fun x88l =>
    unC x88l fun x88v0 x88l0 =>
    unA x88v0 fun x88_0l =>
    unC x88_0l fun x88_0v0 x88_0l0 =>
    unI .i64 x88_0v0 fun (x88_0_0 : Int) =>
    unC x88_0l0 fun x88_0v1 x88_0l1 =>
    unI .i64 x88_0v1 fun (x88_0_1 : Int) =>
    unC x88_0l1 fun x88_0v2 x88_0l2 =>
    unI .i64 x88_0v2 fun (x88_0_2 : Int) =>
    unC x88_0l2 fun x88_0v3 x88_0l3 =>
    unI .i64 x88_0v3 fun (x88_0_3 : Int) =>
    unC x88_0l3 fun x88_0v4 x88_0l4 =>
    unL x88_0v4 fun (x88_0_4 : Sl) =>
    unC x88_0l4 fun x88_0v5 x88_0l5 =>
    unI .i64 x88_0v5 fun (x88_0_5 : Int) =>
    unC x88_0l5 fun x88_0v6 x88_0l6 =>
    unL x88_0v6 fun (x88_0_6 : Sl) =>
    unC x88_0l6 fun x88_0v7 x88_0l7 =>
    unL x88_0v7 fun (x88_0_7 : Sl) =>
    unC x88_0l7 fun x88_0v8 x88_0l8 =>
    unL x88_0v8 fun (x88_0_8 : Sl) =>
    unC x88_0l8 fun x88_0v9 x88_0l9 =>
    unL x88_0v9 fun (x88_0_9 : Sl) =>
    unE x88_0l9 <|
    unC x88l0 fun x88v1 x88l1 =>
    unI .i64 x88v1 fun (x88_1 : Int) =>
    unE x88l1 <|
    mNew #[.int .i64 (0 : Int), .int .i64 (0 : Int), .int .i64 (0 : Int), .int .i64 (0 : Int), .slice none (0) (0), .int .i64 (0 : Int), .slice none (0) (0), .slice none (0) (0), .slice none (0) (0), .slice none (0) (0)] 34 fun (x15 : Addr) =>
    mSt x15 (.int .i64 x88_0_0) <|
    mSt (x15.add 1) (.int .i64 x88_0_1) <|
    mSt (x15.add 2) (.int .i64 x88_0_2) <|
    mSt (x15.add 3) (.int .i64 x88_0_3) <|
    mSt (x15.add 4) (.slice x88_0_4.p x88_0_4.n x88_0_4.c) <|
    mSt (x15.add 5) (.int .i64 x88_0_5) <|
    mSt (x15.add 6) (.slice x88_0_6.p x88_0_6.n x88_0_6.c) <|
    mSt (x15.add 7) (.slice x88_0_7.p x88_0_7.n x88_0_7.c) <|
    mSt (x15.add 8) (.slice x88_0_8.p x88_0_8.n x88_0_8.c) <|
    mSt (x15.add 9) (.slice x88_0_9.p x88_0_9.n x88_0_9.c) <|
    mIf ((IntKind.i64.wrap ((IntKind.i64.wrap x70) - (IntKind.i64.wrap x83))) == (0 : Int)) (
      mRet (.bool (x88_1 == (0 : Int)))) (
      mRet (.bool ((((IntKind.i64.wrap ((IntKind.i64.wrap x70) - (IntKind.i64.wrap x83))) == (251 : Int)) || ((IntKind.i64.wrap ((IntKind.i64.wrap x70) - (IntKind.i64.wrap x83))) == (-251 : Int))) || (x88_1 == (2 : Int))))))
theorem E_signalboxlaw46_CodeParses (c0_0 : Int) (c0_1 : Int) (c0_2 : Int) (c0_3 : Int) (c0_4 : Sl) (c0_5 : Int) (c0_6 : Sl) (c0_7 : Sl) (c0_8 : Sl) (c0_9 : Sl) (at1 : Int) (by2 : Int) (raw3 : Sl) : ev Try.prog 5 Try.f5.results.toList C_signalboxlaw46_CodeParses D_signalboxlaw46_CodeParses 400 false [.code (bodyOf Try.f5)] (List.map some [.agg #[.int .i64 c0_0, .int .i64 c0_1, .int .i64 c0_2, .int .i64 c0_3, .slice c0_4.p c0_4.n c0_4.c, .int .i64 c0_5, .slice c0_6.p c0_6.n c0_6.c, .slice c0_7.p c0_7.n c0_7.c, .slice c0_8.p c0_8.n c0_8.c, .slice c0_9.p c0_9.n c0_9.c], .int .u16 at1, .int .u8 by2, .slice raw3.p raw3.n raw3.c] ++ List.replicate (Try.f5.ntmps - List.length ([.agg #[.int .i64 c0_0, .int .i64 c0_1, .int .i64 c0_2, .int .i64 c0_3, .slice c0_4.p c0_4.n c0_4.c, .int .i64 c0_5, .slice c0_6.p c0_6.n c0_6.c, .slice c0_7.p c0_7.n c0_7.c, .slice c0_8.p c0_8.n c0_8.c, .slice c0_9.p c0_9.n c0_9.c], .int .u16 at1, .int .u8 by2, .slice raw3.p raw3.n raw3.c] : List Value)) none) = B_signalboxlaw46_CodeParses c0_0 c0_1 c0_2 c0_3 c0_4 c0_5 c0_6 c0_7 c0_8 c0_9 at1 by2 raw3 := by kernel_rfl
theorem S_signalboxlaw46_CodeParses (c0_0 : Int) (c0_1 : Int) (c0_2 : Int) (c0_3 : Int) (c0_4 : Sl) (c0_5 : Int) (c0_6 : Sl) (c0_7 : Sl) (c0_8 : Sl) (c0_9 : Sl) (at1 : Int) (by2 : Int) (raw3 : Sl) {h : Hp} {Q : Value → Hp → Prop} (hb : B_signalboxlaw46_CodeParses c0_0 c0_1 c0_2 c0_3 c0_4 c0_5 c0_6 c0_7 c0_8 c0_9 at1 by2 raw3 h Q) : N_signalboxlaw46_CodeParses c0_0 c0_1 c0_2 c0_3 c0_4 c0_5 c0_6 c0_7 c0_8 c0_9 at1 by2 raw3 h Q :=
  Nf.of_ev Try.call5 Try.func5 (c := bodyOf Try.f5) rfl mixed C_signalboxlaw46_CodeParses D_signalboxlaw46_CodeParses 400 (args := [.agg #[.int .i64 c0_0, .int .i64 c0_1, .int .i64 c0_2, .int .i64 c0_3, .slice c0_4.p c0_4.n c0_4.c, .int .i64 c0_5, .slice c0_6.p c0_6.n c0_6.c, .slice c0_7.p c0_7.n c0_7.c, .slice c0_8.p c0_8.n c0_8.c, .slice c0_9.p c0_9.n c0_9.c], .int .u16 at1, .int .u8 by2, .slice raw3.p raw3.n raw3.c]) (by rw [E_signalboxlaw46_CodeParses]; exact hb)
theorem E_signalboxlaw46_CodeParses_7 : ev Try.prog 5 Try.f5.results.toList C_signalboxlaw46_CodeParses D_signalboxlaw46_CodeParses 400 true (todoOf Try.f5 7) (T_signalboxlaw46_CodeParses_7) = B_signalboxlaw46_CodeParses_7 := by kernel_rfl
theorem S_signalboxlaw46_CodeParses_7 {h : Hp} {Q : Value → Hp → Prop} (hb : B_signalboxlaw46_CodeParses_7 h Q) : K_signalboxlaw46_CodeParses_7 h Q :=
  Cut.of_ev Try.func5 mixed C_signalboxlaw46_CodeParses D_signalboxlaw46_CodeParses 400 (by rw [E_signalboxlaw46_CodeParses_7]; exact hb)
theorem E_signalboxlaw46_CodeParses_8 (at1 : Int) (by2 : Int) (c4 : Addr) : ev Try.prog 5 Try.f5.results.toList C_signalboxlaw46_CodeParses D_signalboxlaw46_CodeParses 400 true (todoOf Try.f5 8) (T_signalboxlaw46_CodeParses_8 at1 by2 c4) = B_signalboxlaw46_CodeParses_8 at1 by2 c4 := by kernel_rfl
theorem S_signalboxlaw46_CodeParses_8 (at1 : Int) (by2 : Int) (c4 : Addr) {h : Hp} {Q : Value → Hp → Prop} (hb : B_signalboxlaw46_CodeParses_8 at1 by2 c4 h Q) : K_signalboxlaw46_CodeParses_8 at1 by2 c4 h Q :=
  Cut.of_ev Try.func5 mixed C_signalboxlaw46_CodeParses D_signalboxlaw46_CodeParses 400 (by rw [E_signalboxlaw46_CodeParses_8]; exact hb)
def C_signalboxlaw46_fixed : List (Nat × List Nat) := []
def D_signalboxlaw46_fixed : List (Nat × List Nat) := [(6, [])]
def B_signalboxlaw46_fixed : M Value :=
  mBind (N_signalboxlaw46_one) fun r14 =>
  unA r14 fun x14l =>
  unC x14l fun x14v0 x14l0 =>
  unI .i64 x14v0 fun (x14_0 : Int) =>
  unC x14l0 fun x14v1 x14l1 =>
  unI .i64 x14v1 fun (x14_1 : Int) =>
  unC x14l1 fun x14v2 x14l2 =>
  unI .i64 x14v2 fun (x14_2 : Int) =>
  unC x14l2 fun x14v3 x14l3 =>
  unI .i64 x14v3 fun (x14_3 : Int) =>
  unC x14l3 fun x14v4 x14l4 =>
  unL x14v4 fun (x14_4 : Sl) =>
  unC x14l4 fun x14v5 x14l5 =>
  unI .i64 x14v5 fun (x14_5 : Int) =>
  unC x14l5 fun x14v6 x14l6 =>
  unL x14v6 fun (x14_6 : Sl) =>
  unC x14l6 fun x14v7 x14l7 =>
  unL x14v7 fun (x14_7 : Sl) =>
  unC x14l7 fun x14v8 x14l8 =>
  unL x14v8 fun (x14_8 : Sl) =>
  unC x14l8 fun x14v9 x14l9 =>
  unL x14v9 fun (x14_9 : Sl) =>
  unE x14l9 <|
  mBind (N_code_Bytes x14_0 x14_1 x14_2 x14_3 x14_4 x14_5 x14_6 x14_7 x14_8 x14_9) fun r15 =>
  un2 unL (unI .i64) r15 fun (x15_0 : Sl) (x15_1 : Int) =>
  mBind (N_code_Parse x15_0) fun r20 =>
  unT r20 fun x20l =>
  unC x20l fun x20v0 x20l0 =>
  unA x20v0 fun x20_0l =>
  unC x20_0l fun x20_0v0 x20_0l0 =>
  unI .i64 x20_0v0 fun (x20_0_0 : Int) =>
  unC x20_0l0 fun x20_0v1 x20_0l1 =>
  unI .i64 x20_0v1 fun (x20_0_1 : Int) =>
  unC x20_0l1 fun x20_0v2 x20_0l2 =>
  unI .i64 x20_0v2 fun (x20_0_2 : Int) =>
  unC x20_0l2 fun x20_0v3 x20_0l3 =>
  unI .i64 x20_0v3 fun (x20_0_3 : Int) =>
  unC x20_0l3 fun x20_0v4 x20_0l4 =>
  unL x20_0v4 fun (x20_0_4 : Sl) =>
  unC x20_0l4 fun x20_0v5 x20_0l5 =>
  unI .i64 x20_0v5 fun (x20_0_5 : Int) =>
  unC x20_0l5 fun x20_0v6 x20_0l6 =>
  unL x20_0v6 fun (x20_0_6 : Sl) =>
  unC x20_0l6 fun x20_0v7 x20_0l7 =>
  unL x20_0v7 fun (x20_0_7 : Sl) =>
  unC x20_0l7 fun x20_0v8 x20_0l8 =>
  unL x20_0v8 fun (x20_0_8 : Sl) =>
  unC x20_0l8 fun x20_0v9 x20_0l9 =>
  unL x20_0v9 fun (x20_0_9 : Sl) =>
  unE x20_0l9 <|
  unC x20l0 fun x20v1 x20l1 =>
  unI .i64 x20v1 fun (x20_1 : Int) =>
  unE x20l1 <|
  mNew #[.int .i64 (0 : Int), .int .i64 (0 : Int), .int .i64 (0 : Int), .int .i64 (0 : Int), .slice none (0) (0), .int .i64 (0 : Int), .slice none (0) (0), .slice none (0) (0), .slice none (0) (0), .slice none (0) (0)] 34 fun (x3 : Addr) =>
  mSt x3 (.int .i64 x20_0_0) <|
  mSt (x3.add 1) (.int .i64 x20_0_1) <|
  mSt (x3.add 2) (.int .i64 x20_0_2) <|
  mSt (x3.add 3) (.int .i64 x20_0_3) <|
  mSt (x3.add 4) (.slice x20_0_4.p x20_0_4.n x20_0_4.c) <|
  mSt (x3.add 5) (.int .i64 x20_0_5) <|
  mSt (x3.add 6) (.slice x20_0_6.p x20_0_6.n x20_0_6.c) <|
  mSt (x3.add 7) (.slice x20_0_7.p x20_0_7.n x20_0_7.c) <|
  mSt (x3.add 8) (.slice x20_0_8.p x20_0_8.n x20_0_8.c) <|
  mSt (x3.add 9) (.slice x20_0_9.p x20_0_9.n x20_0_9.c) <|
  mNew #[.int .u8 (172 : Int), .int .u8 (2 : Int), .int .u8 (9 : Int)] 5 fun (x24 : Addr) =>
  mBind (N_code_Read (Sl.mk (some x24) 3 3)) fun r25 =>
  un3 (unI .i64) (unI .i64) unB r25 fun (x25_0 : Int) (x25_1 : Int) (x25_2 : Bool) =>
  mNew #[.int .u8 (128 : Int), .int .u8 (0 : Int)] 5 fun (x30 : Addr) =>
  mBind (N_code_Read (Sl.mk (some x30) 2 2)) fun r31 =>
  un3 (unI .i64) (unI .i64) unB r31 fun (_x31_0 : Int) (_x31_1 : Int) (x31_2 : Bool) =>
  mBind (N_code_Parse (Sl.mk none 0 0)) fun r36 =>
  unT r36 fun x36l =>
  unC x36l fun x36v0 x36l0 =>
  unA x36v0 fun x36_0l =>
  unC x36_0l fun x36_0v0 x36_0l0 =>
  unI .i64 x36_0v0 fun (x36_0_0 : Int) =>
  unC x36_0l0 fun x36_0v1 x36_0l1 =>
  unI .i64 x36_0v1 fun (x36_0_1 : Int) =>
  unC x36_0l1 fun x36_0v2 x36_0l2 =>
  unI .i64 x36_0v2 fun (x36_0_2 : Int) =>
  unC x36_0l2 fun x36_0v3 x36_0l3 =>
  unI .i64 x36_0v3 fun (x36_0_3 : Int) =>
  unC x36_0l3 fun x36_0v4 x36_0l4 =>
  unL x36_0v4 fun (x36_0_4 : Sl) =>
  unC x36_0l4 fun x36_0v5 x36_0l5 =>
  unI .i64 x36_0v5 fun (x36_0_5 : Int) =>
  unC x36_0l5 fun x36_0v6 x36_0l6 =>
  unL x36_0v6 fun (x36_0_6 : Sl) =>
  unC x36_0l6 fun x36_0v7 x36_0l7 =>
  unL x36_0v7 fun (x36_0_7 : Sl) =>
  unC x36_0l7 fun x36_0v8 x36_0l8 =>
  unL x36_0v8 fun (x36_0_8 : Sl) =>
  unC x36_0l8 fun x36_0v9 x36_0l9 =>
  unL x36_0v9 fun (x36_0_9 : Sl) =>
  unE x36_0l9 <|
  unC x36l0 fun x36v1 x36l1 =>
  unI .i64 x36v1 fun (x36_1 : Int) =>
  unE x36l1 <|
  mNew #[.int .i64 (0 : Int), .int .i64 (0 : Int), .int .i64 (0 : Int), .int .i64 (0 : Int), .slice none (0) (0), .int .i64 (0 : Int), .slice none (0) (0), .slice none (0) (0), .slice none (0) (0), .slice none (0) (0)] 34 fun (x11 : Addr) =>
  mSt x11 (.int .i64 x36_0_0) <|
  mSt (x11.add 1) (.int .i64 x36_0_1) <|
  mSt (x11.add 2) (.int .i64 x36_0_2) <|
  mSt (x11.add 3) (.int .i64 x36_0_3) <|
  mSt (x11.add 4) (.slice x36_0_4.p x36_0_4.n x36_0_4.c) <|
  mSt (x11.add 5) (.int .i64 x36_0_5) <|
  mSt (x11.add 6) (.slice x36_0_6.p x36_0_6.n x36_0_6.c) <|
  mSt (x11.add 7) (.slice x36_0_7.p x36_0_7.n x36_0_7.c) <|
  mSt (x11.add 8) (.slice x36_0_8.p x36_0_8.n x36_0_8.c) <|
  mSt (x11.add 9) (.slice x36_0_9.p x36_0_9.n x36_0_9.c) <|
  mIf (x15_1 == (0 : Int)) (
    mAnd (
      mIf (match true with | true => (x20_1 == (0 : Int)) | false => false) (
        mBind (N_signalboxlaw46_one) fun r46_46 =>
        unA r46_46 fun x46_46l =>
        unC x46_46l fun x46_46v0 x46_46l0 =>
        unI .i64 x46_46v0 fun (x46_46_0 : Int) =>
        unC x46_46l0 fun x46_46v1 x46_46l1 =>
        unI .i64 x46_46v1 fun (x46_46_1 : Int) =>
        unC x46_46l1 fun x46_46v2 x46_46l2 =>
        unI .i64 x46_46v2 fun (x46_46_2 : Int) =>
        unC x46_46l2 fun x46_46v3 x46_46l3 =>
        unI .i64 x46_46v3 fun (x46_46_3 : Int) =>
        unC x46_46l3 fun x46_46v4 x46_46l4 =>
        unL x46_46v4 fun (x46_46_4 : Sl) =>
        unC x46_46l4 fun x46_46v5 x46_46l5 =>
        unI .i64 x46_46v5 fun (x46_46_5 : Int) =>
        unC x46_46l5 fun x46_46v6 x46_46l6 =>
        unL x46_46v6 fun (x46_46_6 : Sl) =>
        unC x46_46l6 fun x46_46v7 x46_46l7 =>
        unL x46_46v7 fun (x46_46_7 : Sl) =>
        unC x46_46l7 fun x46_46v8 x46_46l8 =>
        unL x46_46v8 fun (x46_46_8 : Sl) =>
        unC x46_46l8 fun x46_46v9 x46_46l9 =>
        unL x46_46v9 fun (x46_46_9 : Sl) =>
        unE x46_46l9 <|
        mLdI .i64 x3 fun (x47_47_0 : Int) =>
        mLdI .i64 (x3.add 1) fun (x47_47_1 : Int) =>
        mLdI .i64 (x3.add 2) fun (x47_47_2 : Int) =>
        mLdI .i64 (x3.add 3) fun (x47_47_3 : Int) =>
        mLdL (x3.add 4) fun (x47_47_4 : Sl) =>
        mLdI .i64 (x3.add 5) fun (x47_47_5 : Int) =>
        mLdL (x3.add 6) fun (x47_47_6 : Sl) =>
        mLdL (x3.add 7) fun (x47_47_7 : Sl) =>
        mLdL (x3.add 8) fun (x47_47_8 : Sl) =>
        mLdL (x3.add 9) fun (x47_47_9 : Sl) =>
        mBind (N_signalboxref07_Same x46_46_0 x46_46_1 x46_46_2 x46_46_3 x46_46_4 x46_46_5 x46_46_6 x46_46_7 x46_46_8 x46_46_9 x47_47_0 x47_47_1 x47_47_2 x47_47_3 x47_47_4 x47_47_5 x47_47_6 x47_47_7 x47_47_8 x47_47_9) fun r48_48 =>
        unB r48_48 fun (x48_48 : Bool) =>
        mIf (match true with | true => x48_48 | false => false) (
          mBind (N_code_Number (Sl.mk none 0 0) (300 : Int)) fun r51_49 =>
          unL r51_49 fun (x51_49 : Sl) =>
          mStr x51_49 fun (x52_50 : ByteArray) =>
          mIf (match true with | true => ((x52_50).toList == ((ByteArray.mk #[172, 2])).toList) | false => false) (
            mIf (match true with | true => x25_2 | false => false) (
              mIf (match true with | true => (x25_0 == (300 : Int)) | false => false) (
                mIf (match true with | true => (x25_1 == (2 : Int)) | false => false) (
                  mIf (match true with | true => (!x31_2) | false => false) (
                    mRet (.bool (match true with | true => (x36_1 == (2 : Int)) | false => false))) (
                    mRet (.bool false))) (
                  mRet (.bool false))) (
                mRet (.bool false))) (
              mRet (.bool false))) (
            mRet (.bool false))) (
          mRet (.bool false))) (
        mRet (.bool false))) (
      mIf (match true with | true => (x20_1 == (0 : Int)) | false => false) (
        mLdI .i64 x3 fun (x47_0 : Int) =>
        mLdI .i64 (x3.add 1) fun (x47_1 : Int) =>
        mLdI .i64 (x3.add 2) fun (x47_2 : Int) =>
        mLdI .i64 (x3.add 3) fun (x47_3 : Int) =>
        mLdL (x3.add 4) fun (x47_4 : Sl) =>
        mLdI .i64 (x3.add 5) fun (x47_5 : Int) =>
        mLdL (x3.add 6) fun (x47_6 : Sl) =>
        mLdL (x3.add 7) fun (x47_7 : Sl) =>
        mLdL (x3.add 8) fun (x47_8 : Sl) =>
        mLdL (x3.add 9) fun (x47_9 : Sl) =>
        mBind (N_signalboxlaw46_one) fun r46 =>
        unA r46 fun x46l =>
        unC x46l fun x46v0 x46l0 =>
        unI .i64 x46v0 fun (x46_0 : Int) =>
        unC x46l0 fun x46v1 x46l1 =>
        unI .i64 x46v1 fun (x46_1 : Int) =>
        unC x46l1 fun x46v2 x46l2 =>
        unI .i64 x46v2 fun (x46_2 : Int) =>
        unC x46l2 fun x46v3 x46l3 =>
        unI .i64 x46v3 fun (x46_3 : Int) =>
        unC x46l3 fun x46v4 x46l4 =>
        unL x46v4 fun (x46_4 : Sl) =>
        unC x46l4 fun x46v5 x46l5 =>
        unI .i64 x46v5 fun (x46_5 : Int) =>
        unC x46l5 fun x46v6 x46l6 =>
        unL x46v6 fun (x46_6 : Sl) =>
        unC x46l6 fun x46v7 x46l7 =>
        unL x46v7 fun (x46_7 : Sl) =>
        unC x46l7 fun x46v8 x46l8 =>
        unL x46v8 fun (x46_8 : Sl) =>
        unC x46l8 fun x46v9 x46l9 =>
        unL x46v9 fun (x46_9 : Sl) =>
        unE x46l9 <|
        mBind (N_signalboxref07_Same x46_0 x46_1 x46_2 x46_3 x46_4 x46_5 x46_6 x46_7 x46_8 x46_9 x47_0 x47_1 x47_2 x47_3 x47_4 x47_5 x47_6 x47_7 x47_8 x47_9) fun r48 =>
        unB r48 fun (x48 : Bool) =>
        mIf (match true with | true => x48 | false => false) (
          mBind (N_code_Number (Sl.mk none 0 0) (300 : Int)) fun r51 =>
          unL r51 fun (x51 : Sl) =>
          mStr x51 fun (x52 : ByteArray) =>
          mIf (match true with | true => ((x52).toList == ((ByteArray.mk #[172, 2])).toList) | false => false) (
            mIf (match true with | true => x25_2 | false => false) (
              mIf (match true with | true => (x25_0 == (300 : Int)) | false => false) (
                mIf (match true with | true => (x25_1 == (2 : Int)) | false => false) (
                  mIf (match true with | true => (!x31_2) | false => false) (
                    mRet (.bool (match true with | true => (x36_1 == (2 : Int)) | false => false))) (
                    mRet (.bool false))) (
                  mRet (.bool false))) (
                mRet (.bool false))) (
              mRet (.bool false))) (
            mRet (.bool false))) (
          mRet (.bool false))) (
        mRet (.bool false)))) (
    mAnd (
      mRet (.bool false)) (
      mRet (.bool false)))
theorem E_signalboxlaw46_fixed : ev Try.prog 7 Try.f7.results.toList C_signalboxlaw46_fixed D_signalboxlaw46_fixed 400 false [.code (bodyOf Try.f7)] (List.map some [] ++ List.replicate (Try.f7.ntmps - List.length ([] : List Value)) none) = B_signalboxlaw46_fixed := by kernel_rfl
theorem S_signalboxlaw46_fixed {h : Hp} {Q : Value → Hp → Prop} (hb : B_signalboxlaw46_fixed h Q) : N_signalboxlaw46_fixed h Q :=
  Nf.of_ev Try.call7 Try.func7 (c := bodyOf Try.f7) rfl mixed C_signalboxlaw46_fixed D_signalboxlaw46_fixed 400 (args := []) (by rw [E_signalboxlaw46_fixed]; exact hb)
def C_code_Number : List (Nat × List Nat) := [(3, [0, 1])]
def D_code_Number : List (Nat × List Nat) := []
def T_code_Number_3 (b0 : Sl) (n1 : Int) : Env := mkEnv [(0, .slice b0.p b0.n b0.c), (1, .int .i64 n1)] 28 0
def K_code_Number_3 (b0 : Sl) (n1 : Int) : M Value := Cut Try.prog 8 (todoOf Try.f8 3) (T_code_Number_3 b0 n1)
def B_code_Number (b0 : Sl) (n1 : Int) : M Value :=
  mIf ((decide (n1 < (0 : Int))) || (decide (n1 > (2147483647 : Int)))) (
    mRet (.slice b0.p b0.n b0.c)) (
    K_code_Number_3 b0 n1)
def B_code_Number_3 (b0 : Sl) (n1 : Int) : M Value :=
  mIf (decide (n1 > (127 : Int))) (
    mNew #[.int .u8 (IntKind.u8.wrap (ior .i64 (iand .i64 n1 (127 : Int)) (128 : Int)))] 5 fun (x21 : Addr) =>
    mApp 5 1 1 #[.int .u8 (0 : Int)] b0 ⟨(some x21), 1, 1⟩ fun (x22 : Sl) =>
    mGuard (0 ≤ (7 : Int)) <|
    K_code_Number_3 x22 (ishr .i64 n1 (7 : Int))) (
    mNew #[.int .u8 (IntKind.u8.wrap n1)] 5 fun (x26 : Addr) =>
    mApp 5 1 1 #[.int .u8 (0 : Int)] b0 ⟨(some x26), 1, 1⟩ fun (x27 : Sl) =>
    mRet (.slice x27.p x27.n x27.c))
theorem E_code_Number (b0 : Sl) (n1 : Int) : ev Try.prog 8 Try.f8.results.toList C_code_Number D_code_Number 400 false [.code (bodyOf Try.f8)] (List.map some [.slice b0.p b0.n b0.c, .int .i64 n1] ++ List.replicate (Try.f8.ntmps - List.length ([.slice b0.p b0.n b0.c, .int .i64 n1] : List Value)) none) = B_code_Number b0 n1 := by kernel_rfl
theorem S_code_Number (b0 : Sl) (n1 : Int) {h : Hp} {Q : Value → Hp → Prop} (hb : B_code_Number b0 n1 h Q) : N_code_Number b0 n1 h Q :=
  Nf.of_ev Try.call8 Try.func8 (c := bodyOf Try.f8) rfl mixed C_code_Number D_code_Number 400 (args := [.slice b0.p b0.n b0.c, .int .i64 n1]) (by rw [E_code_Number]; exact hb)
theorem E_code_Number_3 (b0 : Sl) (n1 : Int) : ev Try.prog 8 Try.f8.results.toList C_code_Number D_code_Number 400 true (todoOf Try.f8 3) (T_code_Number_3 b0 n1) = B_code_Number_3 b0 n1 := by kernel_rfl
theorem S_code_Number_3 (b0 : Sl) (n1 : Int) {h : Hp} {Q : Value → Hp → Prop} (hb : B_code_Number_3 b0 n1 h Q) : K_code_Number_3 b0 n1 h Q :=
  Cut.of_ev Try.func8 mixed C_code_Number D_code_Number 400 (by rw [E_code_Number_3]; exact hb)
def C_signalboxref46_Number : List (Nat × List Nat) := [(4, [1, 5])]
def D_signalboxref46_Number : List (Nat × List Nat) := []
def T_signalboxref46_Number_4 (n1 : Int) (out5 : Sl) : Env := mkEnv [(1, .int .i64 n1), (5, .slice out5.p out5.n out5.c)] 32 0
def K_signalboxref46_Number_4 (n1 : Int) (out5 : Sl) : M Value := Cut Try.prog 9 (todoOf Try.f9 4) (T_signalboxref46_Number_4 n1 out5)
def B_signalboxref46_Number (b0 : Sl) (n1 : Int) : M Value :=
  mIf ((decide (n1 < (0 : Int))) || (decide (n1 ≥ (2147483648 : Int)))) (
    mRet (.slice b0.p b0.n b0.c)) (
    mNew #[] 5 fun (x13 : Addr) =>
    mApp 5 1 1 #[.int .u8 (0 : Int)] ⟨(some x13), 0, 0⟩ b0 fun (x15 : Sl) =>
    K_signalboxref46_Number_4 n1 x15)
def B_signalboxref46_Number_4 (n1 : Int) (out5 : Sl) : M Value :=
  mIf (decide (n1 > (127 : Int))) (
    mGuard ((128 : Int) ≠ 0) <|
    mNew #[.int .u8 (IntKind.u8.wrap (IntKind.i64.wrap ((Int.tmod n1 (128 : Int)) + (128 : Int))))] 5 fun (x23 : Addr) =>
    mApp 5 1 1 #[.int .u8 (0 : Int)] out5 ⟨(some x23), 1, 1⟩ fun (x24 : Sl) =>
    mGuard ((128 : Int) ≠ 0) <|
    K_signalboxref46_Number_4 (IntKind.i64.wrap (Int.tdiv n1 (128 : Int))) x24) (
    mNew #[.int .u8 (IntKind.u8.wrap n1)] 5 fun (x30 : Addr) =>
    mApp 5 1 1 #[.int .u8 (0 : Int)] out5 ⟨(some x30), 1, 1⟩ fun (x31 : Sl) =>
    mRet (.slice x31.p x31.n x31.c))
theorem E_signalboxref46_Number (b0 : Sl) (n1 : Int) : ev Try.prog 9 Try.f9.results.toList C_signalboxref46_Number D_signalboxref46_Number 400 false [.code (bodyOf Try.f9)] (List.map some [.slice b0.p b0.n b0.c, .int .i64 n1] ++ List.replicate (Try.f9.ntmps - List.length ([.slice b0.p b0.n b0.c, .int .i64 n1] : List Value)) none) = B_signalboxref46_Number b0 n1 := by kernel_rfl
theorem S_signalboxref46_Number (b0 : Sl) (n1 : Int) {h : Hp} {Q : Value → Hp → Prop} (hb : B_signalboxref46_Number b0 n1 h Q) : N_signalboxref46_Number b0 n1 h Q :=
  Nf.of_ev Try.call9 Try.func9 (c := bodyOf Try.f9) rfl mixed C_signalboxref46_Number D_signalboxref46_Number 400 (args := [.slice b0.p b0.n b0.c, .int .i64 n1]) (by rw [E_signalboxref46_Number]; exact hb)
theorem E_signalboxref46_Number_4 (n1 : Int) (out5 : Sl) : ev Try.prog 9 Try.f9.results.toList C_signalboxref46_Number D_signalboxref46_Number 400 true (todoOf Try.f9 4) (T_signalboxref46_Number_4 n1 out5) = B_signalboxref46_Number_4 n1 out5 := by kernel_rfl
theorem S_signalboxref46_Number_4 (n1 : Int) (out5 : Sl) {h : Hp} {Q : Value → Hp → Prop} (hb : B_signalboxref46_Number_4 n1 out5 h Q) : K_signalboxref46_Number_4 n1 out5 h Q :=
  Cut.of_ev Try.func9 mixed C_signalboxref46_Number D_signalboxref46_Number 400 (by rw [E_signalboxref46_Number_4]; exact hb)
def C_code_Sum : List (Nat × List Nat) := [(3, [3, 6, 7, 8])]
def D_code_Sum : List (Nat × List Nat) := []
def T_code_Sum_3 (n3 : Int) (t6 : Sl) (t7 : Int) (t8 : Int) : Env := mkEnv [(3, .int .i64 n3), (6, .slice t6.p t6.n t6.c), (7, .int .i64 t7), (8, .int .i64 t8)] 20 0
def K_code_Sum_3 (n3 : Int) (t6 : Sl) (t7 : Int) (t8 : Int) : M Value := Cut Try.prog 10 (todoOf Try.f10 3) (T_code_Sum_3 n3 t6 t7 t8)
def B_code_Sum (b0 : Sl) : M Value :=
  K_code_Sum_3 (0 : Int) b0 (b0.n : Int) (0 : Int)
def B_code_Sum_3 (n3 : Int) (t6 : Sl) (t7 : Int) (t8 : Int) : M Value :=
  mIf (decide (t8 < t7)) (
    mIdx t6 t8 1 fun (x10 : Addr) =>
    mLdI .u8 x10 fun (x11 : Int) =>
    K_code_Sum_3 (IntKind.i64.wrap (n3 + (IntKind.i64.wrap x11))) t6 t7 (IntKind.i64.wrap (t8 + (1 : Int)))) (
    mGuard ((251 : Int) ≠ 0) <|
    mRet (.int .u8 (IntKind.u8.wrap (Int.tmod n3 (251 : Int)))))
theorem E_code_Sum (b0 : Sl) : ev Try.prog 10 Try.f10.results.toList C_code_Sum D_code_Sum 400 false [.code (bodyOf Try.f10)] (List.map some [.slice b0.p b0.n b0.c] ++ List.replicate (Try.f10.ntmps - List.length ([.slice b0.p b0.n b0.c] : List Value)) none) = B_code_Sum b0 := by kernel_rfl
theorem S_code_Sum (b0 : Sl) {h : Hp} {Q : Value → Hp → Prop} (hb : B_code_Sum b0 h Q) : N_code_Sum b0 h Q :=
  Nf.of_ev Try.call10 Try.func10 (c := bodyOf Try.f10) rfl mixed C_code_Sum D_code_Sum 400 (args := [.slice b0.p b0.n b0.c]) (by rw [E_code_Sum]; exact hb)
theorem E_code_Sum_3 (n3 : Int) (t6 : Sl) (t7 : Int) (t8 : Int) : ev Try.prog 10 Try.f10.results.toList C_code_Sum D_code_Sum 400 true (todoOf Try.f10 3) (T_code_Sum_3 n3 t6 t7 t8) = B_code_Sum_3 n3 t6 t7 t8 := by kernel_rfl
theorem S_code_Sum_3 (n3 : Int) (t6 : Sl) (t7 : Int) (t8 : Int) {h : Hp} {Q : Value → Hp → Prop} (hb : B_code_Sum_3 n3 t6 t7 t8 h Q) : K_code_Sum_3 n3 t6 t7 t8 h Q :=
  Cut.of_ev Try.func10 mixed C_code_Sum D_code_Sum 400 (by rw [E_code_Sum_3]; exact hb)
def C_signalboxref46_Sum : List (Nat × List Nat) := [(3, [3, 6, 7, 8])]
def D_signalboxref46_Sum : List (Nat × List Nat) := []
def T_signalboxref46_Sum_3 (n3 : Int) (t6 : Sl) (t7 : Int) (t8 : Int) : Env := mkEnv [(3, .int .i64 n3), (6, .slice t6.p t6.n t6.c), (7, .int .i64 t7), (8, .int .i64 t8)] 20 0
def K_signalboxref46_Sum_3 (n3 : Int) (t6 : Sl) (t7 : Int) (t8 : Int) : M Value := Cut Try.prog 11 (todoOf Try.f11 3) (T_signalboxref46_Sum_3 n3 t6 t7 t8)
def B_signalboxref46_Sum (b0 : Sl) : M Value :=
  K_signalboxref46_Sum_3 (0 : Int) b0 (b0.n : Int) (0 : Int)
def B_signalboxref46_Sum_3 (n3 : Int) (t6 : Sl) (t7 : Int) (t8 : Int) : M Value :=
  mIf (decide (t8 < t7)) (
    mIdx t6 t8 1 fun (x10 : Addr) =>
    mLdI .u8 x10 fun (x11 : Int) =>
    mGuard ((251 : Int) ≠ 0) <|
    K_signalboxref46_Sum_3 (Int.tmod (IntKind.i64.wrap (n3 + (IntKind.i64.wrap x11))) (251 : Int)) t6 t7 (IntKind.i64.wrap (t8 + (1 : Int)))) (
    mRet (.int .u8 (IntKind.u8.wrap n3)))
theorem E_signalboxref46_Sum (b0 : Sl) : ev Try.prog 11 Try.f11.results.toList C_signalboxref46_Sum D_signalboxref46_Sum 400 false [.code (bodyOf Try.f11)] (List.map some [.slice b0.p b0.n b0.c] ++ List.replicate (Try.f11.ntmps - List.length ([.slice b0.p b0.n b0.c] : List Value)) none) = B_signalboxref46_Sum b0 := by kernel_rfl
theorem S_signalboxref46_Sum (b0 : Sl) {h : Hp} {Q : Value → Hp → Prop} (hb : B_signalboxref46_Sum b0 h Q) : N_signalboxref46_Sum b0 h Q :=
  Nf.of_ev Try.call11 Try.func11 (c := bodyOf Try.f11) rfl mixed C_signalboxref46_Sum D_signalboxref46_Sum 400 (args := [.slice b0.p b0.n b0.c]) (by rw [E_signalboxref46_Sum]; exact hb)
theorem E_signalboxref46_Sum_3 (n3 : Int) (t6 : Sl) (t7 : Int) (t8 : Int) : ev Try.prog 11 Try.f11.results.toList C_signalboxref46_Sum D_signalboxref46_Sum 400 true (todoOf Try.f11 3) (T_signalboxref46_Sum_3 n3 t6 t7 t8) = B_signalboxref46_Sum_3 n3 t6 t7 t8 := by kernel_rfl
theorem S_signalboxref46_Sum_3 (n3 : Int) (t6 : Sl) (t7 : Int) (t8 : Int) {h : Hp} {Q : Value → Hp → Prop} (hb : B_signalboxref46_Sum_3 n3 t6 t7 t8 h Q) : K_signalboxref46_Sum_3 n3 t6 t7 t8 h Q :=
  Cut.of_ev Try.func11 mixed C_signalboxref46_Sum D_signalboxref46_Sum 400 (by rw [E_signalboxref46_Sum_3]; exact hb)
def C_code_Read : List (Nat × List Nat) := [(3, [5, 12, 13, 14])]
def D_code_Read : List (Nat × List Nat) := []
def T_code_Read_3 (n5 : Int) (t12 : Sl) (t13 : Int) (t14 : Int) : Env := mkEnv [(5, .int .i64 n5), (12, .slice t12.p t12.n t12.c), (13, .int .i64 t13), (14, .int .i64 t14)] 44 0
def K_code_Read_3 (n5 : Int) (t12 : Sl) (t13 : Int) (t14 : Int) : M Value := Cut Try.prog 12 (todoOf Try.f12 3) (T_code_Read_3 n5 t12 t13 t14)
def B_code_Read (b0 : Sl) : M Value :=
  mSlc b0 1 (0 : Int) (if (5 : Int) < (b0.n : Int) then (5 : Int) else (b0.n : Int)) (b0.c : Int) fun (x12 : Sl) =>
  K_code_Read_3 (0 : Int) x12 (x12.n : Int) (0 : Int)
def B_code_Read_3 (n5 : Int) (t12 : Sl) (t13 : Int) (t14 : Int) : M Value :=
  mIf (decide (t14 < t13)) (
    mIdx t12 t14 1 fun (x17 : Addr) =>
    mLdI .u8 x17 fun (x18 : Int) =>
    mGuard (0 ≤ (IntKind.u64.wrap (IntKind.i64.wrap ((7 : Int) * t14)))) <|
    mIf (decide (x18 ≤ (127 : Int))) (
      mRet (.tuple #[.int .i64 (ior .i64 n5 (ishl .i64 (IntKind.i64.wrap (iand .u8 x18 (127 : Int))) (IntKind.u64.wrap (IntKind.i64.wrap ((7 : Int) * t14))))), .int .i64 (IntKind.i64.wrap (t14 + (1 : Int))), .bool (((decide (x18 > (0 : Int))) || (t14 == (0 : Int))) && (decide ((ior .i64 n5 (ishl .i64 (IntKind.i64.wrap (iand .u8 x18 (127 : Int))) (IntKind.u64.wrap (IntKind.i64.wrap ((7 : Int) * t14))))) ≤ (2147483647 : Int))))])) (
      K_code_Read_3 (ior .i64 n5 (ishl .i64 (IntKind.i64.wrap (iand .u8 x18 (127 : Int))) (IntKind.u64.wrap (IntKind.i64.wrap ((7 : Int) * t14))))) t12 t13 (IntKind.i64.wrap (t14 + (1 : Int))))) (
    mRet (.tuple #[.int .i64 (0 : Int), .int .i64 (0 : Int), .bool false]))
theorem E_code_Read (b0 : Sl) : ev Try.prog 12 Try.f12.results.toList C_code_Read D_code_Read 400 false [.code (bodyOf Try.f12)] (List.map some [.slice b0.p b0.n b0.c] ++ List.replicate (Try.f12.ntmps - List.length ([.slice b0.p b0.n b0.c] : List Value)) none) = B_code_Read b0 := by kernel_rfl
theorem S_code_Read (b0 : Sl) {h : Hp} {Q : Value → Hp → Prop} (hb : B_code_Read b0 h Q) : N_code_Read b0 h Q :=
  Nf.of_ev Try.call12 Try.func12 (c := bodyOf Try.f12) rfl mixed C_code_Read D_code_Read 400 (args := [.slice b0.p b0.n b0.c]) (by rw [E_code_Read]; exact hb)
theorem E_code_Read_3 (n5 : Int) (t12 : Sl) (t13 : Int) (t14 : Int) : ev Try.prog 12 Try.f12.results.toList C_code_Read D_code_Read 400 true (todoOf Try.f12 3) (T_code_Read_3 n5 t12 t13 t14) = B_code_Read_3 n5 t12 t13 t14 := by kernel_rfl
theorem S_code_Read_3 (n5 : Int) (t12 : Sl) (t13 : Int) (t14 : Int) {h : Hp} {Q : Value → Hp → Prop} (hb : B_code_Read_3 n5 t12 t13 t14 h Q) : K_code_Read_3 n5 t12 t13 t14 h Q :=
  Cut.of_ev Try.func12 mixed C_code_Read D_code_Read 400 (by rw [E_code_Read_3]; exact hb)
def C_signalboxref46_Read : List (Nat × List Nat) := [(3, [0, 5, 6, 7])]
def D_signalboxref46_Read : List (Nat × List Nat) := [(9, [])]
def T_signalboxref46_Read_3 (b0 : Sl) (n5 : Int) (weight6 : Int) (i7 : Int) : Env := mkEnv [(0, .slice b0.p b0.n b0.c), (5, .int .i64 n5), (6, .int .i64 weight6), (7, .int .i64 i7)] 49 0
def K_signalboxref46_Read_3 (b0 : Sl) (n5 : Int) (weight6 : Int) (i7 : Int) : M Value := Cut Try.prog 13 (todoOf Try.f13 3) (T_signalboxref46_Read_3 b0 n5 weight6 i7)
def B_signalboxref46_Read (b0 : Sl) : M Value :=
  K_signalboxref46_Read_3 b0 (0 : Int) (1 : Int) (0 : Int)
def B_signalboxref46_Read_3 (b0 : Sl) (n5 : Int) (weight6 : Int) (i7 : Int) : M Value :=
  mIf ((decide (i7 < (b0.n : Int))) && (decide (i7 < (5 : Int)))) (
    mIdx b0 i7 1 fun (x22 : Addr) =>
    mLdI .u8 x22 fun (x23 : Int) =>
    mGuard ((128 : Int) ≠ 0) <|
    mIdx b0 i7 1 fun (x33 : Addr) =>
    mLdI .u8 x33 fun (x34 : Int) =>
    mIf (decide (x34 < (128 : Int))) (
      mBind (N_signalboxref46_Number (Sl.mk none 0 0) (IntKind.i64.wrap (n5 + (IntKind.i64.wrap ((IntKind.i64.wrap (Int.tmod x23 (128 : Int))) * weight6))))) fun r37 =>
      unL r37 fun (x37 : Sl) =>
      mSlc b0 1 (0 : Int) (IntKind.i64.wrap (i7 + (1 : Int))) (b0.c : Int) fun (x46 : Sl) =>
      mAnd (
        mStr x37 fun (x42_10 : ByteArray) =>
        mStr x46 fun (x47_11 : ByteArray) =>
        mRet (.tuple #[.int .i64 (IntKind.i64.wrap (n5 + (IntKind.i64.wrap ((IntKind.i64.wrap (Int.tmod x23 (128 : Int))) * weight6)))), .int .i64 (IntKind.i64.wrap (i7 + (1 : Int))), .bool ((x42_10).toList == (x47_11).toList)])) (
        mStr x46 fun (x47 : ByteArray) =>
        mStr x37 fun (x42 : ByteArray) =>
        mRet (.tuple #[.int .i64 (IntKind.i64.wrap (n5 + (IntKind.i64.wrap ((IntKind.i64.wrap (Int.tmod x23 (128 : Int))) * weight6)))), .int .i64 (IntKind.i64.wrap (i7 + (1 : Int))), .bool ((x42).toList == (x47).toList)]))) (
      K_signalboxref46_Read_3 b0 (IntKind.i64.wrap (n5 + (IntKind.i64.wrap ((IntKind.i64.wrap (Int.tmod x23 (128 : Int))) * weight6)))) (IntKind.i64.wrap (weight6 * (128 : Int))) (IntKind.i64.wrap (i7 + (1 : Int))))) (
    mRet (.tuple #[.int .i64 (0 : Int), .int .i64 (0 : Int), .bool false]))
theorem E_signalboxref46_Read (b0 : Sl) : ev Try.prog 13 Try.f13.results.toList C_signalboxref46_Read D_signalboxref46_Read 400 false [.code (bodyOf Try.f13)] (List.map some [.slice b0.p b0.n b0.c] ++ List.replicate (Try.f13.ntmps - List.length ([.slice b0.p b0.n b0.c] : List Value)) none) = B_signalboxref46_Read b0 := by kernel_rfl
theorem S_signalboxref46_Read (b0 : Sl) {h : Hp} {Q : Value → Hp → Prop} (hb : B_signalboxref46_Read b0 h Q) : N_signalboxref46_Read b0 h Q :=
  Nf.of_ev Try.call13 Try.func13 (c := bodyOf Try.f13) rfl mixed C_signalboxref46_Read D_signalboxref46_Read 400 (args := [.slice b0.p b0.n b0.c]) (by rw [E_signalboxref46_Read]; exact hb)
theorem E_signalboxref46_Read_3 (b0 : Sl) (n5 : Int) (weight6 : Int) (i7 : Int) : ev Try.prog 13 Try.f13.results.toList C_signalboxref46_Read D_signalboxref46_Read 400 true (todoOf Try.f13 3) (T_signalboxref46_Read_3 b0 n5 weight6 i7) = B_signalboxref46_Read_3 b0 n5 weight6 i7 := by kernel_rfl
theorem S_signalboxref46_Read_3 (b0 : Sl) (n5 : Int) (weight6 : Int) (i7 : Int) {h : Hp} {Q : Value → Hp → Prop} (hb : B_signalboxref46_Read_3 b0 n5 weight6 i7 h Q) : K_signalboxref46_Read_3 b0 n5 weight6 i7 h Q :=
  Cut.of_ev Try.func13 mixed C_signalboxref46_Read D_signalboxref46_Read 400 (by rw [E_signalboxref46_Read_3]; exact hb)
def C_code_Bytes : List (Nat × List Nat) := [(12, [1, 5, 57, 58, 59]), (16, [1, 5, 57, 58, 59, 82, 83, 84])]
def D_code_Bytes : List (Nat × List Nat) := [(22, [])]
def T_code_Bytes_12 (c1 : Addr) (w5 : Addr) (t57 : Sl) (t58 : Int) (t59 : Int) : Env := mkEnv [(1, .pointer (some c1)), (5, .pointer (some w5)), (57, .slice t57.p t57.n t57.c), (58, .int .i64 t58), (59, .int .i64 t59)] 114 0
def K_code_Bytes_12 (c1 : Addr) (w5 : Addr) (t57 : Sl) (t58 : Int) (t59 : Int) : M Value := Cut Try.prog 15 (todoOf Try.f15 12) (T_code_Bytes_12 c1 w5 t57 t58 t59)
def T_code_Bytes_16 (c1 : Addr) (w5 : Addr) (t57 : Sl) (t58 : Int) (t59 : Int) (t82 : Sl) (t83 : Int) (t84 : Int) : Env := mkEnv [(1, .pointer (some c1)), (5, .pointer (some w5)), (57, .slice t57.p t57.n t57.c), (58, .int .i64 t58), (59, .int .i64 t59), (82, .slice t82.p t82.n t82.c), (83, .int .i64 t83), (84, .int .i64 t84)] 114 0
def K_code_Bytes_16 (c1 : Addr) (w5 : Addr) (t57 : Sl) (t58 : Int) (t59 : Int) (t82 : Sl) (t83 : Int) (t84 : Int) : M Value := Cut Try.prog 15 (todoOf Try.f15 16) (T_code_Bytes_16 c1 w5 t57 t58 t59 t82 t83 t84)
def B_code_Bytes (c0_0 : Int) (c0_1 : Int) (c0_2 : Int) (c0_3 : Int) (c0_4 : Sl) (c0_5 : Int) (c0_6 : Sl) (c0_7 : Sl) (c0_8 : Sl) (c0_9 : Sl) : M Value :=
  mNew #[.int .i64 c0_0, .int .i64 c0_1, .int .i64 c0_2, .int .i64 c0_3, .slice c0_4.p c0_4.n c0_4.c, .int .i64 c0_5, .slice c0_6.p c0_6.n c0_6.c, .slice c0_7.p c0_7.n c0_7.c, .slice c0_8.p c0_8.n c0_8.c, .slice c0_9.p c0_9.n c0_9.c] 34 fun (x1 : Addr) =>
  mLdI .i64 x1 fun (x10_0 : Int) =>
  mLdI .i64 (x1.add 1) fun (x10_1 : Int) =>
  mLdI .i64 (x1.add 2) fun (x10_2 : Int) =>
  mLdI .i64 (x1.add 3) fun (x10_3 : Int) =>
  mLdL (x1.add 4) fun (x10_4 : Sl) =>
  mLdI .i64 (x1.add 5) fun (x10_5 : Int) =>
  mLdL (x1.add 6) fun (x10_6 : Sl) =>
  mLdL (x1.add 7) fun (x10_7 : Sl) =>
  mLdL (x1.add 8) fun (x10_8 : Sl) =>
  mLdL (x1.add 9) fun (x10_9 : Sl) =>
  mBind (N_conf_Check x10_0 x10_1 x10_2 x10_3 x10_4 x10_5 x10_6 x10_7 x10_8 x10_9) fun r11 =>
  unI .i64 r11 fun (x11 : Int) =>
  mIf (x11 != (0 : Int)) (
    mRet (.tuple #[.slice none (0) (0), .int .i64 x11])) (
    mBind (N_code_begin) fun r15 =>
    unL r15 fun (x15 : Sl) =>
    mNew #[.slice x15.p x15.n x15.c] 74 fun (x17 : Addr) =>
    mLdI .i64 x1 fun (x21 : Int) =>
    mLdI .i64 (x1.add 1) fun (x24 : Int) =>
    mLdI .i64 (x1.add 2) fun (x27 : Int) =>
    mLdI .i64 (x1.add 3) fun (x30 : Int) =>
    mNew #[.int .i64 x21, .int .i64 x24, .int .i64 x27, .int .i64 x30] 3 fun (x31 : Addr) =>
    mBind (N_code_writer_put (some x17) (Sl.mk (some x31) 4 4)) fun _r32 =>
    mLdL (x1.add 4) fun (x35 : Sl) =>
    mBind (N_code_writer_list (some x17) x35) fun _r36 =>
    mLdI .i64 (x1.add 5) fun (x39 : Int) =>
    mNew #[.int .i64 x39] 3 fun (x40 : Addr) =>
    mBind (N_code_writer_put (some x17) (Sl.mk (some x40) 1 1)) fun _r41 =>
    mLdL (x1.add 6) fun (x44 : Sl) =>
    mBind (N_code_writer_list (some x17) x44) fun _r45 =>
    mLdL (x1.add 7) fun (x48 : Sl) =>
    mBind (N_code_writer_list (some x17) x48) fun _r49 =>
    mLdL (x1.add 8) fun (x52 : Sl) =>
    mNew #[.int .i64 (x52.n : Int)] 3 fun (x54 : Addr) =>
    mBind (N_code_writer_put (some x17) (Sl.mk (some x54) 1 1)) fun _r55 =>
    mLdL (x1.add 8) fun (x57 : Sl) =>
    K_code_Bytes_12 x1 x17 x57 (x57.n : Int) (0 : Int))
def B_code_Bytes_12 (c1 : Addr) (w5 : Addr) (t57 : Sl) (t58 : Int) (t59 : Int) : M Value :=
  mIf (decide (t59 < t58)) (
    mIdx t57 t59 7 fun (x61 : Addr) =>
    mLdI .i64 x61 fun (x62_0 : Int) =>
    mLdI .i64 (x61.add 1) fun (x62_1 : Int) =>
    mLdI .i64 (x61.add 2) fun (x62_2 : Int) =>
    mLdI .i64 (x61.add 3) fun (x62_3 : Int) =>
    mLdI .i64 (x61.add 4) fun (x62_4 : Int) =>
    mLdI .i64 (x61.add 5) fun (x62_5 : Int) =>
    mLdL (x61.add 6) fun (x62_6 : Sl) =>
    mNew #[.int .i64 (0 : Int), .int .i64 (0 : Int), .int .i64 (0 : Int), .int .i64 (0 : Int), .int .i64 (0 : Int), .int .i64 (0 : Int), .slice none (0) (0)] 67 fun (x7 : Addr) =>
    mSt x7 (.int .i64 x62_0) <|
    mSt (x7.add 1) (.int .i64 x62_1) <|
    mSt (x7.add 2) (.int .i64 x62_2) <|
    mSt (x7.add 3) (.int .i64 x62_3) <|
    mSt (x7.add 4) (.int .i64 x62_4) <|
    mSt (x7.add 5) (.int .i64 x62_5) <|
    mSt (x7.add 6) (.slice x62_6.p x62_6.n x62_6.c) <|
    mLdI .i64 x7 fun (x65 : Int) =>
    mLdI .i64 (x7.add 1) fun (x67 : Int) =>
    mLdI .i64 (x7.add 2) fun (x69 : Int) =>
    mLdI .i64 (x7.add 3) fun (x71 : Int) =>
    mLdI .i64 (x7.add 4) fun (x73 : Int) =>
    mLdI .i64 (x7.add 5) fun (x75 : Int) =>
    mLdL (x7.add 6) fun (x77 : Sl) =>
    mNew #[.int .i64 x65, .int .i64 x67, .int .i64 x69, .int .i64 x71, .int .i64 x73, .int .i64 x75, .int .i64 (x77.n : Int)] 3 fun (x79 : Addr) =>
    mBind (N_code_writer_put (some w5) (Sl.mk (some x79) 7 7)) fun _r80 =>
    mLdL (x7.add 6) fun (x82 : Sl) =>
    K_code_Bytes_16 c1 w5 t57 t58 t59 x82 (x82.n : Int) (0 : Int)) (
    mLdL (c1.add 9) fun (x101 : Sl) =>
    mBind (N_code_writer_list (some w5) x101) fun _r102 =>
    mAnd (
      mLdL w5 fun (x106_80 : Sl) =>
      mLdL w5 fun (x110_81 : Sl) =>
      mBind (N_code_Sum x110_81) fun r111_82 =>
      unI .u8 r111_82 fun (x111_82 : Int) =>
      mNew #[.int .u8 x111_82] 5 fun (x112_83 : Addr) =>
      mApp 5 1 1 #[.int .u8 (0 : Int)] x106_80 ⟨(some x112_83), 1, 1⟩ fun (x113_84 : Sl) =>
      mRet (.tuple #[.slice x113_84.p x113_84.n x113_84.c, .int .i64 (0 : Int)])) (
      mLdL w5 fun (x110 : Sl) =>
      mAnd (
        mLdL w5 fun (x106_76 : Sl) =>
        mBind (N_code_Sum x110) fun r111_77 =>
        unI .u8 r111_77 fun (x111_77 : Int) =>
        mNew #[.int .u8 x111_77] 5 fun (x112_78 : Addr) =>
        mApp 5 1 1 #[.int .u8 (0 : Int)] x106_76 ⟨(some x112_78), 1, 1⟩ fun (x113_79 : Sl) =>
        mRet (.tuple #[.slice x113_79.p x113_79.n x113_79.c, .int .i64 (0 : Int)])) (
        mBind (N_code_Sum x110) fun r111 =>
        unI .u8 r111 fun (x111 : Int) =>
        mAnd (
          mLdL w5 fun (x106_73 : Sl) =>
          mNew #[.int .u8 x111] 5 fun (x112_74 : Addr) =>
          mApp 5 1 1 #[.int .u8 (0 : Int)] x106_73 ⟨(some x112_74), 1, 1⟩ fun (x113_75 : Sl) =>
          mRet (.tuple #[.slice x113_75.p x113_75.n x113_75.c, .int .i64 (0 : Int)])) (
          mNew #[.int .u8 x111] 5 fun (x112 : Addr) =>
          mLdL w5 fun (x106 : Sl) =>
          mApp 5 1 1 #[.int .u8 (0 : Int)] x106 ⟨(some x112), 1, 1⟩ fun (x113 : Sl) =>
          mRet (.tuple #[.slice x113.p x113.n x113.c, .int .i64 (0 : Int)])))))
def B_code_Bytes_16 (c1 : Addr) (w5 : Addr) (t57 : Sl) (t58 : Int) (t59 : Int) (t82 : Sl) (t83 : Int) (t84 : Int) : M Value :=
  mIf (decide (t84 < t83)) (
    mIdx t82 t84 3 fun (x86 : Addr) =>
    mLdI .i64 x86 fun (x87_0 : Int) =>
    mLdI .i64 (x86.add 1) fun (x87_1 : Int) =>
    mLdI .i64 (x86.add 2) fun (x87_2 : Int) =>
    mNew #[.int .i64 (0 : Int), .int .i64 (0 : Int), .int .i64 (0 : Int)] 78 fun (x9 : Addr) =>
    mSt x9 (.int .i64 x87_0) <|
    mSt (x9.add 1) (.int .i64 x87_1) <|
    mSt (x9.add 2) (.int .i64 x87_2) <|
    mLdI .i64 x9 fun (x90 : Int) =>
    mLdI .i64 (x9.add 1) fun (x92 : Int) =>
    mLdI .i64 (x9.add 2) fun (x94 : Int) =>
    mNew #[.int .i64 x90, .int .i64 x92, .int .i64 x94] 3 fun (x95 : Addr) =>
    mBind (N_code_writer_put (some w5) (Sl.mk (some x95) 3 3)) fun _r96 =>
    K_code_Bytes_16 c1 w5 t57 t58 t59 t82 t83 (IntKind.i64.wrap (t84 + (1 : Int)))) (
    K_code_Bytes_12 c1 w5 t57 t58 (IntKind.i64.wrap (t59 + (1 : Int))))
theorem E_code_Bytes (c0_0 : Int) (c0_1 : Int) (c0_2 : Int) (c0_3 : Int) (c0_4 : Sl) (c0_5 : Int) (c0_6 : Sl) (c0_7 : Sl) (c0_8 : Sl) (c0_9 : Sl) : ev Try.prog 15 Try.f15.results.toList C_code_Bytes D_code_Bytes 400 false [.code (bodyOf Try.f15)] (List.map some [.agg #[.int .i64 c0_0, .int .i64 c0_1, .int .i64 c0_2, .int .i64 c0_3, .slice c0_4.p c0_4.n c0_4.c, .int .i64 c0_5, .slice c0_6.p c0_6.n c0_6.c, .slice c0_7.p c0_7.n c0_7.c, .slice c0_8.p c0_8.n c0_8.c, .slice c0_9.p c0_9.n c0_9.c]] ++ List.replicate (Try.f15.ntmps - List.length ([.agg #[.int .i64 c0_0, .int .i64 c0_1, .int .i64 c0_2, .int .i64 c0_3, .slice c0_4.p c0_4.n c0_4.c, .int .i64 c0_5, .slice c0_6.p c0_6.n c0_6.c, .slice c0_7.p c0_7.n c0_7.c, .slice c0_8.p c0_8.n c0_8.c, .slice c0_9.p c0_9.n c0_9.c]] : List Value)) none) = B_code_Bytes c0_0 c0_1 c0_2 c0_3 c0_4 c0_5 c0_6 c0_7 c0_8 c0_9 := by kernel_rfl
theorem S_code_Bytes (c0_0 : Int) (c0_1 : Int) (c0_2 : Int) (c0_3 : Int) (c0_4 : Sl) (c0_5 : Int) (c0_6 : Sl) (c0_7 : Sl) (c0_8 : Sl) (c0_9 : Sl) {h : Hp} {Q : Value → Hp → Prop} (hb : B_code_Bytes c0_0 c0_1 c0_2 c0_3 c0_4 c0_5 c0_6 c0_7 c0_8 c0_9 h Q) : N_code_Bytes c0_0 c0_1 c0_2 c0_3 c0_4 c0_5 c0_6 c0_7 c0_8 c0_9 h Q :=
  Nf.of_ev Try.call15 Try.func15 (c := bodyOf Try.f15) rfl mixed C_code_Bytes D_code_Bytes 400 (args := [.agg #[.int .i64 c0_0, .int .i64 c0_1, .int .i64 c0_2, .int .i64 c0_3, .slice c0_4.p c0_4.n c0_4.c, .int .i64 c0_5, .slice c0_6.p c0_6.n c0_6.c, .slice c0_7.p c0_7.n c0_7.c, .slice c0_8.p c0_8.n c0_8.c, .slice c0_9.p c0_9.n c0_9.c]]) (by rw [E_code_Bytes]; exact hb)
theorem E_code_Bytes_12 (c1 : Addr) (w5 : Addr) (t57 : Sl) (t58 : Int) (t59 : Int) : ev Try.prog 15 Try.f15.results.toList C_code_Bytes D_code_Bytes 400 true (todoOf Try.f15 12) (T_code_Bytes_12 c1 w5 t57 t58 t59) = B_code_Bytes_12 c1 w5 t57 t58 t59 := by kernel_rfl
theorem S_code_Bytes_12 (c1 : Addr) (w5 : Addr) (t57 : Sl) (t58 : Int) (t59 : Int) {h : Hp} {Q : Value → Hp → Prop} (hb : B_code_Bytes_12 c1 w5 t57 t58 t59 h Q) : K_code_Bytes_12 c1 w5 t57 t58 t59 h Q :=
  Cut.of_ev Try.func15 mixed C_code_Bytes D_code_Bytes 400 (by rw [E_code_Bytes_12]; exact hb)
theorem E_code_Bytes_16 (c1 : Addr) (w5 : Addr) (t57 : Sl) (t58 : Int) (t59 : Int) (t82 : Sl) (t83 : Int) (t84 : Int) : ev Try.prog 15 Try.f15.results.toList C_code_Bytes D_code_Bytes 400 true (todoOf Try.f15 16) (T_code_Bytes_16 c1 w5 t57 t58 t59 t82 t83 t84) = B_code_Bytes_16 c1 w5 t57 t58 t59 t82 t83 t84 := by kernel_rfl
theorem S_code_Bytes_16 (c1 : Addr) (w5 : Addr) (t57 : Sl) (t58 : Int) (t59 : Int) (t82 : Sl) (t83 : Int) (t84 : Int) {h : Hp} {Q : Value → Hp → Prop} (hb : B_code_Bytes_16 c1 w5 t57 t58 t59 t82 t83 t84 h Q) : K_code_Bytes_16 c1 w5 t57 t58 t59 t82 t83 t84 h Q :=
  Cut.of_ev Try.func15 mixed C_code_Bytes D_code_Bytes 400 (by rw [E_code_Bytes_16]; exact hb)
def C_code_Parse : List (Nat × List Nat) := [(8, [2, 7, 8, 50, 51, 52]), (16, [2, 7, 8, 74, 75])]
def D_code_Parse : List (Nat × List Nat) := [(4, []), (17, [])]
def T_code_Parse_8 (t2 : Addr) (r7 : Addr) (c8 : Addr) (t50 : Sl) (t51 : Int) (t52 : Int) : Env := mkEnv [(2, .pointer (some t2)), (7, .pointer (some r7)), (8, .pointer (some c8)), (50, .slice t50.p t50.n t50.c), (51, .int .i64 t51), (52, .int .i64 t52)] 108 0
def K_code_Parse_8 (t2 : Addr) (r7 : Addr) (c8 : Addr) (t50 : Sl) (t51 : Int) (t52 : Int) : M Value := Cut Try.prog 17 (todoOf Try.f17 8) (T_code_Parse_8 t2 r7 c8 t50 t51 t52)
def T_code_Parse_16 (t2 : Addr) (r7 : Addr) (c8 : Addr) (t74 : Int) (t75 : Int) : Env := mkEnv [(2, .pointer (some t2)), (7, .pointer (some r7)), (8, .pointer (some c8)), (74, .int .i64 t74), (75, .int .i64 t75)] 108 0
def K_code_Parse_16 (t2 : Addr) (r7 : Addr) (c8 : Addr) (t74 : Int) (t75 : Int) : M Value := Cut Try.prog 17 (todoOf Try.f17 16) (T_code_Parse_16 t2 r7 c8 t74 t75)
def B_code_Parse (b0 : Sl) : M Value :=
  mNew #[.int .i64 (0 : Int), .int .i64 (0 : Int), .int .i64 (0 : Int), .int .i64 (0 : Int), .slice none (0) (0), .int .i64 (0 : Int), .slice none (0) (0), .slice none (0) (0), .slice none (0) (0), .slice none (0) (0)] 34 fun (x2 : Addr) =>
  mBind (mIf (decide ((IntKind.i64.wrap ((b0.n : Int) - (1 : Int))) < (0 : Int))) (mRet true) (mSlc b0 1 (0 : Int) (IntKind.i64.wrap ((b0.n : Int) - (1 : Int))) (b0.c : Int) fun (x20 : Sl) =>
    mQ (N_code_Sum x20) fun r21 =>
    unI .u8 r21 fun (x21 : Int) =>
    mIdx b0 (IntKind.i64.wrap ((b0.n : Int) - (1 : Int))) 1 fun (x24 : Addr) =>
    mLdI .u8 x24 fun (x25 : Int) =>
    mRet (x21 != x25))) fun (b6 : Bool) =>
  mIf b6 (
    mSt x2 (.int .i64 (0 : Int)) <|
    mSt (x2.add 1) (.int .i64 (0 : Int)) <|
    mSt (x2.add 2) (.int .i64 (0 : Int)) <|
    mSt (x2.add 3) (.int .i64 (0 : Int)) <|
    mSt (x2.add 4) (.slice none (0) (0)) <|
    mSt (x2.add 5) (.int .i64 (0 : Int)) <|
    mSt (x2.add 6) (.slice none (0) (0)) <|
    mSt (x2.add 7) (.slice none (0) (0)) <|
    mSt (x2.add 8) (.slice none (0) (0)) <|
    mSt (x2.add 9) (.slice none (0) (0)) <|
    mLdI .i64 x2 fun (q8_0 : Int) =>
    mLdI .i64 (x2.add 1) fun (q8_1 : Int) =>
    mLdI .i64 (x2.add 2) fun (q8_2 : Int) =>
    mLdI .i64 (x2.add 3) fun (q8_3 : Int) =>
    mLdL (x2.add 4) fun (q8_4 : Sl) =>
    mLdI .i64 (x2.add 5) fun (q8_5 : Int) =>
    mLdL (x2.add 6) fun (q8_6 : Sl) =>
    mLdL (x2.add 7) fun (q8_7 : Sl) =>
    mLdL (x2.add 8) fun (q8_8 : Sl) =>
    mLdL (x2.add 9) fun (q8_9 : Sl) =>
    mRet (.tuple #[.agg #[.int .i64 q8_0, .int .i64 q8_1, .int .i64 q8_2, .int .i64 q8_3, .slice q8_4.p q8_4.n q8_4.c, .int .i64 q8_5, .slice q8_6.p q8_6.n q8_6.c, .slice q8_7.p q8_7.n q8_7.c, .slice q8_8.p q8_8.n q8_8.c, .slice q8_9.p q8_9.n q8_9.c], .int .i64 (2 : Int)])) (
    mSlc b0 1 (0 : Int) (IntKind.i64.wrap ((b0.n : Int) - (1 : Int))) (b0.c : Int) fun (x32 : Sl) =>
    mBind (N_code_begin) fun r33 =>
    unL r33 fun (x33 : Sl) =>
    mBind (N_bytes_CutPrefix x32 x33) fun r34 =>
    un2 unL unB r34 fun (x34_0 : Sl) (x34_1 : Bool) =>
    mNew #[.slice x34_0.p x34_0.n x34_0.c, .bool (!x34_1)] 86 fun (x41 : Addr) =>
    mNew #[.int .i64 (0 : Int), .int .i64 (0 : Int), .int .i64 (0 : Int), .int .i64 (0 : Int), .slice none (0) (0), .int .i64 (0 : Int), .slice none (0) (0), .slice none (0) (0), .slice none (0) (0), .slice none (0) (0)] 34 fun (x8 : Addr) =>
    mNew #[.pointer (some x8), .pointer (some (x8.add 1)), .pointer (some (x8.add 2)), .pointer (some (x8.add 3))] 87 fun (x50 : Addr) =>
    K_code_Parse_8 x2 x41 x8 (Sl.mk (some x50) 4 4) (4 : Int) (0 : Int))
def B_code_Parse_8 (t2 : Addr) (r7 : Addr) (c8 : Addr) (t50 : Sl) (t51 : Int) (t52 : Int) : M Value :=
  mIf (decide (t52 < t51)) (
    mIdx t50 t52 1 fun (x54 : Addr) =>
    mLdP x54 fun (x55 : Option Addr) =>
    mBind (N_code_cursor_number (some r7)) fun r58 =>
    unI .i64 r58 fun (x58 : Int) =>
    mNil x55 fun (a27 : Addr) =>
    mSt a27 (.int .i64 x58) <|
    K_code_Parse_8 t2 r7 c8 t50 t51 (IntKind.i64.wrap (t52 + (1 : Int)))) (
    mBind (N_code_cursor_list (some r7)) fun r62 =>
    unL r62 fun (x62 : Sl) =>
    mSt (c8.add 4) (.slice x62.p x62.n x62.c) <|
    mBind (N_code_cursor_number (some r7)) fun r65 =>
    unI .i64 r65 fun (x65 : Int) =>
    mSt (c8.add 5) (.int .i64 x65) <|
    mBind (N_code_cursor_list (some r7)) fun r68 =>
    unL r68 fun (x68 : Sl) =>
    mBind (N_code_cursor_list (some r7)) fun r70 =>
    unL r70 fun (x70 : Sl) =>
    mSt (c8.add 6) (.slice x68.p x68.n x68.c) <|
    mSt (c8.add 7) (.slice x70.p x70.n x70.c) <|
    mBind (N_code_cursor_many (some r7)) fun r74 =>
    unI .i64 r74 fun (x74 : Int) =>
    K_code_Parse_16 t2 r7 c8 x74 (0 : Int))
def B_code_Parse_16 (t2 : Addr) (r7 : Addr) (c8 : Addr) (t74 : Int) (t75 : Int) : M Value :=
  mIf (decide (t75 < t74)) (
    mAnd (
      mLdL (c8.add 8) fun (x78_54 : Sl) =>
      mBind (N_code_cursor_task (some r7)) fun r80_55 =>
      unA r80_55 fun x80_55l =>
      unC x80_55l fun x80_55v0 x80_55l0 =>
      unI .i64 x80_55v0 fun (x80_55_0 : Int) =>
      unC x80_55l0 fun x80_55v1 x80_55l1 =>
      unI .i64 x80_55v1 fun (x80_55_1 : Int) =>
      unC x80_55l1 fun x80_55v2 x80_55l2 =>
      unI .i64 x80_55v2 fun (x80_55_2 : Int) =>
      unC x80_55l2 fun x80_55v3 x80_55l3 =>
      unI .i64 x80_55v3 fun (x80_55_3 : Int) =>
      unC x80_55l3 fun x80_55v4 x80_55l4 =>
      unI .i64 x80_55v4 fun (x80_55_4 : Int) =>
      unC x80_55l4 fun x80_55v5 x80_55l5 =>
      unI .i64 x80_55v5 fun (x80_55_5 : Int) =>
      unC x80_55l5 fun x80_55v6 x80_55l6 =>
      unL x80_55v6 fun (x80_55_6 : Sl) =>
      unE x80_55l6 <|
      mNew #[.int .i64 x80_55_0, .int .i64 x80_55_1, .int .i64 x80_55_2, .int .i64 x80_55_3, .int .i64 x80_55_4, .int .i64 x80_55_5, .slice x80_55_6.p x80_55_6.n x80_55_6.c] 67 fun (x81_56 : Addr) =>
      mApp 67 7 72 #[.int .i64 (0 : Int), .int .i64 (0 : Int), .int .i64 (0 : Int), .int .i64 (0 : Int), .int .i64 (0 : Int), .int .i64 (0 : Int), .slice none (0) (0)] x78_54 ⟨(some x81_56), 1, 1⟩ fun (x82_57 : Sl) =>
      mSt (c8.add 8) (.slice x82_57.p x82_57.n x82_57.c) <|
      K_code_Parse_16 t2 r7 c8 t74 (IntKind.i64.wrap (t75 + (1 : Int)))) (
      mBind (N_code_cursor_task (some r7)) fun r80 =>
      unA r80 fun x80l =>
      unC x80l fun x80v0 x80l0 =>
      unI .i64 x80v0 fun (x80_0 : Int) =>
      unC x80l0 fun x80v1 x80l1 =>
      unI .i64 x80v1 fun (x80_1 : Int) =>
      unC x80l1 fun x80v2 x80l2 =>
      unI .i64 x80v2 fun (x80_2 : Int) =>
      unC x80l2 fun x80v3 x80l3 =>
      unI .i64 x80v3 fun (x80_3 : Int) =>
      unC x80l3 fun x80v4 x80l4 =>
      unI .i64 x80v4 fun (x80_4 : Int) =>
      unC x80l4 fun x80v5 x80l5 =>
      unI .i64 x80v5 fun (x80_5 : Int) =>
      unC x80l5 fun x80v6 x80l6 =>
      unL x80v6 fun (x80_6 : Sl) =>
      unE x80l6 <|
      mAnd (
        mLdL (c8.add 8) fun (x78_49 : Sl) =>
        mNew #[.int .i64 x80_0, .int .i64 x80_1, .int .i64 x80_2, .int .i64 x80_3, .int .i64 x80_4, .int .i64 x80_5, .slice x80_6.p x80_6.n x80_6.c] 67 fun (x81_50 : Addr) =>
        mApp 67 7 72 #[.int .i64 (0 : Int), .int .i64 (0 : Int), .int .i64 (0 : Int), .int .i64 (0 : Int), .int .i64 (0 : Int), .int .i64 (0 : Int), .slice none (0) (0)] x78_49 ⟨(some x81_50), 1, 1⟩ fun (x82_51 : Sl) =>
        mSt (c8.add 8) (.slice x82_51.p x82_51.n x82_51.c) <|
        K_code_Parse_16 t2 r7 c8 t74 (IntKind.i64.wrap (t75 + (1 : Int)))) (
        mNew #[.int .i64 x80_0, .int .i64 x80_1, .int .i64 x80_2, .int .i64 x80_3, .int .i64 x80_4, .int .i64 x80_5, .slice x80_6.p x80_6.n x80_6.c] 67 fun (x81 : Addr) =>
        mLdL (c8.add 8) fun (x78 : Sl) =>
        mApp 67 7 72 #[.int .i64 (0 : Int), .int .i64 (0 : Int), .int .i64 (0 : Int), .int .i64 (0 : Int), .int .i64 (0 : Int), .int .i64 (0 : Int), .slice none (0) (0)] x78 ⟨(some x81), 1, 1⟩ fun (x82 : Sl) =>
        mSt (c8.add 8) (.slice x82.p x82.n x82.c) <|
        K_code_Parse_16 t2 r7 c8 t74 (IntKind.i64.wrap (t75 + (1 : Int)))))) (
    mBind (N_code_cursor_list (some r7)) fun r86 =>
    unL r86 fun (x86 : Sl) =>
    mSt (c8.add 9) (.slice x86.p x86.n x86.c) <|
    mLdB (r7.add 1) fun (x91 : Bool) =>
    mBind (mIf x91 (mRet true) (mLdL r7 fun (x96 : Sl) =>
      mRet (decide ((x96.n : Int) > (0 : Int))))) fun (b69 : Bool) =>
    mIf b69 (
      mSt t2 (.int .i64 (0 : Int)) <|
      mSt (t2.add 1) (.int .i64 (0 : Int)) <|
      mSt (t2.add 2) (.int .i64 (0 : Int)) <|
      mSt (t2.add 3) (.int .i64 (0 : Int)) <|
      mSt (t2.add 4) (.slice none (0) (0)) <|
      mSt (t2.add 5) (.int .i64 (0 : Int)) <|
      mSt (t2.add 6) (.slice none (0) (0)) <|
      mSt (t2.add 7) (.slice none (0) (0)) <|
      mSt (t2.add 8) (.slice none (0) (0)) <|
      mSt (t2.add 9) (.slice none (0) (0)) <|
      mLdI .i64 t2 fun (q71_0 : Int) =>
      mLdI .i64 (t2.add 1) fun (q71_1 : Int) =>
      mLdI .i64 (t2.add 2) fun (q71_2 : Int) =>
      mLdI .i64 (t2.add 3) fun (q71_3 : Int) =>
      mLdL (t2.add 4) fun (q71_4 : Sl) =>
      mLdI .i64 (t2.add 5) fun (q71_5 : Int) =>
      mLdL (t2.add 6) fun (q71_6 : Sl) =>
      mLdL (t2.add 7) fun (q71_7 : Sl) =>
      mLdL (t2.add 8) fun (q71_8 : Sl) =>
      mLdL (t2.add 9) fun (q71_9 : Sl) =>
      mRet (.tuple #[.agg #[.int .i64 q71_0, .int .i64 q71_1, .int .i64 q71_2, .int .i64 q71_3, .slice q71_4.p q71_4.n q71_4.c, .int .i64 q71_5, .slice q71_6.p q71_6.n q71_6.c, .slice q71_7.p q71_7.n q71_7.c, .slice q71_8.p q71_8.n q71_8.c, .slice q71_9.p q71_9.n q71_9.c], .int .i64 (2 : Int)])) (
      mLdI .i64 c8 fun (x101_0 : Int) =>
      mLdI .i64 (c8.add 1) fun (x101_1 : Int) =>
      mLdI .i64 (c8.add 2) fun (x101_2 : Int) =>
      mLdI .i64 (c8.add 3) fun (x101_3 : Int) =>
      mLdL (c8.add 4) fun (x101_4 : Sl) =>
      mLdI .i64 (c8.add 5) fun (x101_5 : Int) =>
      mLdL (c8.add 6) fun (x101_6 : Sl) =>
      mLdL (c8.add 7) fun (x101_7 : Sl) =>
      mLdL (c8.add 8) fun (x101_8 : Sl) =>
      mLdL (c8.add 9) fun (x101_9 : Sl) =>
      mBind (N_conf_Check x101_0 x101_1 x101_2 x101_3 x101_4 x101_5 x101_6 x101_7 x101_8 x101_9) fun r102 =>
      unI .i64 r102 fun (x102 : Int) =>
      mIf (x102 != (0 : Int)) (
        mSt t2 (.int .i64 (0 : Int)) <|
        mSt (t2.add 1) (.int .i64 (0 : Int)) <|
        mSt (t2.add 2) (.int .i64 (0 : Int)) <|
        mSt (t2.add 3) (.int .i64 (0 : Int)) <|
        mSt (t2.add 4) (.slice none (0) (0)) <|
        mSt (t2.add 5) (.int .i64 (0 : Int)) <|
        mSt (t2.add 6) (.slice none (0) (0)) <|
        mSt (t2.add 7) (.slice none (0) (0)) <|
        mSt (t2.add 8) (.slice none (0) (0)) <|
        mSt (t2.add 9) (.slice none (0) (0)) <|
        mLdI .i64 t2 fun (q75_0 : Int) =>
        mLdI .i64 (t2.add 1) fun (q75_1 : Int) =>
        mLdI .i64 (t2.add 2) fun (q75_2 : Int) =>
        mLdI .i64 (t2.add 3) fun (q75_3 : Int) =>
        mLdL (t2.add 4) fun (q75_4 : Sl) =>
        mLdI .i64 (t2.add 5) fun (q75_5 : Int) =>
        mLdL (t2.add 6) fun (q75_6 : Sl) =>
        mLdL (t2.add 7) fun (q75_7 : Sl) =>
        mLdL (t2.add 8) fun (q75_8 : Sl) =>
        mLdL (t2.add 9) fun (q75_9 : Sl) =>
        mRet (.tuple #[.agg #[.int .i64 q75_0, .int .i64 q75_1, .int .i64 q75_2, .int .i64 q75_3, .slice q75_4.p q75_4.n q75_4.c, .int .i64 q75_5, .slice q75_6.p q75_6.n q75_6.c, .slice q75_7.p q75_7.n q75_7.c, .slice q75_8.p q75_8.n q75_8.c, .slice q75_9.p q75_9.n q75_9.c], .int .i64 x102])) (
        mLdI .i64 c8 fun (x107_0 : Int) =>
        mLdI .i64 (c8.add 1) fun (x107_1 : Int) =>
        mLdI .i64 (c8.add 2) fun (x107_2 : Int) =>
        mLdI .i64 (c8.add 3) fun (x107_3 : Int) =>
        mLdL (c8.add 4) fun (x107_4 : Sl) =>
        mLdI .i64 (c8.add 5) fun (x107_5 : Int) =>
        mLdL (c8.add 6) fun (x107_6 : Sl) =>
        mLdL (c8.add 7) fun (x107_7 : Sl) =>
        mLdL (c8.add 8) fun (x107_8 : Sl) =>
        mLdL (c8.add 9) fun (x107_9 : Sl) =>
        mSt t2 (.int .i64 x107_0) <|
        mSt (t2.add 1) (.int .i64 x107_1) <|
        mSt (t2.add 2) (.int .i64 x107_2) <|
        mSt (t2.add 3) (.int .i64 x107_3) <|
        mSt (t2.add 4) (.slice x107_4.p x107_4.n x107_4.c) <|
        mSt (t2.add 5) (.int .i64 x107_5) <|
        mSt (t2.add 6) (.slice x107_6.p x107_6.n x107_6.c) <|
        mSt (t2.add 7) (.slice x107_7.p x107_7.n x107_7.c) <|
        mSt (t2.add 8) (.slice x107_8.p x107_8.n x107_8.c) <|
        mSt (t2.add 9) (.slice x107_9.p x107_9.n x107_9.c) <|
        mLdI .i64 t2 fun (q78_0 : Int) =>
        mLdI .i64 (t2.add 1) fun (q78_1 : Int) =>
        mLdI .i64 (t2.add 2) fun (q78_2 : Int) =>
        mLdI .i64 (t2.add 3) fun (q78_3 : Int) =>
        mLdL (t2.add 4) fun (q78_4 : Sl) =>
        mLdI .i64 (t2.add 5) fun (q78_5 : Int) =>
        mLdL (t2.add 6) fun (q78_6 : Sl) =>
        mLdL (t2.add 7) fun (q78_7 : Sl) =>
        mLdL (t2.add 8) fun (q78_8 : Sl) =>
        mLdL (t2.add 9) fun (q78_9 : Sl) =>
        mRet (.tuple #[.agg #[.int .i64 q78_0, .int .i64 q78_1, .int .i64 q78_2, .int .i64 q78_3, .slice q78_4.p q78_4.n q78_4.c, .int .i64 q78_5, .slice q78_6.p q78_6.n q78_6.c, .slice q78_7.p q78_7.n q78_7.c, .slice q78_8.p q78_8.n q78_8.c, .slice q78_9.p q78_9.n q78_9.c], .int .i64 (0 : Int)]))))
theorem E_code_Parse (b0 : Sl) : ev Try.prog 17 Try.f17.results.toList C_code_Parse D_code_Parse 400 false [.code (bodyOf Try.f17)] (List.map some [.slice b0.p b0.n b0.c] ++ List.replicate (Try.f17.ntmps - List.length ([.slice b0.p b0.n b0.c] : List Value)) none) = B_code_Parse b0 := by kernel_rfl
theorem S_code_Parse (b0 : Sl) {h : Hp} {Q : Value → Hp → Prop} (hb : B_code_Parse b0 h Q) : N_code_Parse b0 h Q :=
  Nf.of_ev Try.call17 Try.func17 (c := bodyOf Try.f17) rfl mixed C_code_Parse D_code_Parse 400 (args := [.slice b0.p b0.n b0.c]) (by rw [E_code_Parse]; exact hb)
theorem E_code_Parse_8 (t2 : Addr) (r7 : Addr) (c8 : Addr) (t50 : Sl) (t51 : Int) (t52 : Int) : ev Try.prog 17 Try.f17.results.toList C_code_Parse D_code_Parse 400 true (todoOf Try.f17 8) (T_code_Parse_8 t2 r7 c8 t50 t51 t52) = B_code_Parse_8 t2 r7 c8 t50 t51 t52 := by kernel_rfl
theorem S_code_Parse_8 (t2 : Addr) (r7 : Addr) (c8 : Addr) (t50 : Sl) (t51 : Int) (t52 : Int) {h : Hp} {Q : Value → Hp → Prop} (hb : B_code_Parse_8 t2 r7 c8 t50 t51 t52 h Q) : K_code_Parse_8 t2 r7 c8 t50 t51 t52 h Q :=
  Cut.of_ev Try.func17 mixed C_code_Parse D_code_Parse 400 (by rw [E_code_Parse_8]; exact hb)
theorem E_code_Parse_16 (t2 : Addr) (r7 : Addr) (c8 : Addr) (t74 : Int) (t75 : Int) : ev Try.prog 17 Try.f17.results.toList C_code_Parse D_code_Parse 400 true (todoOf Try.f17 16) (T_code_Parse_16 t2 r7 c8 t74 t75) = B_code_Parse_16 t2 r7 c8 t74 t75 := by kernel_rfl
theorem S_code_Parse_16 (t2 : Addr) (r7 : Addr) (c8 : Addr) (t74 : Int) (t75 : Int) {h : Hp} {Q : Value → Hp → Prop} (hb : B_code_Parse_16 t2 r7 c8 t74 t75 h Q) : K_code_Parse_16 t2 r7 c8 t74 t75 h Q :=
  Cut.of_ev Try.func17 mixed C_code_Parse D_code_Parse 400 (by rw [E_code_Parse_16]; exact hb)
def C_signalboxref46_Bytes : List (Nat × List Nat) := [(3, [1, 3, 25, 26, 27]), (8, [1, 3]), (10, [1, 3, 54, 55, 56]), (13, [1, 3, 7, 54, 55, 56, 75, 76, 77]), (18, [1, 3, 54, 55, 56, 86, 87, 88])]
def D_signalboxref46_Bytes : List (Nat × List Nat) := [(7, []), (8, []), (20, [])]
def T_signalboxref46_Bytes_3 (c1 : Addr) (b3 : Sl) (t25 : Sl) (t26 : Int) (t27 : Int) : Env := mkEnv [(1, .pointer (some c1)), (3, .slice b3.p b3.n b3.c), (25, .slice t25.p t25.n t25.c), (26, .int .i64 t26), (27, .int .i64 t27)] 113 0
def K_signalboxref46_Bytes_3 (c1 : Addr) (b3 : Sl) (t25 : Sl) (t26 : Int) (t27 : Int) : M Value := Cut Try.prog 18 (todoOf Try.f18 3) (T_signalboxref46_Bytes_3 c1 b3 t25 t26 t27)
def T_signalboxref46_Bytes_8 (c1 : Addr) (b3 : Sl) : Env := mkEnv [(1, .pointer (some c1)), (3, .slice b3.p b3.n b3.c)] 113 0
def K_signalboxref46_Bytes_8 (c1 : Addr) (b3 : Sl) : M Value := Cut Try.prog 18 (todoOf Try.f18 8) (T_signalboxref46_Bytes_8 c1 b3)
def T_signalboxref46_Bytes_10 (c1 : Addr) (b3 : Sl) (t54 : Sl) (t55 : Int) (t56 : Int) : Env := mkEnv [(1, .pointer (some c1)), (3, .slice b3.p b3.n b3.c), (54, .slice t54.p t54.n t54.c), (55, .int .i64 t55), (56, .int .i64 t56)] 113 0
def K_signalboxref46_Bytes_10 (c1 : Addr) (b3 : Sl) (t54 : Sl) (t55 : Int) (t56 : Int) : M Value := Cut Try.prog 18 (todoOf Try.f18 10) (T_signalboxref46_Bytes_10 c1 b3 t54 t55 t56)
def T_signalboxref46_Bytes_13 (c1 : Addr) (b3 : Sl) (t7 : Addr) (t54 : Sl) (t55 : Int) (t56 : Int) (t75 : Sl) (t76 : Int) (t77 : Int) : Env := mkEnv [(1, .pointer (some c1)), (3, .slice b3.p b3.n b3.c), (7, .pointer (some t7)), (54, .slice t54.p t54.n t54.c), (55, .int .i64 t55), (56, .int .i64 t56), (75, .slice t75.p t75.n t75.c), (76, .int .i64 t76), (77, .int .i64 t77)] 113 0
def K_signalboxref46_Bytes_13 (c1 : Addr) (b3 : Sl) (t7 : Addr) (t54 : Sl) (t55 : Int) (t56 : Int) (t75 : Sl) (t76 : Int) (t77 : Int) : M Value := Cut Try.prog 18 (todoOf Try.f18 13) (T_signalboxref46_Bytes_13 c1 b3 t7 t54 t55 t56 t75 t76 t77)
def T_signalboxref46_Bytes_18 (c1 : Addr) (b3 : Sl) (t54 : Sl) (t55 : Int) (t56 : Int) (t86 : Sl) (t87 : Int) (t88 : Int) : Env := mkEnv [(1, .pointer (some c1)), (3, .slice b3.p b3.n b3.c), (54, .slice t54.p t54.n t54.c), (55, .int .i64 t55), (56, .int .i64 t56), (86, .slice t86.p t86.n t86.c), (87, .int .i64 t87), (88, .int .i64 t88)] 113 0
def K_signalboxref46_Bytes_18 (c1 : Addr) (b3 : Sl) (t54 : Sl) (t55 : Int) (t56 : Int) (t86 : Sl) (t87 : Int) (t88 : Int) : M Value := Cut Try.prog 18 (todoOf Try.f18 18) (T_signalboxref46_Bytes_18 c1 b3 t54 t55 t56 t86 t87 t88)
def B_signalboxref46_Bytes (c0_0 : Int) (c0_1 : Int) (c0_2 : Int) (c0_3 : Int) (c0_4 : Sl) (c0_5 : Int) (c0_6 : Sl) (c0_7 : Sl) (c0_8 : Sl) (c0_9 : Sl) : M Value :=
  mNew #[.int .i64 c0_0, .int .i64 c0_1, .int .i64 c0_2, .int .i64 c0_3, .slice c0_4.p c0_4.n c0_4.c, .int .i64 c0_5, .slice c0_6.p c0_6.n c0_6.c, .slice c0_7.p c0_7.n c0_7.c, .slice c0_8.p c0_8.n c0_8.c, .slice c0_9.p c0_9.n c0_9.c] 34 fun (x1 : Addr) =>
  mNew #[.int .u8 (83 : Int), .int .u8 (66 : Int)] 5 fun (x12 : Addr) =>
  mLdI .i64 x1 fun (x15 : Int) =>
  mLdI .i64 (x1.add 1) fun (x18 : Int) =>
  mLdI .i64 (x1.add 2) fun (x21 : Int) =>
  mLdI .i64 (x1.add 3) fun (x24 : Int) =>
  mNew #[.int .i64 x15, .int .i64 x18, .int .i64 x21, .int .i64 x24] 3 fun (x25 : Addr) =>
  K_signalboxref46_Bytes_3 x1 (Sl.mk (some x12) 2 2) (Sl.mk (some x25) 4 4) (4 : Int) (0 : Int)
def B_signalboxref46_Bytes_3 (c1 : Addr) (b3 : Sl) (t25 : Sl) (t26 : Int) (t27 : Int) : M Value :=
  mIf (decide (t27 < t26)) (
    mIdx t25 t27 1 fun (x29 : Addr) =>
    mLdI .i64 x29 fun (x30 : Int) =>
    mBind (N_signalboxref46_Number b3 x30) fun r33 =>
    unL r33 fun (x33 : Sl) =>
    K_signalboxref46_Bytes_3 c1 x33 t25 t26 (IntKind.i64.wrap (t27 + (1 : Int)))) (
    mAnd (
      mLdL (c1.add 4) fun (x37_25 : Sl) =>
      mAnd (
        mBind (N_signalboxref46_list b3 x37_25) fun r38_29 =>
        unL r38_29 fun (x38_29 : Sl) =>
        mLdI .i64 (c1.add 5) fun (x40_30 : Int) =>
        mBind (N_signalboxref46_Number x38_29 x40_30) fun r41_31 =>
        unL r41_31 fun (x41_31 : Sl) =>
        K_signalboxref46_Bytes_8 c1 x41_31) (
        mLdI .i64 (c1.add 5) fun (x40_26 : Int) =>
        mBind (N_signalboxref46_list b3 x37_25) fun r38_27 =>
        unL r38_27 fun (x38_27 : Sl) =>
        mBind (N_signalboxref46_Number x38_27 x40_26) fun r41_28 =>
        unL r41_28 fun (x41_28 : Sl) =>
        K_signalboxref46_Bytes_8 c1 x41_28)) (
      mLdI .i64 (c1.add 5) fun (x40 : Int) =>
      mLdL (c1.add 4) fun (x37 : Sl) =>
      mBind (N_signalboxref46_list b3 x37) fun r38 =>
      unL r38 fun (x38 : Sl) =>
      mBind (N_signalboxref46_Number x38 x40) fun r41 =>
      unL r41 fun (x41 : Sl) =>
      K_signalboxref46_Bytes_8 c1 x41))
def B_signalboxref46_Bytes_8 (c1 : Addr) (b3 : Sl) : M Value :=
  mAnd (
    mLdL (c1.add 6) fun (x44_82 : Sl) =>
    mAnd (
      mBind (N_signalboxref46_list b3 x44_82) fun r45_114 =>
      unL r45_114 fun (x45_114 : Sl) =>
      mAnd (
        mLdL (c1.add 7) fun (x47_121 : Sl) =>
        mAnd (
          mBind (N_signalboxref46_list x45_114 x47_121) fun r48_127 =>
          unL r48_127 fun (x48_127 : Sl) =>
          mLdL (c1.add 8) fun (x50_128 : Sl) =>
          mBind (N_signalboxref46_Number x48_127 (x50_128.n : Int)) fun r52_129 =>
          unL r52_129 fun (x52_129 : Sl) =>
          mLdL (c1.add 8) fun (x54_131 : Sl) =>
          K_signalboxref46_Bytes_10 c1 x52_129 x54_131 (x54_131.n : Int) (0 : Int)) (
          mLdL (c1.add 8) fun (x50_122 : Sl) =>
          mBind (N_signalboxref46_list x45_114 x47_121) fun r48_123 =>
          unL r48_123 fun (x48_123 : Sl) =>
          mBind (N_signalboxref46_Number x48_123 (x50_122.n : Int)) fun r52_124 =>
          unL r52_124 fun (x52_124 : Sl) =>
          mLdL (c1.add 8) fun (x54_126 : Sl) =>
          K_signalboxref46_Bytes_10 c1 x52_124 x54_126 (x54_126.n : Int) (0 : Int))) (
        mLdL (c1.add 8) fun (x50_115 : Sl) =>
        mLdL (c1.add 7) fun (x47_116 : Sl) =>
        mBind (N_signalboxref46_list x45_114 x47_116) fun r48_117 =>
        unL r48_117 fun (x48_117 : Sl) =>
        mBind (N_signalboxref46_Number x48_117 (x50_115.n : Int)) fun r52_118 =>
        unL r52_118 fun (x52_118 : Sl) =>
        mLdL (c1.add 8) fun (x54_120 : Sl) =>
        K_signalboxref46_Bytes_10 c1 x52_118 x54_120 (x54_120.n : Int) (0 : Int))) (
      mAnd (
        mLdL (c1.add 7) fun (x47_96 : Sl) =>
        mAnd (
          mBind (N_signalboxref46_list b3 x44_82) fun r45_103 =>
          unL r45_103 fun (x45_103 : Sl) =>
          mAnd (
            mBind (N_signalboxref46_list x45_103 x47_96) fun r48_109 =>
            unL r48_109 fun (x48_109 : Sl) =>
            mLdL (c1.add 8) fun (x50_110 : Sl) =>
            mBind (N_signalboxref46_Number x48_109 (x50_110.n : Int)) fun r52_111 =>
            unL r52_111 fun (x52_111 : Sl) =>
            mLdL (c1.add 8) fun (x54_113 : Sl) =>
            K_signalboxref46_Bytes_10 c1 x52_111 x54_113 (x54_113.n : Int) (0 : Int)) (
            mLdL (c1.add 8) fun (x50_104 : Sl) =>
            mBind (N_signalboxref46_list x45_103 x47_96) fun r48_105 =>
            unL r48_105 fun (x48_105 : Sl) =>
            mBind (N_signalboxref46_Number x48_105 (x50_104.n : Int)) fun r52_106 =>
            unL r52_106 fun (x52_106 : Sl) =>
            mLdL (c1.add 8) fun (x54_108 : Sl) =>
            K_signalboxref46_Bytes_10 c1 x52_106 x54_108 (x54_108.n : Int) (0 : Int))) (
          mLdL (c1.add 8) fun (x50_97 : Sl) =>
          mBind (N_signalboxref46_list b3 x44_82) fun r45_98 =>
          unL r45_98 fun (x45_98 : Sl) =>
          mBind (N_signalboxref46_list x45_98 x47_96) fun r48_99 =>
          unL r48_99 fun (x48_99 : Sl) =>
          mBind (N_signalboxref46_Number x48_99 (x50_97.n : Int)) fun r52_100 =>
          unL r52_100 fun (x52_100 : Sl) =>
          mLdL (c1.add 8) fun (x54_102 : Sl) =>
          K_signalboxref46_Bytes_10 c1 x52_100 x54_102 (x54_102.n : Int) (0 : Int))) (
        mLdL (c1.add 8) fun (x50_83 : Sl) =>
        mAnd (
          mBind (N_signalboxref46_list b3 x44_82) fun r45_90 =>
          unL r45_90 fun (x45_90 : Sl) =>
          mLdL (c1.add 7) fun (x47_91 : Sl) =>
          mBind (N_signalboxref46_list x45_90 x47_91) fun r48_92 =>
          unL r48_92 fun (x48_92 : Sl) =>
          mBind (N_signalboxref46_Number x48_92 (x50_83.n : Int)) fun r52_93 =>
          unL r52_93 fun (x52_93 : Sl) =>
          mLdL (c1.add 8) fun (x54_95 : Sl) =>
          K_signalboxref46_Bytes_10 c1 x52_93 x54_95 (x54_95.n : Int) (0 : Int)) (
          mLdL (c1.add 7) fun (x47_84 : Sl) =>
          mBind (N_signalboxref46_list b3 x44_82) fun r45_85 =>
          unL r45_85 fun (x45_85 : Sl) =>
          mBind (N_signalboxref46_list x45_85 x47_84) fun r48_86 =>
          unL r48_86 fun (x48_86 : Sl) =>
          mBind (N_signalboxref46_Number x48_86 (x50_83.n : Int)) fun r52_87 =>
          unL r52_87 fun (x52_87 : Sl) =>
          mLdL (c1.add 8) fun (x54_89 : Sl) =>
          K_signalboxref46_Bytes_10 c1 x52_87 x54_89 (x54_89.n : Int) (0 : Int))))) (
    mAnd (
      mLdL (c1.add 7) fun (x47_56 : Sl) =>
      mAnd (
        mLdL (c1.add 6) fun (x44_64 : Sl) =>
        mAnd (
          mBind (N_signalboxref46_list b3 x44_64) fun r45_71 =>
          unL r45_71 fun (x45_71 : Sl) =>
          mAnd (
            mBind (N_signalboxref46_list x45_71 x47_56) fun r48_77 =>
            unL r48_77 fun (x48_77 : Sl) =>
            mLdL (c1.add 8) fun (x50_78 : Sl) =>
            mBind (N_signalboxref46_Number x48_77 (x50_78.n : Int)) fun r52_79 =>
            unL r52_79 fun (x52_79 : Sl) =>
            mLdL (c1.add 8) fun (x54_81 : Sl) =>
            K_signalboxref46_Bytes_10 c1 x52_79 x54_81 (x54_81.n : Int) (0 : Int)) (
            mLdL (c1.add 8) fun (x50_72 : Sl) =>
            mBind (N_signalboxref46_list x45_71 x47_56) fun r48_73 =>
            unL r48_73 fun (x48_73 : Sl) =>
            mBind (N_signalboxref46_Number x48_73 (x50_72.n : Int)) fun r52_74 =>
            unL r52_74 fun (x52_74 : Sl) =>
            mLdL (c1.add 8) fun (x54_76 : Sl) =>
            K_signalboxref46_Bytes_10 c1 x52_74 x54_76 (x54_76.n : Int) (0 : Int))) (
          mLdL (c1.add 8) fun (x50_65 : Sl) =>
          mBind (N_signalboxref46_list b3 x44_64) fun r45_66 =>
          unL r45_66 fun (x45_66 : Sl) =>
          mBind (N_signalboxref46_list x45_66 x47_56) fun r48_67 =>
          unL r48_67 fun (x48_67 : Sl) =>
          mBind (N_signalboxref46_Number x48_67 (x50_65.n : Int)) fun r52_68 =>
          unL r52_68 fun (x52_68 : Sl) =>
          mLdL (c1.add 8) fun (x54_70 : Sl) =>
          K_signalboxref46_Bytes_10 c1 x52_68 x54_70 (x54_70.n : Int) (0 : Int))) (
        mLdL (c1.add 8) fun (x50_57 : Sl) =>
        mLdL (c1.add 6) fun (x44_58 : Sl) =>
        mBind (N_signalboxref46_list b3 x44_58) fun r45_59 =>
        unL r45_59 fun (x45_59 : Sl) =>
        mBind (N_signalboxref46_list x45_59 x47_56) fun r48_60 =>
        unL r48_60 fun (x48_60 : Sl) =>
        mBind (N_signalboxref46_Number x48_60 (x50_57.n : Int)) fun r52_61 =>
        unL r52_61 fun (x52_61 : Sl) =>
        mLdL (c1.add 8) fun (x54_63 : Sl) =>
        K_signalboxref46_Bytes_10 c1 x52_61 x54_63 (x54_63.n : Int) (0 : Int))) (
      mLdL (c1.add 8) fun (x50 : Sl) =>
      mAnd (
        mLdL (c1.add 6) fun (x44_43 : Sl) =>
        mAnd (
          mBind (N_signalboxref46_list b3 x44_43) fun r45_50 =>
          unL r45_50 fun (x45_50 : Sl) =>
          mLdL (c1.add 7) fun (x47_51 : Sl) =>
          mBind (N_signalboxref46_list x45_50 x47_51) fun r48_52 =>
          unL r48_52 fun (x48_52 : Sl) =>
          mBind (N_signalboxref46_Number x48_52 (x50.n : Int)) fun r52_53 =>
          unL r52_53 fun (x52_53 : Sl) =>
          mLdL (c1.add 8) fun (x54_55 : Sl) =>
          K_signalboxref46_Bytes_10 c1 x52_53 x54_55 (x54_55.n : Int) (0 : Int)) (
          mLdL (c1.add 7) fun (x47_44 : Sl) =>
          mBind (N_signalboxref46_list b3 x44_43) fun r45_45 =>
          unL r45_45 fun (x45_45 : Sl) =>
          mBind (N_signalboxref46_list x45_45 x47_44) fun r48_46 =>
          unL r48_46 fun (x48_46 : Sl) =>
          mBind (N_signalboxref46_Number x48_46 (x50.n : Int)) fun r52_47 =>
          unL r52_47 fun (x52_47 : Sl) =>
          mLdL (c1.add 8) fun (x54_49 : Sl) =>
          K_signalboxref46_Bytes_10 c1 x52_47 x54_49 (x54_49.n : Int) (0 : Int))) (
        mLdL (c1.add 7) fun (x47 : Sl) =>
        mLdL (c1.add 6) fun (x44 : Sl) =>
        mBind (N_signalboxref46_list b3 x44) fun r45 =>
        unL r45 fun (x45 : Sl) =>
        mBind (N_signalboxref46_list x45 x47) fun r48 =>
        unL r48 fun (x48 : Sl) =>
        mBind (N_signalboxref46_Number x48 (x50.n : Int)) fun r52 =>
        unL r52 fun (x52 : Sl) =>
        mLdL (c1.add 8) fun (x54 : Sl) =>
        K_signalboxref46_Bytes_10 c1 x52 x54 (x54.n : Int) (0 : Int))))
def B_signalboxref46_Bytes_10 (c1 : Addr) (b3 : Sl) (t54 : Sl) (t55 : Int) (t56 : Int) : M Value :=
  mIf (decide (t56 < t55)) (
    mIdx t54 t56 7 fun (x58 : Addr) =>
    mLdI .i64 x58 fun (x59_0 : Int) =>
    mLdI .i64 (x58.add 1) fun (x59_1 : Int) =>
    mLdI .i64 (x58.add 2) fun (x59_2 : Int) =>
    mLdI .i64 (x58.add 3) fun (x59_3 : Int) =>
    mLdI .i64 (x58.add 4) fun (x59_4 : Int) =>
    mLdI .i64 (x58.add 5) fun (x59_5 : Int) =>
    mLdL (x58.add 6) fun (x59_6 : Sl) =>
    mNew #[.int .i64 (0 : Int), .int .i64 (0 : Int), .int .i64 (0 : Int), .int .i64 (0 : Int), .int .i64 (0 : Int), .int .i64 (0 : Int), .slice none (0) (0)] 67 fun (x7 : Addr) =>
    mSt x7 (.int .i64 x59_0) <|
    mSt (x7.add 1) (.int .i64 x59_1) <|
    mSt (x7.add 2) (.int .i64 x59_2) <|
    mSt (x7.add 3) (.int .i64 x59_3) <|
    mSt (x7.add 4) (.int .i64 x59_4) <|
    mSt (x7.add 5) (.int .i64 x59_5) <|
    mSt (x7.add 6) (.slice x59_6.p x59_6.n x59_6.c) <|
    mLdI .i64 x7 fun (x61 : Int) =>
    mLdI .i64 (x7.add 1) fun (x63 : Int) =>
    mLdI .i64 (x7.add 2) fun (x65 : Int) =>
    mLdI .i64 (x7.add 3) fun (x67 : Int) =>
    mLdI .i64 (x7.add 4) fun (x69 : Int) =>
    mLdI .i64 (x7.add 5) fun (x71 : Int) =>
    mLdL (x7.add 6) fun (x73 : Sl) =>
    mNew #[.int .i64 x61, .int .i64 x63, .int .i64 x65, .int .i64 x67, .int .i64 x69, .int .i64 x71, .int .i64 (x73.n : Int)] 3 fun (x75 : Addr) =>
    K_signalboxref46_Bytes_13 c1 b3 x7 t54 t55 t56 (Sl.mk (some x75) 7 7) (7 : Int) (0 : Int)) (
    mLdL (c1.add 9) fun (x106 : Sl) =>
    mBind (N_signalboxref46_list b3 x106) fun r107 =>
    unL r107 fun (x107 : Sl) =>
    mBind (N_signalboxref46_Sum x107) fun r110 =>
    unI .u8 r110 fun (x110 : Int) =>
    mNew #[.int .u8 x110] 5 fun (x111 : Addr) =>
    mApp 5 1 1 #[.int .u8 (0 : Int)] x107 ⟨(some x111), 1, 1⟩ fun (x112 : Sl) =>
    mRet (.slice x112.p x112.n x112.c))
def B_signalboxref46_Bytes_13 (c1 : Addr) (b3 : Sl) (t7 : Addr) (t54 : Sl) (t55 : Int) (t56 : Int) (t75 : Sl) (t76 : Int) (t77 : Int) : M Value :=
  mIf (decide (t77 < t76)) (
    mIdx t75 t77 1 fun (x79 : Addr) =>
    mLdI .i64 x79 fun (x80 : Int) =>
    mBind (N_signalboxref46_Number b3 x80) fun r83 =>
    unL r83 fun (x83 : Sl) =>
    K_signalboxref46_Bytes_13 c1 x83 t7 t54 t55 t56 t75 t76 (IntKind.i64.wrap (t77 + (1 : Int)))) (
    mLdL (t7.add 6) fun (x86 : Sl) =>
    K_signalboxref46_Bytes_18 c1 b3 t54 t55 t56 x86 (x86.n : Int) (0 : Int))
def B_signalboxref46_Bytes_18 (c1 : Addr) (b3 : Sl) (t54 : Sl) (t55 : Int) (t56 : Int) (t86 : Sl) (t87 : Int) (t88 : Int) : M Value :=
  mIf (decide (t88 < t87)) (
    mIdx t86 t88 3 fun (x90 : Addr) =>
    mLdI .i64 x90 fun (x91_0 : Int) =>
    mLdI .i64 (x90.add 1) fun (x91_1 : Int) =>
    mLdI .i64 (x90.add 2) fun (x91_2 : Int) =>
    mNew #[.int .i64 (0 : Int), .int .i64 (0 : Int), .int .i64 (0 : Int)] 78 fun (x11 : Addr) =>
    mSt x11 (.int .i64 x91_0) <|
    mSt (x11.add 1) (.int .i64 x91_1) <|
    mSt (x11.add 2) (.int .i64 x91_2) <|
    mAnd (
      mLdI .i64 x11 fun (x94_202 : Int) =>
      mAnd (
        mBind (N_signalboxref46_Number b3 x94_202) fun r95_224 =>
        unL r95_224 fun (x95_224 : Sl) =>
        mAnd (
          mLdI .i64 (x11.add 1) fun (x97_229 : Int) =>
          mAnd (
            mBind (N_signalboxref46_Number x95_224 x97_229) fun r98_233 =>
            unL r98_233 fun (x98_233 : Sl) =>
            mLdI .i64 (x11.add 2) fun (x100_234 : Int) =>
            mBind (N_signalboxref46_Number x98_233 x100_234) fun r101_235 =>
            unL r101_235 fun (x101_235 : Sl) =>
            K_signalboxref46_Bytes_18 c1 x101_235 t54 t55 t56 t86 t87 (IntKind.i64.wrap (t88 + (1 : Int)))) (
            mLdI .i64 (x11.add 2) fun (x100_230 : Int) =>
            mBind (N_signalboxref46_Number x95_224 x97_229) fun r98_231 =>
            unL r98_231 fun (x98_231 : Sl) =>
            mBind (N_signalboxref46_Number x98_231 x100_230) fun r101_232 =>
            unL r101_232 fun (x101_232 : Sl) =>
            K_signalboxref46_Bytes_18 c1 x101_232 t54 t55 t56 t86 t87 (IntKind.i64.wrap (t88 + (1 : Int))))) (
          mLdI .i64 (x11.add 2) fun (x100_225 : Int) =>
          mLdI .i64 (x11.add 1) fun (x97_226 : Int) =>
          mBind (N_signalboxref46_Number x95_224 x97_226) fun r98_227 =>
          unL r98_227 fun (x98_227 : Sl) =>
          mBind (N_signalboxref46_Number x98_227 x100_225) fun r101_228 =>
          unL r101_228 fun (x101_228 : Sl) =>
          K_signalboxref46_Bytes_18 c1 x101_228 t54 t55 t56 t86 t87 (IntKind.i64.wrap (t88 + (1 : Int))))) (
        mAnd (
          mLdI .i64 (x11.add 1) fun (x97_212 : Int) =>
          mAnd (
            mBind (N_signalboxref46_Number b3 x94_202) fun r95_217 =>
            unL r95_217 fun (x95_217 : Sl) =>
            mAnd (
              mBind (N_signalboxref46_Number x95_217 x97_212) fun r98_221 =>
              unL r98_221 fun (x98_221 : Sl) =>
              mLdI .i64 (x11.add 2) fun (x100_222 : Int) =>
              mBind (N_signalboxref46_Number x98_221 x100_222) fun r101_223 =>
              unL r101_223 fun (x101_223 : Sl) =>
              K_signalboxref46_Bytes_18 c1 x101_223 t54 t55 t56 t86 t87 (IntKind.i64.wrap (t88 + (1 : Int)))) (
              mLdI .i64 (x11.add 2) fun (x100_218 : Int) =>
              mBind (N_signalboxref46_Number x95_217 x97_212) fun r98_219 =>
              unL r98_219 fun (x98_219 : Sl) =>
              mBind (N_signalboxref46_Number x98_219 x100_218) fun r101_220 =>
              unL r101_220 fun (x101_220 : Sl) =>
              K_signalboxref46_Bytes_18 c1 x101_220 t54 t55 t56 t86 t87 (IntKind.i64.wrap (t88 + (1 : Int))))) (
            mLdI .i64 (x11.add 2) fun (x100_213 : Int) =>
            mBind (N_signalboxref46_Number b3 x94_202) fun r95_214 =>
            unL r95_214 fun (x95_214 : Sl) =>
            mBind (N_signalboxref46_Number x95_214 x97_212) fun r98_215 =>
            unL r98_215 fun (x98_215 : Sl) =>
            mBind (N_signalboxref46_Number x98_215 x100_213) fun r101_216 =>
            unL r101_216 fun (x101_216 : Sl) =>
            K_signalboxref46_Bytes_18 c1 x101_216 t54 t55 t56 t86 t87 (IntKind.i64.wrap (t88 + (1 : Int))))) (
          mLdI .i64 (x11.add 2) fun (x100_203 : Int) =>
          mAnd (
            mBind (N_signalboxref46_Number b3 x94_202) fun r95_208 =>
            unL r95_208 fun (x95_208 : Sl) =>
            mLdI .i64 (x11.add 1) fun (x97_209 : Int) =>
            mBind (N_signalboxref46_Number x95_208 x97_209) fun r98_210 =>
            unL r98_210 fun (x98_210 : Sl) =>
            mBind (N_signalboxref46_Number x98_210 x100_203) fun r101_211 =>
            unL r101_211 fun (x101_211 : Sl) =>
            K_signalboxref46_Bytes_18 c1 x101_211 t54 t55 t56 t86 t87 (IntKind.i64.wrap (t88 + (1 : Int)))) (
            mLdI .i64 (x11.add 1) fun (x97_204 : Int) =>
            mBind (N_signalboxref46_Number b3 x94_202) fun r95_205 =>
            unL r95_205 fun (x95_205 : Sl) =>
            mBind (N_signalboxref46_Number x95_205 x97_204) fun r98_206 =>
            unL r98_206 fun (x98_206 : Sl) =>
            mBind (N_signalboxref46_Number x98_206 x100_203) fun r101_207 =>
            unL r101_207 fun (x101_207 : Sl) =>
            K_signalboxref46_Bytes_18 c1 x101_207 t54 t55 t56 t86 t87 (IntKind.i64.wrap (t88 + (1 : Int))))))) (
      mAnd (
        mLdI .i64 (x11.add 1) fun (x97_184 : Int) =>
        mAnd (
          mLdI .i64 x11 fun (x94_190 : Int) =>
          mAnd (
            mBind (N_signalboxref46_Number b3 x94_190) fun r95_195 =>
            unL r95_195 fun (x95_195 : Sl) =>
            mAnd (
              mBind (N_signalboxref46_Number x95_195 x97_184) fun r98_199 =>
              unL r98_199 fun (x98_199 : Sl) =>
              mLdI .i64 (x11.add 2) fun (x100_200 : Int) =>
              mBind (N_signalboxref46_Number x98_199 x100_200) fun r101_201 =>
              unL r101_201 fun (x101_201 : Sl) =>
              K_signalboxref46_Bytes_18 c1 x101_201 t54 t55 t56 t86 t87 (IntKind.i64.wrap (t88 + (1 : Int)))) (
              mLdI .i64 (x11.add 2) fun (x100_196 : Int) =>
              mBind (N_signalboxref46_Number x95_195 x97_184) fun r98_197 =>
              unL r98_197 fun (x98_197 : Sl) =>
              mBind (N_signalboxref46_Number x98_197 x100_196) fun r101_198 =>
              unL r101_198 fun (x101_198 : Sl) =>
              K_signalboxref46_Bytes_18 c1 x101_198 t54 t55 t56 t86 t87 (IntKind.i64.wrap (t88 + (1 : Int))))) (
            mLdI .i64 (x11.add 2) fun (x100_191 : Int) =>
            mBind (N_signalboxref46_Number b3 x94_190) fun r95_192 =>
            unL r95_192 fun (x95_192 : Sl) =>
            mBind (N_signalboxref46_Number x95_192 x97_184) fun r98_193 =>
            unL r98_193 fun (x98_193 : Sl) =>
            mBind (N_signalboxref46_Number x98_193 x100_191) fun r101_194 =>
            unL r101_194 fun (x101_194 : Sl) =>
            K_signalboxref46_Bytes_18 c1 x101_194 t54 t55 t56 t86 t87 (IntKind.i64.wrap (t88 + (1 : Int))))) (
          mLdI .i64 (x11.add 2) fun (x100_185 : Int) =>
          mLdI .i64 x11 fun (x94_186 : Int) =>
          mBind (N_signalboxref46_Number b3 x94_186) fun r95_187 =>
          unL r95_187 fun (x95_187 : Sl) =>
          mBind (N_signalboxref46_Number x95_187 x97_184) fun r98_188 =>
          unL r98_188 fun (x98_188 : Sl) =>
          mBind (N_signalboxref46_Number x98_188 x100_185) fun r101_189 =>
          unL r101_189 fun (x101_189 : Sl) =>
          K_signalboxref46_Bytes_18 c1 x101_189 t54 t55 t56 t86 t87 (IntKind.i64.wrap (t88 + (1 : Int))))) (
        mLdI .i64 (x11.add 2) fun (x100 : Int) =>
        mAnd (
          mLdI .i64 x11 fun (x94_175 : Int) =>
          mAnd (
            mBind (N_signalboxref46_Number b3 x94_175) fun r95_180 =>
            unL r95_180 fun (x95_180 : Sl) =>
            mLdI .i64 (x11.add 1) fun (x97_181 : Int) =>
            mBind (N_signalboxref46_Number x95_180 x97_181) fun r98_182 =>
            unL r98_182 fun (x98_182 : Sl) =>
            mBind (N_signalboxref46_Number x98_182 x100) fun r101_183 =>
            unL r101_183 fun (x101_183 : Sl) =>
            K_signalboxref46_Bytes_18 c1 x101_183 t54 t55 t56 t86 t87 (IntKind.i64.wrap (t88 + (1 : Int)))) (
            mLdI .i64 (x11.add 1) fun (x97_176 : Int) =>
            mBind (N_signalboxref46_Number b3 x94_175) fun r95_177 =>
            unL r95_177 fun (x95_177 : Sl) =>
            mBind (N_signalboxref46_Number x95_177 x97_176) fun r98_178 =>
            unL r98_178 fun (x98_178 : Sl) =>
            mBind (N_signalboxref46_Number x98_178 x100) fun r101_179 =>
            unL r101_179 fun (x101_179 : Sl) =>
            K_signalboxref46_Bytes_18 c1 x101_179 t54 t55 t56 t86 t87 (IntKind.i64.wrap (t88 + (1 : Int))))) (
          mLdI .i64 (x11.add 1) fun (x97 : Int) =>
          mLdI .i64 x11 fun (x94 : Int) =>
          mBind (N_signalboxref46_Number b3 x94) fun r95 =>
          unL r95 fun (x95 : Sl) =>
          mBind (N_signalboxref46_Number x95 x97) fun r98 =>
          unL r98 fun (x98 : Sl) =>
          mBind (N_signalboxref46_Number x98 x100) fun r101 =>
          unL r101 fun (x101 : Sl) =>
          K_signalboxref46_Bytes_18 c1 x101 t54 t55 t56 t86 t87 (IntKind.i64.wrap (t88 + (1 : Int))))))) (
    K_signalboxref46_Bytes_10 c1 b3 t54 t55 (IntKind.i64.wrap (t56 + (1 : Int))))
theorem E_signalboxref46_Bytes (c0_0 : Int) (c0_1 : Int) (c0_2 : Int) (c0_3 : Int) (c0_4 : Sl) (c0_5 : Int) (c0_6 : Sl) (c0_7 : Sl) (c0_8 : Sl) (c0_9 : Sl) : ev Try.prog 18 Try.f18.results.toList C_signalboxref46_Bytes D_signalboxref46_Bytes 400 false [.code (bodyOf Try.f18)] (List.map some [.agg #[.int .i64 c0_0, .int .i64 c0_1, .int .i64 c0_2, .int .i64 c0_3, .slice c0_4.p c0_4.n c0_4.c, .int .i64 c0_5, .slice c0_6.p c0_6.n c0_6.c, .slice c0_7.p c0_7.n c0_7.c, .slice c0_8.p c0_8.n c0_8.c, .slice c0_9.p c0_9.n c0_9.c]] ++ List.replicate (Try.f18.ntmps - List.length ([.agg #[.int .i64 c0_0, .int .i64 c0_1, .int .i64 c0_2, .int .i64 c0_3, .slice c0_4.p c0_4.n c0_4.c, .int .i64 c0_5, .slice c0_6.p c0_6.n c0_6.c, .slice c0_7.p c0_7.n c0_7.c, .slice c0_8.p c0_8.n c0_8.c, .slice c0_9.p c0_9.n c0_9.c]] : List Value)) none) = B_signalboxref46_Bytes c0_0 c0_1 c0_2 c0_3 c0_4 c0_5 c0_6 c0_7 c0_8 c0_9 := by kernel_rfl
theorem S_signalboxref46_Bytes (c0_0 : Int) (c0_1 : Int) (c0_2 : Int) (c0_3 : Int) (c0_4 : Sl) (c0_5 : Int) (c0_6 : Sl) (c0_7 : Sl) (c0_8 : Sl) (c0_9 : Sl) {h : Hp} {Q : Value → Hp → Prop} (hb : B_signalboxref46_Bytes c0_0 c0_1 c0_2 c0_3 c0_4 c0_5 c0_6 c0_7 c0_8 c0_9 h Q) : N_signalboxref46_Bytes c0_0 c0_1 c0_2 c0_3 c0_4 c0_5 c0_6 c0_7 c0_8 c0_9 h Q :=
  Nf.of_ev Try.call18 Try.func18 (c := bodyOf Try.f18) rfl mixed C_signalboxref46_Bytes D_signalboxref46_Bytes 400 (args := [.agg #[.int .i64 c0_0, .int .i64 c0_1, .int .i64 c0_2, .int .i64 c0_3, .slice c0_4.p c0_4.n c0_4.c, .int .i64 c0_5, .slice c0_6.p c0_6.n c0_6.c, .slice c0_7.p c0_7.n c0_7.c, .slice c0_8.p c0_8.n c0_8.c, .slice c0_9.p c0_9.n c0_9.c]]) (by rw [E_signalboxref46_Bytes]; exact hb)
theorem E_signalboxref46_Bytes_3 (c1 : Addr) (b3 : Sl) (t25 : Sl) (t26 : Int) (t27 : Int) : ev Try.prog 18 Try.f18.results.toList C_signalboxref46_Bytes D_signalboxref46_Bytes 400 true (todoOf Try.f18 3) (T_signalboxref46_Bytes_3 c1 b3 t25 t26 t27) = B_signalboxref46_Bytes_3 c1 b3 t25 t26 t27 := by kernel_rfl
theorem S_signalboxref46_Bytes_3 (c1 : Addr) (b3 : Sl) (t25 : Sl) (t26 : Int) (t27 : Int) {h : Hp} {Q : Value → Hp → Prop} (hb : B_signalboxref46_Bytes_3 c1 b3 t25 t26 t27 h Q) : K_signalboxref46_Bytes_3 c1 b3 t25 t26 t27 h Q :=
  Cut.of_ev Try.func18 mixed C_signalboxref46_Bytes D_signalboxref46_Bytes 400 (by rw [E_signalboxref46_Bytes_3]; exact hb)
theorem E_signalboxref46_Bytes_8 (c1 : Addr) (b3 : Sl) : ev Try.prog 18 Try.f18.results.toList C_signalboxref46_Bytes D_signalboxref46_Bytes 400 true (todoOf Try.f18 8) (T_signalboxref46_Bytes_8 c1 b3) = B_signalboxref46_Bytes_8 c1 b3 := by kernel_rfl
theorem S_signalboxref46_Bytes_8 (c1 : Addr) (b3 : Sl) {h : Hp} {Q : Value → Hp → Prop} (hb : B_signalboxref46_Bytes_8 c1 b3 h Q) : K_signalboxref46_Bytes_8 c1 b3 h Q :=
  Cut.of_ev Try.func18 mixed C_signalboxref46_Bytes D_signalboxref46_Bytes 400 (by rw [E_signalboxref46_Bytes_8]; exact hb)
theorem E_signalboxref46_Bytes_10 (c1 : Addr) (b3 : Sl) (t54 : Sl) (t55 : Int) (t56 : Int) : ev Try.prog 18 Try.f18.results.toList C_signalboxref46_Bytes D_signalboxref46_Bytes 400 true (todoOf Try.f18 10) (T_signalboxref46_Bytes_10 c1 b3 t54 t55 t56) = B_signalboxref46_Bytes_10 c1 b3 t54 t55 t56 := by kernel_rfl
theorem S_signalboxref46_Bytes_10 (c1 : Addr) (b3 : Sl) (t54 : Sl) (t55 : Int) (t56 : Int) {h : Hp} {Q : Value → Hp → Prop} (hb : B_signalboxref46_Bytes_10 c1 b3 t54 t55 t56 h Q) : K_signalboxref46_Bytes_10 c1 b3 t54 t55 t56 h Q :=
  Cut.of_ev Try.func18 mixed C_signalboxref46_Bytes D_signalboxref46_Bytes 400 (by rw [E_signalboxref46_Bytes_10]; exact hb)
theorem E_signalboxref46_Bytes_13 (c1 : Addr) (b3 : Sl) (t7 : Addr) (t54 : Sl) (t55 : Int) (t56 : Int) (t75 : Sl) (t76 : Int) (t77 : Int) : ev Try.prog 18 Try.f18.results.toList C_signalboxref46_Bytes D_signalboxref46_Bytes 400 true (todoOf Try.f18 13) (T_signalboxref46_Bytes_13 c1 b3 t7 t54 t55 t56 t75 t76 t77) = B_signalboxref46_Bytes_13 c1 b3 t7 t54 t55 t56 t75 t76 t77 := by kernel_rfl
theorem S_signalboxref46_Bytes_13 (c1 : Addr) (b3 : Sl) (t7 : Addr) (t54 : Sl) (t55 : Int) (t56 : Int) (t75 : Sl) (t76 : Int) (t77 : Int) {h : Hp} {Q : Value → Hp → Prop} (hb : B_signalboxref46_Bytes_13 c1 b3 t7 t54 t55 t56 t75 t76 t77 h Q) : K_signalboxref46_Bytes_13 c1 b3 t7 t54 t55 t56 t75 t76 t77 h Q :=
  Cut.of_ev Try.func18 mixed C_signalboxref46_Bytes D_signalboxref46_Bytes 400 (by rw [E_signalboxref46_Bytes_13]; exact hb)
theorem E_signalboxref46_Bytes_18 (c1 : Addr) (b3 : Sl) (t54 : Sl) (t55 : Int) (t56 : Int) (t86 : Sl) (t87 : Int) (t88 : Int) : ev Try.prog 18 Try.f18.results.toList C_signalboxref46_Bytes D_signalboxref46_Bytes 400 true (todoOf Try.f18 18) (T_signalboxref46_Bytes_18 c1 b3 t54 t55 t56 t86 t87 t88) = B_signalboxref46_Bytes_18 c1 b3 t54 t55 t56 t86 t87 t88 := by kernel_rfl
theorem S_signalboxref46_Bytes_18 (c1 : Addr) (b3 : Sl) (t54 : Sl) (t55 : Int) (t56 : Int) (t86 : Sl) (t87 : Int) (t88 : Int) {h : Hp} {Q : Value → Hp → Prop} (hb : B_signalboxref46_Bytes_18 c1 b3 t54 t55 t56 t86 t87 t88 h Q) : K_signalboxref46_Bytes_18 c1 b3 t54 t55 t56 t86 t87 t88 h Q :=
  Cut.of_ev Try.func18 mixed C_signalboxref46_Bytes D_signalboxref46_Bytes 400 (by rw [E_signalboxref46_Bytes_18]; exact hb)
def C_signalboxlaw46_one : List (Nat × List Nat) := []
def D_signalboxlaw46_one : List (Nat × List Nat) := []
def B_signalboxlaw46_one : M Value :=
  mNew #[.int .i64 (0 : Int), .int .i64 (0 : Int), .int .i64 (0 : Int), .int .i64 (0 : Int), .slice none (0) (0), .int .i64 (0 : Int), .slice none (0) (0), .slice none (0) (0), .slice none (0) (0), .slice none (0) (0)] 34 fun (x0 : Addr) =>
  mNew #[.int .i64 (1 : Int), .int .i64 (5 : Int), .int .i64 (0 : Int)] 78 fun (x3 : Addr) =>
  mNew #[.int .i64 (1 : Int), .int .i64 (1 : Int), .int .i64 (300 : Int), .int .i64 (10 : Int), .int .i64 (0 : Int), .int .i64 (0 : Int), .slice (some x3) (1) (1)] 67 fun (x5 : Addr) =>
  mSt x0 (.int .i64 (1 : Int)) <|
  mSt (x0.add 1) (.int .i64 (1 : Int)) <|
  mSt (x0.add 2) (.int .i64 (1 : Int)) <|
  mSt (x0.add 3) (.int .i64 (5 : Int)) <|
  mSt (x0.add 4) (.slice none (0) (0)) <|
  mSt (x0.add 5) (.int .i64 (0 : Int)) <|
  mSt (x0.add 6) (.slice none (0) (0)) <|
  mSt (x0.add 7) (.slice none (0) (0)) <|
  mSt (x0.add 8) (.slice (some x5) (1) (1)) <|
  mSt (x0.add 9) (.slice none (0) (0)) <|
  mLdI .i64 x0 fun (q5_0 : Int) =>
  mLdI .i64 (x0.add 1) fun (q5_1 : Int) =>
  mLdI .i64 (x0.add 2) fun (q5_2 : Int) =>
  mLdI .i64 (x0.add 3) fun (q5_3 : Int) =>
  mLdL (x0.add 4) fun (q5_4 : Sl) =>
  mLdI .i64 (x0.add 5) fun (q5_5 : Int) =>
  mLdL (x0.add 6) fun (q5_6 : Sl) =>
  mLdL (x0.add 7) fun (q5_7 : Sl) =>
  mLdL (x0.add 8) fun (q5_8 : Sl) =>
  mLdL (x0.add 9) fun (q5_9 : Sl) =>
  mRet (.agg #[.int .i64 q5_0, .int .i64 q5_1, .int .i64 q5_2, .int .i64 q5_3, .slice q5_4.p q5_4.n q5_4.c, .int .i64 q5_5, .slice q5_6.p q5_6.n q5_6.c, .slice q5_7.p q5_7.n q5_7.c, .slice q5_8.p q5_8.n q5_8.c, .slice q5_9.p q5_9.n q5_9.c])
theorem E_signalboxlaw46_one : ev Try.prog 28 Try.f28.results.toList C_signalboxlaw46_one D_signalboxlaw46_one 400 false [.code (bodyOf Try.f28)] (List.map some [] ++ List.replicate (Try.f28.ntmps - List.length ([] : List Value)) none) = B_signalboxlaw46_one := by kernel_rfl
theorem S_signalboxlaw46_one {h : Hp} {Q : Value → Hp → Prop} (hb : B_signalboxlaw46_one h Q) : N_signalboxlaw46_one h Q :=
  Nf.of_ev Try.call28 Try.func28 (c := bodyOf Try.f28) rfl mixed C_signalboxlaw46_one D_signalboxlaw46_one 400 (args := []) (by rw [E_signalboxlaw46_one]; exact hb)
def C_code_begin : List (Nat × List Nat) := []
def D_code_begin : List (Nat × List Nat) := []
def B_code_begin : M Value :=
  mNew #[.int .u8 (83 : Int), .int .u8 (66 : Int)] 5 fun (x1 : Addr) =>
  mRet (.slice (some x1) (2) (2))
theorem E_code_begin : ev Try.prog 30 Try.f30.results.toList C_code_begin D_code_begin 400 false [.code (bodyOf Try.f30)] (List.map some [] ++ List.replicate (Try.f30.ntmps - List.length ([] : List Value)) none) = B_code_begin := by kernel_rfl
theorem S_code_begin {h : Hp} {Q : Value → Hp → Prop} (hb : B_code_begin h Q) : N_code_begin h Q :=
  Nf.of_ev Try.call30 Try.func30 (c := bodyOf Try.f30) rfl mixed C_code_begin D_code_begin 400 (args := []) (by rw [E_code_begin]; exact hb)
def C_code_writer_put : List (Nat × List Nat) := [(1, [0, 6, 7, 8])]
def D_code_writer_put : List (Nat × List Nat) := []
def T_code_writer_put_1 (w0 : Option Addr) (t6 : Sl) (t7 : Int) (t8 : Int) : Env := mkEnv [(0, .pointer w0), (6, .slice t6.p t6.n t6.c), (7, .int .i64 t7), (8, .int .i64 t8)] 22 0
def K_code_writer_put_1 (w0 : Option Addr) (t6 : Sl) (t7 : Int) (t8 : Int) : M Value := Cut Try.prog 31 (todoOf Try.f31 1) (T_code_writer_put_1 w0 t6 t7 t8)
def B_code_writer_put (w0 : Option Addr) (l1 : Sl) : M Value :=
  K_code_writer_put_1 w0 l1 (l1.n : Int) (0 : Int)
def B_code_writer_put_1 (w0 : Option Addr) (t6 : Sl) (t7 : Int) (t8 : Int) : M Value :=
  mIf (decide (t8 < t7)) (
    mIdx t6 t8 1 fun (x10 : Addr) =>
    mLdI .i64 x10 fun (x11 : Int) =>
    mNil w0 fun (a4 : Addr) =>
    mLdL a4 fun (x16 : Sl) =>
    mBind (N_code_Number x16 x11) fun r18 =>
    unL r18 fun (x18 : Sl) =>
    mNil w0 fun (a9 : Addr) =>
    mSt a9 (.slice x18.p x18.n x18.c) <|
    K_code_writer_put_1 w0 t6 t7 (IntKind.i64.wrap (t8 + (1 : Int)))) (
    mRet (.tuple #[]))
theorem E_code_writer_put (w0 : Option Addr) (l1 : Sl) : ev Try.prog 31 Try.f31.results.toList C_code_writer_put D_code_writer_put 400 false [.code (bodyOf Try.f31)] (List.map some [.pointer w0, .slice l1.p l1.n l1.c] ++ List.replicate (Try.f31.ntmps - List.length ([.pointer w0, .slice l1.p l1.n l1.c] : List Value)) none) = B_code_writer_put w0 l1 := by kernel_rfl
theorem S_code_writer_put (w0 : Option Addr) (l1 : Sl) {h : Hp} {Q : Value → Hp → Prop} (hb : B_code_writer_put w0 l1 h Q) : N_code_writer_put w0 l1 h Q :=
  Nf.of_ev Try.call31 Try.func31 (c := bodyOf Try.f31) rfl mixed C_code_writer_put D_code_writer_put 400 (args := [.pointer w0, .slice l1.p l1.n l1.c]) (by rw [E_code_writer_put]; exact hb)
theorem E_code_writer_put_1 (w0 : Option Addr) (t6 : Sl) (t7 : Int) (t8 : Int) : ev Try.prog 31 Try.f31.results.toList C_code_writer_put D_code_writer_put 400 true (todoOf Try.f31 1) (T_code_writer_put_1 w0 t6 t7 t8) = B_code_writer_put_1 w0 t6 t7 t8 := by kernel_rfl
theorem S_code_writer_put_1 (w0 : Option Addr) (t6 : Sl) (t7 : Int) (t8 : Int) {h : Hp} {Q : Value → Hp → Prop} (hb : B_code_writer_put_1 w0 t6 t7 t8 h Q) : K_code_writer_put_1 w0 t6 t7 t8 h Q :=
  Cut.of_ev Try.func31 mixed C_code_writer_put D_code_writer_put 400 (by rw [E_code_writer_put_1]; exact hb)
def C_code_writer_list : List (Nat × List Nat) := []
def D_code_writer_list : List (Nat × List Nat) := []
def B_code_writer_list (w0 : Option Addr) (l1 : Sl) : M Value :=
  mNew #[.int .i64 (l1.n : Int)] 3 fun (x7 : Addr) =>
  mApp 3 1 8 #[.int .i64 (0 : Int)] ⟨(some x7), 1, 1⟩ l1 fun (x9 : Sl) =>
  mBind (N_code_writer_put w0 x9) fun _r10 =>
  mRet (.tuple #[])
theorem E_code_writer_list (w0 : Option Addr) (l1 : Sl) : ev Try.prog 32 Try.f32.results.toList C_code_writer_list D_code_writer_list 400 false [.code (bodyOf Try.f32)] (List.map some [.pointer w0, .slice l1.p l1.n l1.c] ++ List.replicate (Try.f32.ntmps - List.length ([.pointer w0, .slice l1.p l1.n l1.c] : List Value)) none) = B_code_writer_list w0 l1 := by kernel_rfl
theorem S_code_writer_list (w0 : Option Addr) (l1 : Sl) {h : Hp} {Q : Value → Hp → Prop} (hb : B_code_writer_list w0 l1 h Q) : N_code_writer_list w0 l1 h Q :=
  Nf.of_ev Try.call32 Try.func32 (c := bodyOf Try.f32) rfl mixed C_code_writer_list D_code_writer_list 400 (args := [.pointer w0, .slice l1.p l1.n l1.c]) (by rw [E_code_writer_list]; exact hb)
def C_bytes_CutPrefix : List (Nat × List Nat) := []
def D_bytes_CutPrefix : List (Nat × List Nat) := []
def B_bytes_CutPrefix (s0 : Sl) (prefix1 : Sl) : M Value :=
  mBind (N_bytes_HasPrefix s0 prefix1) fun r8 =>
  unB r8 fun (x8 : Bool) =>
  mIf (!x8) (
    mRet (.tuple #[.slice s0.p s0.n s0.c, .bool false])) (
    mSlc s0 1 (prefix1.n : Int) (s0.n : Int) (s0.c : Int) fun (x14 : Sl) =>
    mRet (.tuple #[.slice x14.p x14.n x14.c, .bool true]))
theorem E_bytes_CutPrefix (s0 : Sl) (prefix1 : Sl) : ev Try.prog 36 Try.f36.results.toList C_bytes_CutPrefix D_bytes_CutPrefix 400 false [.code (bodyOf Try.f36)] (List.map some [.slice s0.p s0.n s0.c, .slice prefix1.p prefix1.n prefix1.c] ++ List.replicate (Try.f36.ntmps - List.length ([.slice s0.p s0.n s0.c, .slice prefix1.p prefix1.n prefix1.c] : List Value)) none) = B_bytes_CutPrefix s0 prefix1 := by kernel_rfl
theorem S_bytes_CutPrefix (s0 : Sl) (prefix1 : Sl) {h : Hp} {Q : Value → Hp → Prop} (hb : B_bytes_CutPrefix s0 prefix1 h Q) : N_bytes_CutPrefix s0 prefix1 h Q :=
  Nf.of_ev Try.call36 Try.func36 (c := bodyOf Try.f36) rfl mixed C_bytes_CutPrefix D_bytes_CutPrefix 400 (args := [.slice s0.p s0.n s0.c, .slice prefix1.p prefix1.n prefix1.c]) (by rw [E_bytes_CutPrefix]; exact hb)
def C_code_cursor_number : List (Nat × List Nat) := []
def D_code_cursor_number : List (Nat × List Nat) := []
def B_code_cursor_number (r0 : Option Addr) : M Value :=
  mNil r0 fun (a2 : Addr) =>
  mLdL a2 fun (x10 : Sl) =>
  mBind (N_code_Read x10) fun r11 =>
  un3 (unI .i64) (unI .i64) unB r11 fun (x11_0 : Int) (x11_1 : Int) (x11_2 : Bool) =>
  mNil r0 fun (a7 : Addr) =>
  mLdB (a7.add 1) fun (x19 : Bool) =>
  mNil r0 fun (a11 : Addr) =>
  mSt (a11.add 1) (.bool (x19 || (!x11_2))) <|
  mNil r0 fun (a15 : Addr) =>
  mLdB (a15.add 1) fun (x29 : Bool) =>
  mIf x29 (
    mRet (.int .i64 (0 : Int))) (
    mNil r0 fun (a19 : Addr) =>
    mLdL a19 fun (x34 : Sl) =>
    mSlc x34 1 x11_1 (x34.n : Int) (x34.c : Int) fun (x36 : Sl) =>
    mNil r0 fun (a24 : Addr) =>
    mSt a24 (.slice x36.p x36.n x36.c) <|
    mRet (.int .i64 x11_0))
theorem E_code_cursor_number (r0 : Option Addr) : ev Try.prog 37 Try.f37.results.toList C_code_cursor_number D_code_cursor_number 400 false [.code (bodyOf Try.f37)] (List.map some [.pointer r0] ++ List.replicate (Try.f37.ntmps - List.length ([.pointer r0] : List Value)) none) = B_code_cursor_number r0 := by kernel_rfl
theorem S_code_cursor_number (r0 : Option Addr) {h : Hp} {Q : Value → Hp → Prop} (hb : B_code_cursor_number r0 h Q) : N_code_cursor_number r0 h Q :=
  Nf.of_ev Try.call37 Try.func37 (c := bodyOf Try.f37) rfl mixed C_code_cursor_number D_code_cursor_number 400 (args := [.pointer r0]) (by rw [E_code_cursor_number]; exact hb)
def C_code_cursor_list : List (Nat × List Nat) := [(3, [0, 3, 5, 6])]
def D_code_cursor_list : List (Nat × List Nat) := []
def T_code_cursor_list_3 (r0 : Option Addr) (out3 : Sl) (t5 : Int) (t6 : Int) : Env := mkEnv [(0, .pointer r0), (3, .slice out3.p out3.n out3.c), (5, .int .i64 t5), (6, .int .i64 t6)] 15 0
def K_code_cursor_list_3 (r0 : Option Addr) (out3 : Sl) (t5 : Int) (t6 : Int) : M Value := Cut Try.prog 38 (todoOf Try.f38 3) (T_code_cursor_list_3 r0 out3 t5 t6)
def B_code_cursor_list (r0 : Option Addr) : M Value :=
  mBind (N_code_cursor_many r0) fun r5 =>
  unI .i64 r5 fun (x5 : Int) =>
  K_code_cursor_list_3 r0 (Sl.mk none 0 0) x5 (0 : Int)
def B_code_cursor_list_3 (r0 : Option Addr) (out3 : Sl) (t5 : Int) (t6 : Int) : M Value :=
  mIf (decide (t6 < t5)) (
    mBind (N_code_cursor_number r0) fun r10 =>
    unI .i64 r10 fun (x10 : Int) =>
    mNew #[.int .i64 x10] 3 fun (x11 : Addr) =>
    mApp 3 1 8 #[.int .i64 (0 : Int)] out3 ⟨(some x11), 1, 1⟩ fun (x12 : Sl) =>
    K_code_cursor_list_3 r0 x12 t5 (IntKind.i64.wrap (t6 + (1 : Int)))) (
    mRet (.slice out3.p out3.n out3.c))
theorem E_code_cursor_list (r0 : Option Addr) : ev Try.prog 38 Try.f38.results.toList C_code_cursor_list D_code_cursor_list 400 false [.code (bodyOf Try.f38)] (List.map some [.pointer r0] ++ List.replicate (Try.f38.ntmps - List.length ([.pointer r0] : List Value)) none) = B_code_cursor_list r0 := by kernel_rfl
theorem S_code_cursor_list (r0 : Option Addr) {h : Hp} {Q : Value → Hp → Prop} (hb : B_code_cursor_list r0 h Q) : N_code_cursor_list r0 h Q :=
  Nf.of_ev Try.call38 Try.func38 (c := bodyOf Try.f38) rfl mixed C_code_cursor_list D_code_cursor_list 400 (args := [.pointer r0]) (by rw [E_code_cursor_list]; exact hb)
theorem E_code_cursor_list_3 (r0 : Option Addr) (out3 : Sl) (t5 : Int) (t6 : Int) : ev Try.prog 38 Try.f38.results.toList C_code_cursor_list D_code_cursor_list 400 true (todoOf Try.f38 3) (T_code_cursor_list_3 r0 out3 t5 t6) = B_code_cursor_list_3 r0 out3 t5 t6 := by kernel_rfl
theorem S_code_cursor_list_3 (r0 : Option Addr) (out3 : Sl) (t5 : Int) (t6 : Int) {h : Hp} {Q : Value → Hp → Prop} (hb : B_code_cursor_list_3 r0 out3 t5 t6 h Q) : K_code_cursor_list_3 r0 out3 t5 t6 h Q :=
  Cut.of_ev Try.func38 mixed C_code_cursor_list D_code_cursor_list 400 (by rw [E_code_cursor_list_3]; exact hb)
def C_code_cursor_many : List (Nat × List Nat) := []
def D_code_cursor_many : List (Nat × List Nat) := []
def B_code_cursor_many (r0 : Option Addr) : M Value :=
  mBind (N_code_cursor_number r0) fun r5 =>
  unI .i64 r5 fun (x5 : Int) =>
  mNil r0 fun (a3 : Addr) =>
  mLdB (a3.add 1) fun (x10 : Bool) =>
  mBind (mIf x10 (mRet true) (mNil r0 fun (a7 : Addr) =>
    mLdL a7 fun (x16 : Sl) =>
    mRet (decide (x5 > (x16.n : Int))))) fun (b10 : Bool) =>
  mNil r0 fun (a12 : Addr) =>
  mSt (a12.add 1) (.bool b10) <|
  mNil r0 fun (a16 : Addr) =>
  mLdB (a16.add 1) fun (x25 : Bool) =>
  mIf x25 (
    mRet (.int .i64 (0 : Int))) (
    mRet (.int .i64 x5))
theorem E_code_cursor_many (r0 : Option Addr) : ev Try.prog 39 Try.f39.results.toList C_code_cursor_many D_code_cursor_many 400 false [.code (bodyOf Try.f39)] (List.map some [.pointer r0] ++ List.replicate (Try.f39.ntmps - List.length ([.pointer r0] : List Value)) none) = B_code_cursor_many r0 := by kernel_rfl
theorem S_code_cursor_many (r0 : Option Addr) {h : Hp} {Q : Value → Hp → Prop} (hb : B_code_cursor_many r0 h Q) : N_code_cursor_many r0 h Q :=
  Nf.of_ev Try.call39 Try.func39 (c := bodyOf Try.f39) rfl mixed C_code_cursor_many D_code_cursor_many 400 (args := [.pointer r0]) (by rw [E_code_cursor_many]; exact hb)
def C_code_cursor_task : List (Nat × List Nat) := [(2, [0, 2, 12, 13, 14]), (7, [0, 2, 24, 25])]
def D_code_cursor_task : List (Nat × List Nat) := []
def T_code_cursor_task_2 (r0 : Option Addr) (t2 : Addr) (t12 : Sl) (t13 : Int) (t14 : Int) : Env := mkEnv [(0, .pointer r0), (2, .pointer (some t2)), (12, .slice t12.p t12.n t12.c), (13, .int .i64 t13), (14, .int .i64 t14)] 44 0
def K_code_cursor_task_2 (r0 : Option Addr) (t2 : Addr) (t12 : Sl) (t13 : Int) (t14 : Int) : M Value := Cut Try.prog 40 (todoOf Try.f40 2) (T_code_cursor_task_2 r0 t2 t12 t13 t14)
def T_code_cursor_task_7 (r0 : Option Addr) (t2 : Addr) (t24 : Int) (t25 : Int) : Env := mkEnv [(0, .pointer r0), (2, .pointer (some t2)), (24, .int .i64 t24), (25, .int .i64 t25)] 44 0
def K_code_cursor_task_7 (r0 : Option Addr) (t2 : Addr) (t24 : Int) (t25 : Int) : M Value := Cut Try.prog 40 (todoOf Try.f40 7) (T_code_cursor_task_7 r0 t2 t24 t25)
def B_code_cursor_task (r0 : Option Addr) : M Value :=
  mNew #[.int .i64 (0 : Int), .int .i64 (0 : Int), .int .i64 (0 : Int), .int .i64 (0 : Int), .int .i64 (0 : Int), .int .i64 (0 : Int), .slice none (0) (0)] 67 fun (x2 : Addr) =>
  mNew #[.pointer (some x2), .pointer (some (x2.add 1)), .pointer (some (x2.add 2)), .pointer (some (x2.add 3)), .pointer (some (x2.add 4)), .pointer (some (x2.add 5))] 87 fun (x12 : Addr) =>
  K_code_cursor_task_2 r0 x2 (Sl.mk (some x12) 6 6) (6 : Int) (0 : Int)
def B_code_cursor_task_2 (r0 : Option Addr) (t2 : Addr) (t12 : Sl) (t13 : Int) (t14 : Int) : M Value :=
  mIf (decide (t14 < t13)) (
    mIdx t12 t14 1 fun (x16 : Addr) =>
    mLdP x16 fun (x17 : Option Addr) =>
    mBind (N_code_cursor_number r0) fun r20 =>
    unI .i64 r20 fun (x20 : Int) =>
    mNil x17 fun (a13 : Addr) =>
    mSt a13 (.int .i64 x20) <|
    K_code_cursor_task_2 r0 t2 t12 t13 (IntKind.i64.wrap (t14 + (1 : Int)))) (
    mBind (N_code_cursor_many r0) fun r24 =>
    unI .i64 r24 fun (x24 : Int) =>
    K_code_cursor_task_7 r0 t2 x24 (0 : Int))
def B_code_cursor_task_7 (r0 : Option Addr) (t2 : Addr) (t24 : Int) (t25 : Int) : M Value :=
  mIf (decide (t25 < t24)) (
    mBind (N_code_cursor_number r0) fun r28 =>
    unI .i64 r28 fun (x28 : Int) =>
    mNew #[.int .i64 (0 : Int), .int .i64 (0 : Int), .int .i64 (0 : Int)] 78 fun (x5 : Addr) =>
    mSt x5 (.int .i64 x28) <|
    mSt (x5.add 1) (.int .i64 (0 : Int)) <|
    mSt (x5.add 2) (.int .i64 (0 : Int)) <|
    mBind (N_code_cursor_number r0) fun r31 =>
    unI .i64 r31 fun (x31 : Int) =>
    mBind (N_code_cursor_number r0) fun r33 =>
    unI .i64 r33 fun (x33 : Int) =>
    mSt (x5.add 1) (.int .i64 x31) <|
    mSt (x5.add 2) (.int .i64 x33) <|
    mLdL (t2.add 6) fun (x37 : Sl) =>
    mLdI .i64 x5 fun (x38_0 : Int) =>
    mLdI .i64 (x5.add 1) fun (x38_1 : Int) =>
    mLdI .i64 (x5.add 2) fun (x38_2 : Int) =>
    mNew #[.int .i64 x38_0, .int .i64 x38_1, .int .i64 x38_2] 78 fun (x39 : Addr) =>
    mApp 78 3 24 #[.int .i64 (0 : Int), .int .i64 (0 : Int), .int .i64 (0 : Int)] x37 ⟨(some x39), 1, 1⟩ fun (x40 : Sl) =>
    mSt (t2.add 6) (.slice x40.p x40.n x40.c) <|
    K_code_cursor_task_7 r0 t2 t24 (IntKind.i64.wrap (t25 + (1 : Int)))) (
    mLdI .i64 t2 fun (x43_0 : Int) =>
    mLdI .i64 (t2.add 1) fun (x43_1 : Int) =>
    mLdI .i64 (t2.add 2) fun (x43_2 : Int) =>
    mLdI .i64 (t2.add 3) fun (x43_3 : Int) =>
    mLdI .i64 (t2.add 4) fun (x43_4 : Int) =>
    mLdI .i64 (t2.add 5) fun (x43_5 : Int) =>
    mLdL (t2.add 6) fun (x43_6 : Sl) =>
    mSt t2 (.int .i64 x43_0) <|
    mSt (t2.add 1) (.int .i64 x43_1) <|
    mSt (t2.add 2) (.int .i64 x43_2) <|
    mSt (t2.add 3) (.int .i64 x43_3) <|
    mSt (t2.add 4) (.int .i64 x43_4) <|
    mSt (t2.add 5) (.int .i64 x43_5) <|
    mSt (t2.add 6) (.slice x43_6.p x43_6.n x43_6.c) <|
    mLdI .i64 t2 fun (q34_0 : Int) =>
    mLdI .i64 (t2.add 1) fun (q34_1 : Int) =>
    mLdI .i64 (t2.add 2) fun (q34_2 : Int) =>
    mLdI .i64 (t2.add 3) fun (q34_3 : Int) =>
    mLdI .i64 (t2.add 4) fun (q34_4 : Int) =>
    mLdI .i64 (t2.add 5) fun (q34_5 : Int) =>
    mLdL (t2.add 6) fun (q34_6 : Sl) =>
    mRet (.agg #[.int .i64 q34_0, .int .i64 q34_1, .int .i64 q34_2, .int .i64 q34_3, .int .i64 q34_4, .int .i64 q34_5, .slice q34_6.p q34_6.n q34_6.c]))
theorem E_code_cursor_task (r0 : Option Addr) : ev Try.prog 40 Try.f40.results.toList C_code_cursor_task D_code_cursor_task 400 false [.code (bodyOf Try.f40)] (List.map some [.pointer r0] ++ List.replicate (Try.f40.ntmps - List.length ([.pointer r0] : List Value)) none) = B_code_cursor_task r0 := by kernel_rfl
theorem S_code_cursor_task (r0 : Option Addr) {h : Hp} {Q : Value → Hp → Prop} (hb : B_code_cursor_task r0 h Q) : N_code_cursor_task r0 h Q :=
  Nf.of_ev Try.call40 Try.func40 (c := bodyOf Try.f40) rfl mixed C_code_cursor_task D_code_cursor_task 400 (args := [.pointer r0]) (by rw [E_code_cursor_task]; exact hb)
theorem E_code_cursor_task_2 (r0 : Option Addr) (t2 : Addr) (t12 : Sl) (t13 : Int) (t14 : Int) : ev Try.prog 40 Try.f40.results.toList C_code_cursor_task D_code_cursor_task 400 true (todoOf Try.f40 2) (T_code_cursor_task_2 r0 t2 t12 t13 t14) = B_code_cursor_task_2 r0 t2 t12 t13 t14 := by kernel_rfl
theorem S_code_cursor_task_2 (r0 : Option Addr) (t2 : Addr) (t12 : Sl) (t13 : Int) (t14 : Int) {h : Hp} {Q : Value → Hp → Prop} (hb : B_code_cursor_task_2 r0 t2 t12 t13 t14 h Q) : K_code_cursor_task_2 r0 t2 t12 t13 t14 h Q :=
  Cut.of_ev Try.func40 mixed C_code_cursor_task D_code_cursor_task 400 (by rw [E_code_cursor_task_2]; exact hb)
theorem E_code_cursor_task_7 (r0 : Option Addr) (t2 : Addr) (t24 : Int) (t25 : Int) : ev Try.prog 40 Try.f40.results.toList C_code_cursor_task D_code_cursor_task 400 true (todoOf Try.f40 7) (T_code_cursor_task_7 r0 t2 t24 t25) = B_code_cursor_task_7 r0 t2 t24 t25 := by kernel_rfl
theorem S_code_cursor_task_7 (r0 : Option Addr) (t2 : Addr) (t24 : Int) (t25 : Int) {h : Hp} {Q : Value → Hp → Prop} (hb : B_code_cursor_task_7 r0 t2 t24 t25 h Q) : K_code_cursor_task_7 r0 t2 t24 t25 h Q :=
  Cut.of_ev Try.func40 mixed C_code_cursor_task D_code_cursor_task 400 (by rw [E_code_cursor_task_7]; exact hb)
def C_signalboxref46_list : List (Nat × List Nat) := [(3, [0, 11, 12, 13])]
def D_signalboxref46_list : List (Nat × List Nat) := []
def T_signalboxref46_list_3 (b0 : Sl) (t11 : Sl) (t12 : Int) (t13 : Int) : Env := mkEnv [(0, .slice b0.p b0.n b0.c), (11, .slice t11.p t11.n t11.c), (12, .int .i64 t12), (13, .int .i64 t13)] 22 0
def K_signalboxref46_list_3 (b0 : Sl) (t11 : Sl) (t12 : Int) (t13 : Int) : M Value := Cut Try.prog 41 (todoOf Try.f41 3) (T_signalboxref46_list_3 b0 t11 t12 t13)
def B_signalboxref46_list (b0 : Sl) (l1 : Sl) : M Value :=
  mBind (N_signalboxref46_Number b0 (l1.n : Int)) fun r10 =>
  unL r10 fun (x10 : Sl) =>
  K_signalboxref46_list_3 x10 l1 (l1.n : Int) (0 : Int)
def B_signalboxref46_list_3 (b0 : Sl) (t11 : Sl) (t12 : Int) (t13 : Int) : M Value :=
  mIf (decide (t13 < t12)) (
    mIdx t11 t13 1 fun (x15 : Addr) =>
    mLdI .i64 x15 fun (x16 : Int) =>
    mBind (N_signalboxref46_Number b0 x16) fun r19 =>
    unL r19 fun (x19 : Sl) =>
    K_signalboxref46_list_3 x19 t11 t12 (IntKind.i64.wrap (t13 + (1 : Int)))) (
    mRet (.slice b0.p b0.n b0.c))
theorem E_signalboxref46_list (b0 : Sl) (l1 : Sl) : ev Try.prog 41 Try.f41.results.toList C_signalboxref46_list D_signalboxref46_list 400 false [.code (bodyOf Try.f41)] (List.map some [.slice b0.p b0.n b0.c, .slice l1.p l1.n l1.c] ++ List.replicate (Try.f41.ntmps - List.length ([.slice b0.p b0.n b0.c, .slice l1.p l1.n l1.c] : List Value)) none) = B_signalboxref46_list b0 l1 := by kernel_rfl
theorem S_signalboxref46_list (b0 : Sl) (l1 : Sl) {h : Hp} {Q : Value → Hp → Prop} (hb : B_signalboxref46_list b0 l1 h Q) : N_signalboxref46_list b0 l1 h Q :=
  Nf.of_ev Try.call41 Try.func41 (c := bodyOf Try.f41) rfl mixed C_signalboxref46_list D_signalboxref46_list 400 (args := [.slice b0.p b0.n b0.c, .slice l1.p l1.n l1.c]) (by rw [E_signalboxref46_list]; exact hb)
theorem E_signalboxref46_list_3 (b0 : Sl) (t11 : Sl) (t12 : Int) (t13 : Int) : ev Try.prog 41 Try.f41.results.toList C_signalboxref46_list D_signalboxref46_list 400 true (todoOf Try.f41 3) (T_signalboxref46_list_3 b0 t11 t12 t13) = B_signalboxref46_list_3 b0 t11 t12 t13 := by kernel_rfl
theorem S_signalboxref46_list_3 (b0 : Sl) (t11 : Sl) (t12 : Int) (t13 : Int) {h : Hp} {Q : Value → Hp → Prop} (hb : B_signalboxref46_list_3 b0 t11 t12 t13 h Q) : K_signalboxref46_list_3 b0 t11 t12 t13 h Q :=
  Cut.of_ev Try.func41 mixed C_signalboxref46_list D_signalboxref46_list 400 (by rw [E_signalboxref46_list_3]; exact hb)
def C_bytes_HasPrefix : List (Nat × List Nat) := []
def D_bytes_HasPrefix : List (Nat × List Nat) := []
def B_bytes_HasPrefix (s0 : Sl) (prefix1 : Sl) : M Value :=
  mBind (mIf (decide ((s0.n : Int) ≥ (prefix1.n : Int))) (mSlc s0 1 (0 : Int) (prefix1.n : Int) (s0.c : Int) fun (x14 : Sl) =>
    mBind (N_bytes_Equal x14 prefix1) fun r16 =>
    unB r16 fun (x16 : Bool) =>
    mRet x16) (mRet false)) fun (b3 : Bool) =>
  mRet (.bool b3)
theorem E_bytes_HasPrefix (s0 : Sl) (prefix1 : Sl) : ev Try.prog 58 Try.f58.results.toList C_bytes_HasPrefix D_bytes_HasPrefix 400 false [.code (bodyOf Try.f58)] (List.map some [.slice s0.p s0.n s0.c, .slice prefix1.p prefix1.n prefix1.c] ++ List.replicate (Try.f58.ntmps - List.length ([.slice s0.p s0.n s0.c, .slice prefix1.p prefix1.n prefix1.c] : List Value)) none) = B_bytes_HasPrefix s0 prefix1 := by kernel_rfl
theorem S_bytes_HasPrefix (s0 : Sl) (prefix1 : Sl) {h : Hp} {Q : Value → Hp → Prop} (hb : B_bytes_HasPrefix s0 prefix1 h Q) : N_bytes_HasPrefix s0 prefix1 h Q :=
  Nf.of_ev Try.call58 Try.func58 (c := bodyOf Try.f58) rfl mixed C_bytes_HasPrefix D_bytes_HasPrefix 400 (args := [.slice s0.p s0.n s0.c, .slice prefix1.p prefix1.n prefix1.c]) (by rw [E_bytes_HasPrefix]; exact hb)
def C_bytes_Equal : List (Nat × List Nat) := []
def D_bytes_Equal : List (Nat × List Nat) := []
def B_bytes_Equal (a0 : Sl) (b1 : Sl) : M Value :=
  mStr a0 fun (x6 : ByteArray) =>
  mStr b1 fun (x8 : ByteArray) =>
  mRet (.bool ((x6).toList == (x8).toList))
theorem E_bytes_Equal (a0 : Sl) (b1 : Sl) : ev Try.prog 73 Try.f73.results.toList C_bytes_Equal D_bytes_Equal 400 false [.code (bodyOf Try.f73)] (List.map some [.slice a0.p a0.n a0.c, .slice b1.p b1.n b1.c] ++ List.replicate (Try.f73.ntmps - List.length ([.slice a0.p a0.n a0.c, .slice b1.p b1.n b1.c] : List Value)) none) = B_bytes_Equal a0 b1 := by kernel_rfl
theorem S_bytes_Equal (a0 : Sl) (b1 : Sl) {h : Hp} {Q : Value → Hp → Prop} (hb : B_bytes_Equal a0 b1 h Q) : N_bytes_Equal a0 b1 h Q :=
  Nf.of_ev Try.call73 Try.func73 (c := bodyOf Try.f73) rfl mixed C_bytes_Equal D_bytes_Equal 400 (args := [.slice a0.p a0.n a0.c, .slice b1.p b1.n b1.c]) (by rw [E_bytes_Equal]; exact hb)
end Go.Proofs.Ytimpaammdmeocaa
