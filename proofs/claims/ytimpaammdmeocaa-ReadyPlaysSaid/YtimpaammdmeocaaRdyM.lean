/- What the functions of this layer come to, as forms of the small logic; written by program. Conditions: none. -/
import Derived.Test.YtimpaammdmeocaaSbU
import Derived.Test.YtimpaammdmeocaaCfgM
import Derived.Test.YtimpaammdmeocaaChecked
import Derived.KernelRfl
set_option maxRecDepth 100000
namespace Go.Proofs.Ytimpaammdmeocaa
open Go Go.Sb
def N_signalboxlaw16_ReadyPlays (c0_0 : Int) (c0_1 : Int) (c0_2 : Int) (c0_3 : Int) (c0_4 : Sl) (c0_5 : Int) (c0_6 : Sl) (c0_7 : Sl) (c0_8 : Sl) (c0_9 : Sl) (l1 : Sl) : M Value := Nf Try.prog 6 #[.agg #[.int .i64 c0_0, .int .i64 c0_1, .int .i64 c0_2, .int .i64 c0_3, .slice c0_4.p c0_4.n c0_4.c, .int .i64 c0_5, .slice c0_6.p c0_6.n c0_6.c, .slice c0_7.p c0_7.n c0_7.c, .slice c0_8.p c0_8.n c0_8.c, .slice c0_9.p c0_9.n c0_9.c], .slice l1.p l1.n l1.c]
def N_signalboxlaw16_fixed : M Value := Nf Try.prog 20 #[]
def N_ready_New (c0_0 : Int) (c0_1 : Int) (c0_2 : Int) (c0_3 : Int) (c0_4 : Sl) (c0_5 : Int) (c0_6 : Sl) (c0_7 : Sl) (c0_8 : Sl) (c0_9 : Sl) : M Value := Nf Try.prog 21 #[.agg #[.int .i64 c0_0, .int .i64 c0_1, .int .i64 c0_2, .int .i64 c0_3, .slice c0_4.p c0_4.n c0_4.c, .int .i64 c0_5, .slice c0_6.p c0_6.n c0_6.c, .slice c0_7.p c0_7.n c0_7.c, .slice c0_8.p c0_8.n c0_8.c, .slice c0_9.p c0_9.n c0_9.c]]
def N_ready_Ready_Take (r0 : Option Addr) : M Value := Nf Try.prog 22 #[.pointer r0]
def N_ready_Ready_Release (r0 : Option Addr) (task1 : Int) (at2 : Int) : M Value := Nf Try.prog 23 #[.pointer r0, .int .i64 task1, .int .i64 at2]
def N_ready_Ready_Len (r0 : Option Addr) : M Value := Nf Try.prog 24 #[.pointer r0]
def N_ready_Ready_Waiting (r0 : Option Addr) (task1 : Int) : M Value := Nf Try.prog 25 #[.pointer r0, .int .i64 task1]
def N_ready_Ready_First (r0 : Option Addr) : M Value := Nf Try.prog 27 #[.pointer r0]
def N_band_New (l0 : Sl) : M Value := Nf Try.prog 43 #[.slice l0.p l0.n l0.c]
def N_ring_New_ready_Job (room0 : Int) : M Value := Nf Try.prog 44 #[.int .i64 room0]
def N_ready_Ready_at (r0 : Option Addr) (task1 : Int) : M Value := Nf Try.prog 45 #[.pointer r0, .int .i64 task1]
def N_ring_Ring_ready_Job_Take (r0 : Option Addr) : M Value := Nf Try.prog 46 #[.pointer r0]
def N_ring_Ring_ready_Job_Len (r0 : Option Addr) : M Value := Nf Try.prog 47 #[.pointer r0]
def N_band_Set_Drop (s0 : Option Addr) (n1 : Int) : M Value := Nf Try.prog 48 #[.pointer s0, .int .i64 n1]
def N_ring_Ring_ready_Job_Put (r0 : Option Addr) (x1_0 : Int) (x1_1 : Int) (x1_2 : Int) : M Value := Nf Try.prog 49 #[.pointer r0, .agg #[.int .i64 x1_0, .int .i64 x1_1, .int .i64 x1_2]]
def N_band_Set_Put (s0 : Option Addr) (n1 : Int) : M Value := Nf Try.prog 50 #[.pointer s0, .int .i64 n1]
def N_ring_Ring_ready_Job_All (r0 : Option Addr) : M Value := Nf Try.prog 51 #[.pointer r0]
def N_band_Set_Top (s0 : Option Addr) : M Value := Nf Try.prog 52 #[.pointer s0]
def N_ring_Ring_ready_Job_First (r0 : Option Addr) : M Value := Nf Try.prog 53 #[.pointer r0]
def N_ring_Ring_ready_Job_at (r0 : Option Addr) (i1 : Int) : M Value := Nf Try.prog 59 #[.pointer r0, .int .i64 i1]
def N_band_Set_Has (s0 : Option Addr) (n1 : Int) : M Value := Nf Try.prog 60 #[.pointer s0, .int .i64 n1]
def N_band_Set_may (s0 : Option Addr) (n1 : Int) : M Value := Nf Try.prog 61 #[.pointer s0, .int .i64 n1]
def N_math_bits_LeadingZeros64 (x0 : Int) : M Value := Nf Try.prog 62 #[.int .u64 x0]
def N_math_bits_Len64 (x0 : Int) : M Value := Nf Try.prog 74 #[.int .u64 x0]
def C_signalboxlaw16_ReadyPlays : List (Nat × List Nat) := [(16, [2, 5, 12, 13, 14, 15, 101, 102, 103]), (20, [2, 5, 12, 13, 14, 15, 17, 18, 19, 101, 102, 103]), (28, [2, 5, 12, 13, 14, 15, 17, 27, 101, 102, 103]), (34, [2, 5, 12, 13, 14, 15, 101, 102, 103]), (50, [5, 13, 290, 291]), (56, [5, 13, 30, 31, 290, 291, 306, 307])]
def D_signalboxlaw16_ReadyPlays : List (Nat × List Nat) := [(27, []), (33, [])]
def T_signalboxlaw16_ReadyPlays_16 (c2 : Addr) (r5 : Option Addr) (order12 : Sl) (rows13 : Sl) (next14 : Sl) (all15 : Int) (t101 : Sl) (t102 : Int) (t103 : Int) : Env := mkEnv [(2, .pointer (some c2)), (5, .pointer r5), (12, .slice order12.p order12.n order12.c), (13, .slice rows13.p rows13.n rows13.c), (14, .slice next14.p next14.n next14.c), (15, .int .i64 all15), (101, .slice t101.p t101.n t101.c), (102, .int .i64 t102), (103, .int .i64 t103)] 328 0
def K_signalboxlaw16_ReadyPlays_16 (c2 : Addr) (r5 : Option Addr) (order12 : Sl) (rows13 : Sl) (next14 : Sl) (all15 : Int) (t101 : Sl) (t102 : Int) (t103 : Int) : M Value := Cut Try.prog 6 (todoOf Try.f6 16) (T_signalboxlaw16_ReadyPlays_16 c2 r5 order12 rows13 next14 all15 t101 t102 t103)
def T_signalboxlaw16_ReadyPlays_20 (c2 : Addr) (r5 : Option Addr) (order12 : Sl) (rows13 : Sl) (next14 : Sl) (all15 : Int) (a17 : Addr) (first18 : Int) (i19 : Int) (t101 : Sl) (t102 : Int) (t103 : Int) : Env := mkEnv [(2, .pointer (some c2)), (5, .pointer r5), (12, .slice order12.p order12.n order12.c), (13, .slice rows13.p rows13.n rows13.c), (14, .slice next14.p next14.n next14.c), (15, .int .i64 all15), (17, .pointer (some a17)), (18, .int .i64 first18), (19, .int .i64 i19), (101, .slice t101.p t101.n t101.c), (102, .int .i64 t102), (103, .int .i64 t103)] 328 0
def K_signalboxlaw16_ReadyPlays_20 (c2 : Addr) (r5 : Option Addr) (order12 : Sl) (rows13 : Sl) (next14 : Sl) (all15 : Int) (a17 : Addr) (first18 : Int) (i19 : Int) (t101 : Sl) (t102 : Int) (t103 : Int) : M Value := Cut Try.prog 6 (todoOf Try.f6 20) (T_signalboxlaw16_ReadyPlays_20 c2 r5 order12 rows13 next14 all15 a17 first18 i19 t101 t102 t103)
def T_signalboxlaw16_ReadyPlays_28 (c2 : Addr) (r5 : Option Addr) (order12 : Sl) (rows13 : Sl) (next14 : Sl) (all15 : Int) (a17 : Addr) (want27 : Addr) (t101 : Sl) (t102 : Int) (t103 : Int) : Env := mkEnv [(2, .pointer (some c2)), (5, .pointer r5), (12, .slice order12.p order12.n order12.c), (13, .slice rows13.p rows13.n rows13.c), (14, .slice next14.p next14.n next14.c), (15, .int .i64 all15), (17, .pointer (some a17)), (27, .pointer (some want27)), (101, .slice t101.p t101.n t101.c), (102, .int .i64 t102), (103, .int .i64 t103)] 328 0
def K_signalboxlaw16_ReadyPlays_28 (c2 : Addr) (r5 : Option Addr) (order12 : Sl) (rows13 : Sl) (next14 : Sl) (all15 : Int) (a17 : Addr) (want27 : Addr) (t101 : Sl) (t102 : Int) (t103 : Int) : M Value := Cut Try.prog 6 (todoOf Try.f6 28) (T_signalboxlaw16_ReadyPlays_28 c2 r5 order12 rows13 next14 all15 a17 want27 t101 t102 t103)
def T_signalboxlaw16_ReadyPlays_34 (c2 : Addr) (r5 : Option Addr) (order12 : Sl) (rows13 : Sl) (next14 : Sl) (all15 : Int) (t101 : Sl) (t102 : Int) (t103 : Int) : Env := mkEnv [(2, .pointer (some c2)), (5, .pointer r5), (12, .slice order12.p order12.n order12.c), (13, .slice rows13.p rows13.n rows13.c), (14, .slice next14.p next14.n next14.c), (15, .int .i64 all15), (101, .slice t101.p t101.n t101.c), (102, .int .i64 t102), (103, .int .i64 t103)] 328 0
def K_signalboxlaw16_ReadyPlays_34 (c2 : Addr) (r5 : Option Addr) (order12 : Sl) (rows13 : Sl) (next14 : Sl) (all15 : Int) (t101 : Sl) (t102 : Int) (t103 : Int) : M Value := Cut Try.prog 6 (todoOf Try.f6 34) (T_signalboxlaw16_ReadyPlays_34 c2 r5 order12 rows13 next14 all15 t101 t102 t103)
def T_signalboxlaw16_ReadyPlays_50 (r5 : Option Addr) (rows13 : Sl) (t290 : Int) (t291 : Int) : Env := mkEnv [(5, .pointer r5), (13, .slice rows13.p rows13.n rows13.c), (290, .int .i64 t290), (291, .int .i64 t291)] 328 0
def K_signalboxlaw16_ReadyPlays_50 (r5 : Option Addr) (rows13 : Sl) (t290 : Int) (t291 : Int) : M Value := Cut Try.prog 6 (todoOf Try.f6 50) (T_signalboxlaw16_ReadyPlays_50 r5 rows13 t290 t291)
def T_signalboxlaw16_ReadyPlays_56 (r5 : Option Addr) (rows13 : Sl) (t30 : Int) (w31 : Sl) (t290 : Int) (t291 : Int) (t306 : Int) (t307 : Int) : Env := mkEnv [(5, .pointer r5), (13, .slice rows13.p rows13.n rows13.c), (30, .int .i64 t30), (31, .slice w31.p w31.n w31.c), (290, .int .i64 t290), (291, .int .i64 t291), (306, .int .i64 t306), (307, .int .i64 t307)] 328 0
def K_signalboxlaw16_ReadyPlays_56 (r5 : Option Addr) (rows13 : Sl) (t30 : Int) (w31 : Sl) (t290 : Int) (t291 : Int) (t306 : Int) (t307 : Int) : M Value := Cut Try.prog 6 (todoOf Try.f6 56) (T_signalboxlaw16_ReadyPlays_56 r5 rows13 t30 w31 t290 t291 t306 t307)
def B_signalboxlaw16_ReadyPlays (c0_0 : Int) (c0_1 : Int) (c0_2 : Int) (c0_3 : Int) (c0_4 : Sl) (c0_5 : Int) (c0_6 : Sl) (c0_7 : Sl) (c0_8 : Sl) (c0_9 : Sl) (l1 : Sl) : M Value :=
  mNew #[.int .i64 c0_0, .int .i64 c0_1, .int .i64 c0_2, .int .i64 c0_3, .slice c0_4.p c0_4.n c0_4.c, .int .i64 c0_5, .slice c0_6.p c0_6.n c0_6.c, .slice c0_7.p c0_7.n c0_7.c, .slice c0_8.p c0_8.n c0_8.c, .slice c0_9.p c0_9.n c0_9.c] 34 fun (x2 : Addr) =>
  mBind (N_signalboxlaw16_fixed) fun r33 =>
  unB r33 fun (x33 : Bool) =>
  mIf (!x33) (
    mRet (.bool false)) (
    mLdI .i64 x2 fun (x35_0 : Int) =>
    mLdI .i64 (x2.add 1) fun (x35_1 : Int) =>
    mLdI .i64 (x2.add 2) fun (x35_2 : Int) =>
    mLdI .i64 (x2.add 3) fun (x35_3 : Int) =>
    mLdL (x2.add 4) fun (x35_4 : Sl) =>
    mLdI .i64 (x2.add 5) fun (x35_5 : Int) =>
    mLdL (x2.add 6) fun (x35_6 : Sl) =>
    mLdL (x2.add 7) fun (x35_7 : Sl) =>
    mLdL (x2.add 8) fun (x35_8 : Sl) =>
    mLdL (x2.add 9) fun (x35_9 : Sl) =>
    mBind (N_signalboxref07_Few x35_0 x35_1 x35_2 x35_3 x35_4 x35_5 x35_6 x35_7 x35_8 x35_9) fun r36 =>
    unB r36 fun (x36 : Bool) =>
    mBind (mIf ((!x36) || (decide ((l1.n : Int) > (150 : Int)))) (mRet true) (mLdI .i64 (x2.add 5) fun (x45 : Int) =>
      mRet (decide (x45 > (1000 : Int))))) fun (b7 : Bool) =>
    mIf b7 (
      mRet (.bool true)) (
      mLdI .i64 x2 fun (x49_0 : Int) =>
      mLdI .i64 (x2.add 1) fun (x49_1 : Int) =>
      mLdI .i64 (x2.add 2) fun (x49_2 : Int) =>
      mLdI .i64 (x2.add 3) fun (x49_3 : Int) =>
      mLdL (x2.add 4) fun (x49_4 : Sl) =>
      mLdI .i64 (x2.add 5) fun (x49_5 : Int) =>
      mLdL (x2.add 6) fun (x49_6 : Sl) =>
      mLdL (x2.add 7) fun (x49_7 : Sl) =>
      mLdL (x2.add 8) fun (x49_8 : Sl) =>
      mLdL (x2.add 9) fun (x49_9 : Sl) =>
      mBind (N_ready_New x49_0 x49_1 x49_2 x49_3 x49_4 x49_5 x49_6 x49_7 x49_8 x49_9) fun r50 =>
      un2 unP (unI .i64) r50 fun (x50_0 : Option Addr) (x50_1 : Int) =>
      mLdI .i64 x2 fun (x53_0 : Int) =>
      mLdI .i64 (x2.add 1) fun (x53_1 : Int) =>
      mLdI .i64 (x2.add 2) fun (x53_2 : Int) =>
      mLdI .i64 (x2.add 3) fun (x53_3 : Int) =>
      mLdL (x2.add 4) fun (x53_4 : Sl) =>
      mLdI .i64 (x2.add 5) fun (x53_5 : Int) =>
      mLdL (x2.add 6) fun (x53_6 : Sl) =>
      mLdL (x2.add 7) fun (x53_7 : Sl) =>
      mLdL (x2.add 8) fun (x53_8 : Sl) =>
      mLdL (x2.add 9) fun (x53_9 : Sl) =>
      mBind (N_signalboxref07_Check x53_0 x53_1 x53_2 x53_3 x53_4 x53_5 x53_6 x53_7 x53_8 x53_9) fun r54 =>
      unI .i64 r54 fun (x54 : Int) =>
      mIf (x54 != (0 : Int)) (
        mBind (N_ready_Ready_Take x50_0) fun r59 =>
        unT r59 fun x59l =>
        unC x59l fun x59v0 x59l0 =>
        unA x59v0 fun x59_0l =>
        unC x59_0l fun x59_0v0 x59_0l0 =>
        unI .i64 x59_0v0 fun (x59_0_0 : Int) =>
        unC x59_0l0 fun x59_0v1 x59_0l1 =>
        unI .i64 x59_0v1 fun (x59_0_1 : Int) =>
        unC x59_0l1 fun x59_0v2 x59_0l2 =>
        unI .i64 x59_0v2 fun (x59_0_2 : Int) =>
        unE x59_0l2 <|
        unC x59l0 fun x59v1 x59l1 =>
        unB x59v1 fun (x59_1 : Bool) =>
        unE x59l1 <|
        mNew #[.int .i64 (0 : Int), .int .i64 (0 : Int), .int .i64 (0 : Int)] 51 fun (x8 : Addr) =>
        mSt x8 (.int .i64 x59_0_0) <|
        mSt (x8.add 1) (.int .i64 x59_0_1) <|
        mSt (x8.add 2) (.int .i64 x59_0_2) <|
        mBind (N_ready_Ready_Release x50_0 (0 : Int) (0 : Int)) fun r64 =>
        unT r64 fun x64l =>
        unC x64l fun x64v0 x64l0 =>
        unA x64v0 fun x64_0l =>
        unC x64_0l fun x64_0v0 x64_0l0 =>
        unI .i64 x64_0v0 fun (x64_0_0 : Int) =>
        unC x64_0l0 fun x64_0v1 x64_0l1 =>
        unI .i64 x64_0v1 fun (x64_0_1 : Int) =>
        unC x64_0l1 fun x64_0v2 x64_0l2 =>
        unI .i64 x64_0v2 fun (x64_0_2 : Int) =>
        unE x64_0l2 <|
        unC x64l0 fun x64v1 x64l1 =>
        unI .i64 x64v1 fun (x64_1 : Int) =>
        unE x64l1 <|
        mNew #[.int .i64 (0 : Int), .int .i64 (0 : Int), .int .i64 (0 : Int)] 51 fun (x10 : Addr) =>
        mSt x10 (.int .i64 x64_0_0) <|
        mSt (x10.add 1) (.int .i64 x64_0_1) <|
        mSt (x10.add 2) (.int .i64 x64_0_2) <|
        mBind (mIf ((((x50_1 == x54) && x50_0.isNone) && (!x59_1)) && (x64_1 == (1 : Int))) (mBind (N_ready_Ready_Len x50_0) fun r84 =>
          unI .i64 r84 fun (x84 : Int) =>
          mBind (N_ready_Ready_Waiting x50_0 (0 : Int)) fun r86 =>
          unL r86 fun (x86 : Sl) =>
          mRet ((IntKind.i64.wrap (x84 + (x86.n : Int))) == (0 : Int))) (mRet false)) fun (b20 : Bool) =>
        mRet (.bool b20)) (
        mLdI .i64 x2 fun (x91_0 : Int) =>
        mLdI .i64 (x2.add 1) fun (x91_1 : Int) =>
        mLdI .i64 (x2.add 2) fun (x91_2 : Int) =>
        mLdI .i64 (x2.add 3) fun (x91_3 : Int) =>
        mLdL (x2.add 4) fun (x91_4 : Sl) =>
        mLdI .i64 (x2.add 5) fun (x91_5 : Int) =>
        mLdL (x2.add 6) fun (x91_6 : Sl) =>
        mLdL (x2.add 7) fun (x91_7 : Sl) =>
        mLdL (x2.add 8) fun (x91_8 : Sl) =>
        mLdL (x2.add 9) fun (x91_9 : Sl) =>
        mBind (N_signalboxref07_Order x91_0 x91_1 x91_2 x91_3 x91_4 x91_5 x91_6 x91_7 x91_8 x91_9) fun r92 =>
        unL r92 fun (x92 : Sl) =>
        mLdL (x2.add 8) fun (x94 : Sl) =>
        mMake 57 24 #[.slice none (0) (0)] (x94.n : Int) (x94.n : Int) fun (x96 : Sl) =>
        mLdL (x2.add 8) fun (x98 : Sl) =>
        mMake 3 8 #[.int .i64 (0 : Int)] (x98.n : Int) (x98.n : Int) fun (x100 : Sl) =>
        K_signalboxlaw16_ReadyPlays_16 x2 x50_0 x92 x96 x100 (0 : Int) l1 (l1.n : Int) (0 : Int))))
def B_signalboxlaw16_ReadyPlays_16 (c2 : Addr) (r5 : Option Addr) (order12 : Sl) (rows13 : Sl) (next14 : Sl) (all15 : Int) (t101 : Sl) (t102 : Int) (t103 : Int) : M Value :=
  mIf (decide (t103 < t102)) (
    mIdx t101 t103 3 fun (x105 : Addr) =>
    mLdB x105 fun (x106_0 : Bool) =>
    mLdI .i64 (x105.add 1) fun (x106_1 : Int) =>
    mLdI .i64 (x105.add 2) fun (x106_2 : Int) =>
    mNew #[.bool false, .int .i64 (0 : Int), .int .i64 (0 : Int)] 62 fun (x17 : Addr) =>
    mSt x17 (.bool x106_0) <|
    mSt (x17.add 1) (.int .i64 x106_1) <|
    mSt (x17.add 2) (.int .i64 x106_2) <|
    K_signalboxlaw16_ReadyPlays_20 c2 r5 order12 rows13 next14 all15 x17 (-1 : Int) (IntKind.i64.wrap ((order12.n : Int) - (1 : Int))) t101 t102 t103) (
    mLdL (c2.add 8) fun (x289 : Sl) =>
    K_signalboxlaw16_ReadyPlays_50 r5 rows13 (x289.n : Int) (0 : Int))
def B_signalboxlaw16_ReadyPlays_20 (c2 : Addr) (r5 : Option Addr) (order12 : Sl) (rows13 : Sl) (next14 : Sl) (all15 : Int) (a17 : Addr) (first18 : Int) (i19 : Int) (t101 : Sl) (t102 : Int) (t103 : Int) : M Value :=
  mIf (decide (i19 ≥ (0 : Int))) (
    mIdx order12 i19 1 fun (x117 : Addr) =>
    mLdI .i64 x117 fun (x118 : Int) =>
    mIdx rows13 x118 1 fun (x119 : Addr) =>
    mLdL x119 fun (x120 : Sl) =>
    mIf (decide ((x120.n : Int) > (0 : Int))) (
      mIdx order12 i19 1 fun (x125 : Addr) =>
      mLdI .i64 x125 fun (x126 : Int) =>
      K_signalboxlaw16_ReadyPlays_20 c2 r5 order12 rows13 next14 all15 a17 x126 (IntKind.i64.wrap (i19 - (1 : Int))) t101 t102 t103) (
      K_signalboxlaw16_ReadyPlays_20 c2 r5 order12 rows13 next14 all15 a17 first18 (IntKind.i64.wrap (i19 - (1 : Int))) t101 t102 t103)) (
    mBind (N_ready_Ready_First r5) fun r129 =>
    unT r129 fun x129l =>
    unC x129l fun x129v0 x129l0 =>
    unA x129v0 fun x129_0l =>
    unC x129_0l fun x129_0v0 x129_0l0 =>
    unI .i64 x129_0v0 fun (x129_0_0 : Int) =>
    unC x129_0l0 fun x129_0v1 x129_0l1 =>
    unI .i64 x129_0v1 fun (x129_0_1 : Int) =>
    unC x129_0l1 fun x129_0v2 x129_0l2 =>
    unI .i64 x129_0v2 fun (x129_0_2 : Int) =>
    unE x129_0l2 <|
    unC x129l0 fun x129v1 x129l1 =>
    unI .i64 x129v1 fun (x129_1 : Int) =>
    unC x129l1 fun x129v2 x129l2 =>
    unB x129v2 fun (x129_2 : Bool) =>
    unE x129l2 <|
    mNew #[.int .i64 (0 : Int), .int .i64 (0 : Int), .int .i64 (0 : Int)] 51 fun (x20 : Addr) =>
    mSt x20 (.int .i64 x129_0_0) <|
    mSt (x20.add 1) (.int .i64 x129_0_1) <|
    mSt (x20.add 2) (.int .i64 x129_0_2) <|
    mBind (mIf (!(x129_2 == (decide (first18 ≥ (0 : Int))))) (mRet true) (mBind (mIf x129_2 (mLdI .i64 x20 fun (x140_0 : Int) =>
      mLdI .i64 (x20.add 1) fun (x140_1 : Int) =>
      mLdI .i64 (x20.add 2) fun (x140_2 : Int) =>
      mIdx rows13 first18 1 fun (x143 : Addr) =>
      mLdL x143 fun (x144 : Sl) =>
      mIdx x144 (0 : Int) 3 fun (x145 : Addr) =>
      mLdI .i64 x145 fun (x146_0 : Int) =>
      mLdI .i64 (x145.add 1) fun (x146_1 : Int) =>
      mLdI .i64 (x145.add 2) fun (x146_2 : Int) =>
      mBind (mIf (!((x140_0 == x146_0) && ((x140_1 == x146_1) && ((x140_2 == x146_2) && true)))) (mRet true) (mLdL (c2.add 8) fun (x151 : Sl) =>
      mIdx x151 first18 7 fun (x153 : Addr) =>
      mLdI .i64 x153 fun (x155 : Int) =>
      mRet (x129_1 != x155))) fun (b54 : Bool) =>
      mRet b54) (mRet false)) fun (b55 : Bool) =>
      mRet b55)) fun (b56 : Bool) =>
    mIf b56 (
      mRet (.bool false)) (
      mLdB a17 fun (x227 : Bool) =>
      mIf x227 (
        mBind (N_ready_Ready_Take r5) fun r230 =>
        unT r230 fun x230l =>
        unC x230l fun x230v0 x230l0 =>
        unA x230v0 fun x230_0l =>
        unC x230_0l fun x230_0v0 x230_0l0 =>
        unI .i64 x230_0v0 fun (x230_0_0 : Int) =>
        unC x230_0l0 fun x230_0v1 x230_0l1 =>
        unI .i64 x230_0v1 fun (x230_0_1 : Int) =>
        unC x230_0l1 fun x230_0v2 x230_0l2 =>
        unI .i64 x230_0v2 fun (x230_0_2 : Int) =>
        unE x230_0l2 <|
        unC x230l0 fun x230v1 x230l1 =>
        unB x230v1 fun (x230_1 : Bool) =>
        unE x230l1 <|
        mNew #[.int .i64 (0 : Int), .int .i64 (0 : Int), .int .i64 (0 : Int)] 51 fun (x23 : Addr) =>
        mSt x23 (.int .i64 x230_0_0) <|
        mSt (x23.add 1) (.int .i64 x230_0_1) <|
        mSt (x23.add 2) (.int .i64 x230_0_2) <|
        mBind (mIf (!(x230_1 == x129_2)) (mRet true) (mBind (mIf x230_1 (mLdI .i64 x23 fun (x239_0 : Int) =>
          mLdI .i64 (x23.add 1) fun (x239_1 : Int) =>
          mLdI .i64 (x23.add 2) fun (x239_2 : Int) =>
          mLdI .i64 x20 fun (x240_0 : Int) =>
          mLdI .i64 (x20.add 1) fun (x240_1 : Int) =>
          mLdI .i64 (x20.add 2) fun (x240_2 : Int) =>
          mRet (!((x239_0 == x240_0) && ((x239_1 == x240_1) && ((x239_2 == x240_2) && true))))) (mRet false)) fun (b64 : Bool) =>
          mRet b64)) fun (b65 : Bool) =>
        mIf b65 (
          mRet (.bool false)) (
          mIf x230_1 (
            mIdx rows13 first18 1 fun (x249 : Addr) =>
            mLdL x249 fun (x250 : Sl) =>
            mSlc x250 3 (1 : Int) (x250.n : Int) (x250.c : Int) fun (x251 : Sl) =>
            mIdx rows13 first18 1 fun (x252 : Addr) =>
            mSt x252 (.slice x251.p x251.n x251.c) <|
            mBind (N_ready_Ready_Len r5) fun r284 =>
            unI .i64 r284 fun (x284 : Int) =>
            mIf (x284 != (IntKind.i64.wrap (all15 - (1 : Int)))) (
              mRet (.bool false)) (
              K_signalboxlaw16_ReadyPlays_16 c2 r5 order12 rows13 next14 (IntKind.i64.wrap (all15 - (1 : Int))) t101 t102 (IntKind.i64.wrap (t103 + (1 : Int))))) (
            mBind (N_ready_Ready_Len r5) fun r284_72 =>
            unI .i64 r284_72 fun (x284_72 : Int) =>
            mIf (x284_72 != all15) (
              mRet (.bool false)) (
              K_signalboxlaw16_ReadyPlays_16 c2 r5 order12 rows13 next14 all15 t101 t102 (IntKind.i64.wrap (t103 + (1 : Int))))))) (
        mLdI .i64 (a17.add 1) fun (x257 : Int) =>
        mBind (mIf (decide (x257 < (0 : Int))) (mRet true) (mLdI .i64 (a17.add 1) fun (x261 : Int) =>
          mLdL (c2.add 8) fun (x263 : Sl) =>
          mRet (decide (x261 ≥ (x263.n : Int))))) fun (b79 : Bool) =>
        mIf b79 (
          mLdI .i64 (a17.add 1) fun (x270 : Int) =>
          mLdI .i64 (a17.add 2) fun (x272 : Int) =>
          mBind (N_ready_Ready_Release r5 x270 x272) fun r273 =>
          unT r273 fun x273l =>
          unC x273l fun x273v0 x273l0 =>
          unA x273v0 fun x273_0l =>
          unC x273_0l fun x273_0v0 x273_0l0 =>
          unI .i64 x273_0v0 fun (x273_0_0 : Int) =>
          unC x273_0l0 fun x273_0v1 x273_0l1 =>
          unI .i64 x273_0v1 fun (x273_0_1 : Int) =>
          unC x273_0l1 fun x273_0v2 x273_0l2 =>
          unI .i64 x273_0v2 fun (x273_0_2 : Int) =>
          unE x273_0l2 <|
          unC x273l0 fun x273v1 x273l1 =>
          unI .i64 x273v1 fun (x273_1 : Int) =>
          unE x273l1 <|
          mNew #[.int .i64 (0 : Int), .int .i64 (0 : Int), .int .i64 (0 : Int)] 51 fun (x25 : Addr) =>
          mSt x25 (.int .i64 x273_0_0) <|
          mSt (x25.add 1) (.int .i64 x273_0_1) <|
          mSt (x25.add 2) (.int .i64 x273_0_2) <|
          mBind (mIf (x273_1 != (6 : Int)) (mRet true) (mLdI .i64 x25 fun (x279_0 : Int) =>
            mLdI .i64 (x25.add 1) fun (x279_1 : Int) =>
            mLdI .i64 (x25.add 2) fun (x279_2 : Int) =>
            mRet (!((x279_0 == (0 : Int)) && ((x279_1 == (0 : Int)) && ((x279_2 == (0 : Int)) && true)))))) fun (b88 : Bool) =>
          mIf b88 (
            mRet (.bool false)) (
            mBind (N_ready_Ready_Len r5) fun r284_89 =>
            unI .i64 r284_89 fun (x284_89 : Int) =>
            mIf (x284_89 != all15) (
              mRet (.bool false)) (
              K_signalboxlaw16_ReadyPlays_16 c2 r5 order12 rows13 next14 all15 t101 t102 (IntKind.i64.wrap (t103 + (1 : Int)))))) (
          mAnd (
            mLdI .i64 (a17.add 1) fun (x161_287 : Int) =>
            mAnd (
              mLdI .i64 (a17.add 1) fun (x164_316 : Int) =>
              mIdx next14 x164_316 1 fun (x165_317 : Addr) =>
              mAnd (
                mLdI .i64 x165_317 fun (x166_332 : Int) =>
                mAnd (
                  mLdI .i64 (a17.add 2) fun (x168_336 : Int) =>
                  mNew #[.int .i64 (0 : Int), .int .i64 (0 : Int), .int .i64 (0 : Int)] 51 fun (x27_337 : Addr) =>
                  mSt x27_337 (.int .i64 x161_287) <|
                  mSt (x27_337.add 1) (.int .i64 x166_332) <|
                  mSt (x27_337.add 2) (.int .i64 x168_336) <|
                  K_signalboxlaw16_ReadyPlays_28 c2 r5 order12 rows13 next14 all15 a17 x27_337 t101 t102 t103) (
                  mNew #[.int .i64 (0 : Int), .int .i64 (0 : Int), .int .i64 (0 : Int)] 51 fun (x27_333 : Addr) =>
                  mLdI .i64 (a17.add 2) fun (x168_334 : Int) =>
                  mSt x27_333 (.int .i64 x161_287) <|
                  mSt (x27_333.add 1) (.int .i64 x166_332) <|
                  mSt (x27_333.add 2) (.int .i64 x168_334) <|
                  K_signalboxlaw16_ReadyPlays_28 c2 r5 order12 rows13 next14 all15 a17 x27_333 t101 t102 t103)) (
                mAnd (
                  mLdI .i64 (a17.add 2) fun (x168_325 : Int) =>
                  mAnd (
                    mLdI .i64 x165_317 fun (x166_329 : Int) =>
                    mNew #[.int .i64 (0 : Int), .int .i64 (0 : Int), .int .i64 (0 : Int)] 51 fun (x27_330 : Addr) =>
                    mSt x27_330 (.int .i64 x161_287) <|
                    mSt (x27_330.add 1) (.int .i64 x166_329) <|
                    mSt (x27_330.add 2) (.int .i64 x168_325) <|
                    K_signalboxlaw16_ReadyPlays_28 c2 r5 order12 rows13 next14 all15 a17 x27_330 t101 t102 t103) (
                    mNew #[.int .i64 (0 : Int), .int .i64 (0 : Int), .int .i64 (0 : Int)] 51 fun (x27_326 : Addr) =>
                    mLdI .i64 x165_317 fun (x166_327 : Int) =>
                    mSt x27_326 (.int .i64 x161_287) <|
                    mSt (x27_326.add 1) (.int .i64 x166_327) <|
                    mSt (x27_326.add 2) (.int .i64 x168_325) <|
                    K_signalboxlaw16_ReadyPlays_28 c2 r5 order12 rows13 next14 all15 a17 x27_326 t101 t102 t103)) (
                  mNew #[.int .i64 (0 : Int), .int .i64 (0 : Int), .int .i64 (0 : Int)] 51 fun (x27_318 : Addr) =>
                  mAnd (
                    mLdI .i64 x165_317 fun (x166_322 : Int) =>
                    mLdI .i64 (a17.add 2) fun (x168_323 : Int) =>
                    mSt x27_318 (.int .i64 x161_287) <|
                    mSt (x27_318.add 1) (.int .i64 x166_322) <|
                    mSt (x27_318.add 2) (.int .i64 x168_323) <|
                    K_signalboxlaw16_ReadyPlays_28 c2 r5 order12 rows13 next14 all15 a17 x27_318 t101 t102 t103) (
                    mLdI .i64 (a17.add 2) fun (x168_319 : Int) =>
                    mLdI .i64 x165_317 fun (x166_320 : Int) =>
                    mSt x27_318 (.int .i64 x161_287) <|
                    mSt (x27_318.add 1) (.int .i64 x166_320) <|
                    mSt (x27_318.add 2) (.int .i64 x168_319) <|
                    K_signalboxlaw16_ReadyPlays_28 c2 r5 order12 rows13 next14 all15 a17 x27_318 t101 t102 t103)))) (
              mAnd (
                mLdI .i64 (a17.add 2) fun (x168_302 : Int) =>
                mAnd (
                  mLdI .i64 (a17.add 1) fun (x164_308 : Int) =>
                  mIdx next14 x164_308 1 fun (x165_309 : Addr) =>
                  mAnd (
                    mLdI .i64 x165_309 fun (x166_313 : Int) =>
                    mNew #[.int .i64 (0 : Int), .int .i64 (0 : Int), .int .i64 (0 : Int)] 51 fun (x27_314 : Addr) =>
                    mSt x27_314 (.int .i64 x161_287) <|
                    mSt (x27_314.add 1) (.int .i64 x166_313) <|
                    mSt (x27_314.add 2) (.int .i64 x168_302) <|
                    K_signalboxlaw16_ReadyPlays_28 c2 r5 order12 rows13 next14 all15 a17 x27_314 t101 t102 t103) (
                    mNew #[.int .i64 (0 : Int), .int .i64 (0 : Int), .int .i64 (0 : Int)] 51 fun (x27_310 : Addr) =>
                    mLdI .i64 x165_309 fun (x166_311 : Int) =>
                    mSt x27_310 (.int .i64 x161_287) <|
                    mSt (x27_310.add 1) (.int .i64 x166_311) <|
                    mSt (x27_310.add 2) (.int .i64 x168_302) <|
                    K_signalboxlaw16_ReadyPlays_28 c2 r5 order12 rows13 next14 all15 a17 x27_310 t101 t102 t103)) (
                  mNew #[.int .i64 (0 : Int), .int .i64 (0 : Int), .int .i64 (0 : Int)] 51 fun (x27_303 : Addr) =>
                  mLdI .i64 (a17.add 1) fun (x164_304 : Int) =>
                  mIdx next14 x164_304 1 fun (x165_305 : Addr) =>
                  mLdI .i64 x165_305 fun (x166_306 : Int) =>
                  mSt x27_303 (.int .i64 x161_287) <|
                  mSt (x27_303.add 1) (.int .i64 x166_306) <|
                  mSt (x27_303.add 2) (.int .i64 x168_302) <|
                  K_signalboxlaw16_ReadyPlays_28 c2 r5 order12 rows13 next14 all15 a17 x27_303 t101 t102 t103)) (
                mNew #[.int .i64 (0 : Int), .int .i64 (0 : Int), .int .i64 (0 : Int)] 51 fun (x27_288 : Addr) =>
                mAnd (
                  mLdI .i64 (a17.add 1) fun (x164_294 : Int) =>
                  mIdx next14 x164_294 1 fun (x165_295 : Addr) =>
                  mAnd (
                    mLdI .i64 x165_295 fun (x166_299 : Int) =>
                    mLdI .i64 (a17.add 2) fun (x168_300 : Int) =>
                    mSt x27_288 (.int .i64 x161_287) <|
                    mSt (x27_288.add 1) (.int .i64 x166_299) <|
                    mSt (x27_288.add 2) (.int .i64 x168_300) <|
                    K_signalboxlaw16_ReadyPlays_28 c2 r5 order12 rows13 next14 all15 a17 x27_288 t101 t102 t103) (
                    mLdI .i64 (a17.add 2) fun (x168_296 : Int) =>
                    mLdI .i64 x165_295 fun (x166_297 : Int) =>
                    mSt x27_288 (.int .i64 x161_287) <|
                    mSt (x27_288.add 1) (.int .i64 x166_297) <|
                    mSt (x27_288.add 2) (.int .i64 x168_296) <|
                    K_signalboxlaw16_ReadyPlays_28 c2 r5 order12 rows13 next14 all15 a17 x27_288 t101 t102 t103)) (
                  mLdI .i64 (a17.add 2) fun (x168_289 : Int) =>
                  mLdI .i64 (a17.add 1) fun (x164_290 : Int) =>
                  mIdx next14 x164_290 1 fun (x165_291 : Addr) =>
                  mLdI .i64 x165_291 fun (x166_292 : Int) =>
                  mSt x27_288 (.int .i64 x161_287) <|
                  mSt (x27_288.add 1) (.int .i64 x166_292) <|
                  mSt (x27_288.add 2) (.int .i64 x168_289) <|
                  K_signalboxlaw16_ReadyPlays_28 c2 r5 order12 rows13 next14 all15 a17 x27_288 t101 t102 t103)))) (
            mAnd (
              mLdI .i64 (a17.add 1) fun (x164_197 : Int) =>
              mIdx next14 x164_197 1 fun (x165_198 : Addr) =>
              mAnd (
                mLdI .i64 (a17.add 1) fun (x161_265 : Int) =>
                mAnd (
                  mLdI .i64 x165_198 fun (x166_280 : Int) =>
                  mAnd (
                    mLdI .i64 (a17.add 2) fun (x168_284 : Int) =>
                    mNew #[.int .i64 (0 : Int), .int .i64 (0 : Int), .int .i64 (0 : Int)] 51 fun (x27_285 : Addr) =>
                    mSt x27_285 (.int .i64 x161_265) <|
                    mSt (x27_285.add 1) (.int .i64 x166_280) <|
                    mSt (x27_285.add 2) (.int .i64 x168_284) <|
                    K_signalboxlaw16_ReadyPlays_28 c2 r5 order12 rows13 next14 all15 a17 x27_285 t101 t102 t103) (
                    mNew #[.int .i64 (0 : Int), .int .i64 (0 : Int), .int .i64 (0 : Int)] 51 fun (x27_281 : Addr) =>
                    mLdI .i64 (a17.add 2) fun (x168_282 : Int) =>
                    mSt x27_281 (.int .i64 x161_265) <|
                    mSt (x27_281.add 1) (.int .i64 x166_280) <|
                    mSt (x27_281.add 2) (.int .i64 x168_282) <|
                    K_signalboxlaw16_ReadyPlays_28 c2 r5 order12 rows13 next14 all15 a17 x27_281 t101 t102 t103)) (
                  mAnd (
                    mLdI .i64 (a17.add 2) fun (x168_273 : Int) =>
                    mAnd (
                      mLdI .i64 x165_198 fun (x166_277 : Int) =>
                      mNew #[.int .i64 (0 : Int), .int .i64 (0 : Int), .int .i64 (0 : Int)] 51 fun (x27_278 : Addr) =>
                      mSt x27_278 (.int .i64 x161_265) <|
                      mSt (x27_278.add 1) (.int .i64 x166_277) <|
                      mSt (x27_278.add 2) (.int .i64 x168_273) <|
                      K_signalboxlaw16_ReadyPlays_28 c2 r5 order12 rows13 next14 all15 a17 x27_278 t101 t102 t103) (
                      mNew #[.int .i64 (0 : Int), .int .i64 (0 : Int), .int .i64 (0 : Int)] 51 fun (x27_274 : Addr) =>
                      mLdI .i64 x165_198 fun (x166_275 : Int) =>
                      mSt x27_274 (.int .i64 x161_265) <|
                      mSt (x27_274.add 1) (.int .i64 x166_275) <|
                      mSt (x27_274.add 2) (.int .i64 x168_273) <|
                      K_signalboxlaw16_ReadyPlays_28 c2 r5 order12 rows13 next14 all15 a17 x27_274 t101 t102 t103)) (
                    mNew #[.int .i64 (0 : Int), .int .i64 (0 : Int), .int .i64 (0 : Int)] 51 fun (x27_266 : Addr) =>
                    mAnd (
                      mLdI .i64 x165_198 fun (x166_270 : Int) =>
                      mLdI .i64 (a17.add 2) fun (x168_271 : Int) =>
                      mSt x27_266 (.int .i64 x161_265) <|
                      mSt (x27_266.add 1) (.int .i64 x166_270) <|
                      mSt (x27_266.add 2) (.int .i64 x168_271) <|
                      K_signalboxlaw16_ReadyPlays_28 c2 r5 order12 rows13 next14 all15 a17 x27_266 t101 t102 t103) (
                      mLdI .i64 (a17.add 2) fun (x168_267 : Int) =>
                      mLdI .i64 x165_198 fun (x166_268 : Int) =>
                      mSt x27_266 (.int .i64 x161_265) <|
                      mSt (x27_266.add 1) (.int .i64 x166_268) <|
                      mSt (x27_266.add 2) (.int .i64 x168_267) <|
                      K_signalboxlaw16_ReadyPlays_28 c2 r5 order12 rows13 next14 all15 a17 x27_266 t101 t102 t103)))) (
                mAnd (
                  mLdI .i64 x165_198 fun (x166_243 : Int) =>
                  mAnd (
                    mLdI .i64 (a17.add 1) fun (x161_258 : Int) =>
                    mAnd (
                      mLdI .i64 (a17.add 2) fun (x168_262 : Int) =>
                      mNew #[.int .i64 (0 : Int), .int .i64 (0 : Int), .int .i64 (0 : Int)] 51 fun (x27_263 : Addr) =>
                      mSt x27_263 (.int .i64 x161_258) <|
                      mSt (x27_263.add 1) (.int .i64 x166_243) <|
                      mSt (x27_263.add 2) (.int .i64 x168_262) <|
                      K_signalboxlaw16_ReadyPlays_28 c2 r5 order12 rows13 next14 all15 a17 x27_263 t101 t102 t103) (
                      mNew #[.int .i64 (0 : Int), .int .i64 (0 : Int), .int .i64 (0 : Int)] 51 fun (x27_259 : Addr) =>
                      mLdI .i64 (a17.add 2) fun (x168_260 : Int) =>
                      mSt x27_259 (.int .i64 x161_258) <|
                      mSt (x27_259.add 1) (.int .i64 x166_243) <|
                      mSt (x27_259.add 2) (.int .i64 x168_260) <|
                      K_signalboxlaw16_ReadyPlays_28 c2 r5 order12 rows13 next14 all15 a17 x27_259 t101 t102 t103)) (
                    mAnd (
                      mLdI .i64 (a17.add 2) fun (x168_251 : Int) =>
                      mAnd (
                        mLdI .i64 (a17.add 1) fun (x161_255 : Int) =>
                        mNew #[.int .i64 (0 : Int), .int .i64 (0 : Int), .int .i64 (0 : Int)] 51 fun (x27_256 : Addr) =>
                        mSt x27_256 (.int .i64 x161_255) <|
                        mSt (x27_256.add 1) (.int .i64 x166_243) <|
                        mSt (x27_256.add 2) (.int .i64 x168_251) <|
                        K_signalboxlaw16_ReadyPlays_28 c2 r5 order12 rows13 next14 all15 a17 x27_256 t101 t102 t103) (
                        mNew #[.int .i64 (0 : Int), .int .i64 (0 : Int), .int .i64 (0 : Int)] 51 fun (x27_252 : Addr) =>
                        mLdI .i64 (a17.add 1) fun (x161_253 : Int) =>
                        mSt x27_252 (.int .i64 x161_253) <|
                        mSt (x27_252.add 1) (.int .i64 x166_243) <|
                        mSt (x27_252.add 2) (.int .i64 x168_251) <|
                        K_signalboxlaw16_ReadyPlays_28 c2 r5 order12 rows13 next14 all15 a17 x27_252 t101 t102 t103)) (
                      mNew #[.int .i64 (0 : Int), .int .i64 (0 : Int), .int .i64 (0 : Int)] 51 fun (x27_244 : Addr) =>
                      mAnd (
                        mLdI .i64 (a17.add 1) fun (x161_248 : Int) =>
                        mLdI .i64 (a17.add 2) fun (x168_249 : Int) =>
                        mSt x27_244 (.int .i64 x161_248) <|
                        mSt (x27_244.add 1) (.int .i64 x166_243) <|
                        mSt (x27_244.add 2) (.int .i64 x168_249) <|
                        K_signalboxlaw16_ReadyPlays_28 c2 r5 order12 rows13 next14 all15 a17 x27_244 t101 t102 t103) (
                        mLdI .i64 (a17.add 2) fun (x168_245 : Int) =>
                        mLdI .i64 (a17.add 1) fun (x161_246 : Int) =>
                        mSt x27_244 (.int .i64 x161_246) <|
                        mSt (x27_244.add 1) (.int .i64 x166_243) <|
                        mSt (x27_244.add 2) (.int .i64 x168_245) <|
                        K_signalboxlaw16_ReadyPlays_28 c2 r5 order12 rows13 next14 all15 a17 x27_244 t101 t102 t103)))) (
                  mAnd (
                    mLdI .i64 (a17.add 2) fun (x168_221 : Int) =>
                    mAnd (
                      mLdI .i64 (a17.add 1) fun (x161_236 : Int) =>
                      mAnd (
                        mLdI .i64 x165_198 fun (x166_240 : Int) =>
                        mNew #[.int .i64 (0 : Int), .int .i64 (0 : Int), .int .i64 (0 : Int)] 51 fun (x27_241 : Addr) =>
                        mSt x27_241 (.int .i64 x161_236) <|
                        mSt (x27_241.add 1) (.int .i64 x166_240) <|
                        mSt (x27_241.add 2) (.int .i64 x168_221) <|
                        K_signalboxlaw16_ReadyPlays_28 c2 r5 order12 rows13 next14 all15 a17 x27_241 t101 t102 t103) (
                        mNew #[.int .i64 (0 : Int), .int .i64 (0 : Int), .int .i64 (0 : Int)] 51 fun (x27_237 : Addr) =>
                        mLdI .i64 x165_198 fun (x166_238 : Int) =>
                        mSt x27_237 (.int .i64 x161_236) <|
                        mSt (x27_237.add 1) (.int .i64 x166_238) <|
                        mSt (x27_237.add 2) (.int .i64 x168_221) <|
                        K_signalboxlaw16_ReadyPlays_28 c2 r5 order12 rows13 next14 all15 a17 x27_237 t101 t102 t103)) (
                      mAnd (
                        mLdI .i64 x165_198 fun (x166_229 : Int) =>
                        mAnd (
                          mLdI .i64 (a17.add 1) fun (x161_233 : Int) =>
                          mNew #[.int .i64 (0 : Int), .int .i64 (0 : Int), .int .i64 (0 : Int)] 51 fun (x27_234 : Addr) =>
                          mSt x27_234 (.int .i64 x161_233) <|
                          mSt (x27_234.add 1) (.int .i64 x166_229) <|
                          mSt (x27_234.add 2) (.int .i64 x168_221) <|
                          K_signalboxlaw16_ReadyPlays_28 c2 r5 order12 rows13 next14 all15 a17 x27_234 t101 t102 t103) (
                          mNew #[.int .i64 (0 : Int), .int .i64 (0 : Int), .int .i64 (0 : Int)] 51 fun (x27_230 : Addr) =>
                          mLdI .i64 (a17.add 1) fun (x161_231 : Int) =>
                          mSt x27_230 (.int .i64 x161_231) <|
                          mSt (x27_230.add 1) (.int .i64 x166_229) <|
                          mSt (x27_230.add 2) (.int .i64 x168_221) <|
                          K_signalboxlaw16_ReadyPlays_28 c2 r5 order12 rows13 next14 all15 a17 x27_230 t101 t102 t103)) (
                        mNew #[.int .i64 (0 : Int), .int .i64 (0 : Int), .int .i64 (0 : Int)] 51 fun (x27_222 : Addr) =>
                        mAnd (
                          mLdI .i64 (a17.add 1) fun (x161_226 : Int) =>
                          mLdI .i64 x165_198 fun (x166_227 : Int) =>
                          mSt x27_222 (.int .i64 x161_226) <|
                          mSt (x27_222.add 1) (.int .i64 x166_227) <|
                          mSt (x27_222.add 2) (.int .i64 x168_221) <|
                          K_signalboxlaw16_ReadyPlays_28 c2 r5 order12 rows13 next14 all15 a17 x27_222 t101 t102 t103) (
                          mLdI .i64 x165_198 fun (x166_223 : Int) =>
                          mLdI .i64 (a17.add 1) fun (x161_224 : Int) =>
                          mSt x27_222 (.int .i64 x161_224) <|
                          mSt (x27_222.add 1) (.int .i64 x166_223) <|
                          mSt (x27_222.add 2) (.int .i64 x168_221) <|
                          K_signalboxlaw16_ReadyPlays_28 c2 r5 order12 rows13 next14 all15 a17 x27_222 t101 t102 t103)))) (
                    mNew #[.int .i64 (0 : Int), .int .i64 (0 : Int), .int .i64 (0 : Int)] 51 fun (x27_199 : Addr) =>
                    mAnd (
                      mLdI .i64 (a17.add 1) fun (x161_214 : Int) =>
                      mAnd (
                        mLdI .i64 x165_198 fun (x166_218 : Int) =>
                        mLdI .i64 (a17.add 2) fun (x168_219 : Int) =>
                        mSt x27_199 (.int .i64 x161_214) <|
                        mSt (x27_199.add 1) (.int .i64 x166_218) <|
                        mSt (x27_199.add 2) (.int .i64 x168_219) <|
                        K_signalboxlaw16_ReadyPlays_28 c2 r5 order12 rows13 next14 all15 a17 x27_199 t101 t102 t103) (
                        mLdI .i64 (a17.add 2) fun (x168_215 : Int) =>
                        mLdI .i64 x165_198 fun (x166_216 : Int) =>
                        mSt x27_199 (.int .i64 x161_214) <|
                        mSt (x27_199.add 1) (.int .i64 x166_216) <|
                        mSt (x27_199.add 2) (.int .i64 x168_215) <|
                        K_signalboxlaw16_ReadyPlays_28 c2 r5 order12 rows13 next14 all15 a17 x27_199 t101 t102 t103)) (
                      mAnd (
                        mLdI .i64 x165_198 fun (x166_207 : Int) =>
                        mAnd (
                          mLdI .i64 (a17.add 1) fun (x161_211 : Int) =>
                          mLdI .i64 (a17.add 2) fun (x168_212 : Int) =>
                          mSt x27_199 (.int .i64 x161_211) <|
                          mSt (x27_199.add 1) (.int .i64 x166_207) <|
                          mSt (x27_199.add 2) (.int .i64 x168_212) <|
                          K_signalboxlaw16_ReadyPlays_28 c2 r5 order12 rows13 next14 all15 a17 x27_199 t101 t102 t103) (
                          mLdI .i64 (a17.add 2) fun (x168_208 : Int) =>
                          mLdI .i64 (a17.add 1) fun (x161_209 : Int) =>
                          mSt x27_199 (.int .i64 x161_209) <|
                          mSt (x27_199.add 1) (.int .i64 x166_207) <|
                          mSt (x27_199.add 2) (.int .i64 x168_208) <|
                          K_signalboxlaw16_ReadyPlays_28 c2 r5 order12 rows13 next14 all15 a17 x27_199 t101 t102 t103)) (
                        mLdI .i64 (a17.add 2) fun (x168_200 : Int) =>
                        mAnd (
                          mLdI .i64 (a17.add 1) fun (x161_204 : Int) =>
                          mLdI .i64 x165_198 fun (x166_205 : Int) =>
                          mSt x27_199 (.int .i64 x161_204) <|
                          mSt (x27_199.add 1) (.int .i64 x166_205) <|
                          mSt (x27_199.add 2) (.int .i64 x168_200) <|
                          K_signalboxlaw16_ReadyPlays_28 c2 r5 order12 rows13 next14 all15 a17 x27_199 t101 t102 t103) (
                          mLdI .i64 x165_198 fun (x166_201 : Int) =>
                          mLdI .i64 (a17.add 1) fun (x161_202 : Int) =>
                          mSt x27_199 (.int .i64 x161_202) <|
                          mSt (x27_199.add 1) (.int .i64 x166_201) <|
                          mSt (x27_199.add 2) (.int .i64 x168_200) <|
                          K_signalboxlaw16_ReadyPlays_28 c2 r5 order12 rows13 next14 all15 a17 x27_199 t101 t102 t103))))))) (
              mAnd (
                mLdI .i64 (a17.add 2) fun (x168_145 : Int) =>
                mAnd (
                  mLdI .i64 (a17.add 1) fun (x161_183 : Int) =>
                  mAnd (
                    mLdI .i64 (a17.add 1) fun (x164_189 : Int) =>
                    mIdx next14 x164_189 1 fun (x165_190 : Addr) =>
                    mAnd (
                      mLdI .i64 x165_190 fun (x166_194 : Int) =>
                      mNew #[.int .i64 (0 : Int), .int .i64 (0 : Int), .int .i64 (0 : Int)] 51 fun (x27_195 : Addr) =>
                      mSt x27_195 (.int .i64 x161_183) <|
                      mSt (x27_195.add 1) (.int .i64 x166_194) <|
                      mSt (x27_195.add 2) (.int .i64 x168_145) <|
                      K_signalboxlaw16_ReadyPlays_28 c2 r5 order12 rows13 next14 all15 a17 x27_195 t101 t102 t103) (
                      mNew #[.int .i64 (0 : Int), .int .i64 (0 : Int), .int .i64 (0 : Int)] 51 fun (x27_191 : Addr) =>
                      mLdI .i64 x165_190 fun (x166_192 : Int) =>
                      mSt x27_191 (.int .i64 x161_183) <|
                      mSt (x27_191.add 1) (.int .i64 x166_192) <|
                      mSt (x27_191.add 2) (.int .i64 x168_145) <|
                      K_signalboxlaw16_ReadyPlays_28 c2 r5 order12 rows13 next14 all15 a17 x27_191 t101 t102 t103)) (
                    mNew #[.int .i64 (0 : Int), .int .i64 (0 : Int), .int .i64 (0 : Int)] 51 fun (x27_184 : Addr) =>
                    mLdI .i64 (a17.add 1) fun (x164_185 : Int) =>
                    mIdx next14 x164_185 1 fun (x165_186 : Addr) =>
                    mLdI .i64 x165_186 fun (x166_187 : Int) =>
                    mSt x27_184 (.int .i64 x161_183) <|
                    mSt (x27_184.add 1) (.int .i64 x166_187) <|
                    mSt (x27_184.add 2) (.int .i64 x168_145) <|
                    K_signalboxlaw16_ReadyPlays_28 c2 r5 order12 rows13 next14 all15 a17 x27_184 t101 t102 t103)) (
                  mAnd (
                    mLdI .i64 (a17.add 1) fun (x164_160 : Int) =>
                    mIdx next14 x164_160 1 fun (x165_161 : Addr) =>
                    mAnd (
                      mLdI .i64 (a17.add 1) fun (x161_176 : Int) =>
                      mAnd (
                        mLdI .i64 x165_161 fun (x166_180 : Int) =>
                        mNew #[.int .i64 (0 : Int), .int .i64 (0 : Int), .int .i64 (0 : Int)] 51 fun (x27_181 : Addr) =>
                        mSt x27_181 (.int .i64 x161_176) <|
                        mSt (x27_181.add 1) (.int .i64 x166_180) <|
                        mSt (x27_181.add 2) (.int .i64 x168_145) <|
                        K_signalboxlaw16_ReadyPlays_28 c2 r5 order12 rows13 next14 all15 a17 x27_181 t101 t102 t103) (
                        mNew #[.int .i64 (0 : Int), .int .i64 (0 : Int), .int .i64 (0 : Int)] 51 fun (x27_177 : Addr) =>
                        mLdI .i64 x165_161 fun (x166_178 : Int) =>
                        mSt x27_177 (.int .i64 x161_176) <|
                        mSt (x27_177.add 1) (.int .i64 x166_178) <|
                        mSt (x27_177.add 2) (.int .i64 x168_145) <|
                        K_signalboxlaw16_ReadyPlays_28 c2 r5 order12 rows13 next14 all15 a17 x27_177 t101 t102 t103)) (
                      mAnd (
                        mLdI .i64 x165_161 fun (x166_169 : Int) =>
                        mAnd (
                          mLdI .i64 (a17.add 1) fun (x161_173 : Int) =>
                          mNew #[.int .i64 (0 : Int), .int .i64 (0 : Int), .int .i64 (0 : Int)] 51 fun (x27_174 : Addr) =>
                          mSt x27_174 (.int .i64 x161_173) <|
                          mSt (x27_174.add 1) (.int .i64 x166_169) <|
                          mSt (x27_174.add 2) (.int .i64 x168_145) <|
                          K_signalboxlaw16_ReadyPlays_28 c2 r5 order12 rows13 next14 all15 a17 x27_174 t101 t102 t103) (
                          mNew #[.int .i64 (0 : Int), .int .i64 (0 : Int), .int .i64 (0 : Int)] 51 fun (x27_170 : Addr) =>
                          mLdI .i64 (a17.add 1) fun (x161_171 : Int) =>
                          mSt x27_170 (.int .i64 x161_171) <|
                          mSt (x27_170.add 1) (.int .i64 x166_169) <|
                          mSt (x27_170.add 2) (.int .i64 x168_145) <|
                          K_signalboxlaw16_ReadyPlays_28 c2 r5 order12 rows13 next14 all15 a17 x27_170 t101 t102 t103)) (
                        mNew #[.int .i64 (0 : Int), .int .i64 (0 : Int), .int .i64 (0 : Int)] 51 fun (x27_162 : Addr) =>
                        mAnd (
                          mLdI .i64 (a17.add 1) fun (x161_166 : Int) =>
                          mLdI .i64 x165_161 fun (x166_167 : Int) =>
                          mSt x27_162 (.int .i64 x161_166) <|
                          mSt (x27_162.add 1) (.int .i64 x166_167) <|
                          mSt (x27_162.add 2) (.int .i64 x168_145) <|
                          K_signalboxlaw16_ReadyPlays_28 c2 r5 order12 rows13 next14 all15 a17 x27_162 t101 t102 t103) (
                          mLdI .i64 x165_161 fun (x166_163 : Int) =>
                          mLdI .i64 (a17.add 1) fun (x161_164 : Int) =>
                          mSt x27_162 (.int .i64 x161_164) <|
                          mSt (x27_162.add 1) (.int .i64 x166_163) <|
                          mSt (x27_162.add 2) (.int .i64 x168_145) <|
                          K_signalboxlaw16_ReadyPlays_28 c2 r5 order12 rows13 next14 all15 a17 x27_162 t101 t102 t103)))) (
                    mNew #[.int .i64 (0 : Int), .int .i64 (0 : Int), .int .i64 (0 : Int)] 51 fun (x27_146 : Addr) =>
                    mAnd (
                      mLdI .i64 (a17.add 1) fun (x161_155 : Int) =>
                      mLdI .i64 (a17.add 1) fun (x164_156 : Int) =>
                      mIdx next14 x164_156 1 fun (x165_157 : Addr) =>
                      mLdI .i64 x165_157 fun (x166_158 : Int) =>
                      mSt x27_146 (.int .i64 x161_155) <|
                      mSt (x27_146.add 1) (.int .i64 x166_158) <|
                      mSt (x27_146.add 2) (.int .i64 x168_145) <|
                      K_signalboxlaw16_ReadyPlays_28 c2 r5 order12 rows13 next14 all15 a17 x27_146 t101 t102 t103) (
                      mLdI .i64 (a17.add 1) fun (x164_147 : Int) =>
                      mIdx next14 x164_147 1 fun (x165_148 : Addr) =>
                      mAnd (
                        mLdI .i64 (a17.add 1) fun (x161_152 : Int) =>
                        mLdI .i64 x165_148 fun (x166_153 : Int) =>
                        mSt x27_146 (.int .i64 x161_152) <|
                        mSt (x27_146.add 1) (.int .i64 x166_153) <|
                        mSt (x27_146.add 2) (.int .i64 x168_145) <|
                        K_signalboxlaw16_ReadyPlays_28 c2 r5 order12 rows13 next14 all15 a17 x27_146 t101 t102 t103) (
                        mLdI .i64 x165_148 fun (x166_149 : Int) =>
                        mLdI .i64 (a17.add 1) fun (x161_150 : Int) =>
                        mSt x27_146 (.int .i64 x161_150) <|
                        mSt (x27_146.add 1) (.int .i64 x166_149) <|
                        mSt (x27_146.add 2) (.int .i64 x168_145) <|
                        K_signalboxlaw16_ReadyPlays_28 c2 r5 order12 rows13 next14 all15 a17 x27_146 t101 t102 t103))))) (
                mNew #[.int .i64 (0 : Int), .int .i64 (0 : Int), .int .i64 (0 : Int)] 51 fun (x27 : Addr) =>
                mAnd (
                  mLdI .i64 (a17.add 1) fun (x161_131 : Int) =>
                  mAnd (
                    mLdI .i64 (a17.add 1) fun (x164_137 : Int) =>
                    mIdx next14 x164_137 1 fun (x165_138 : Addr) =>
                    mAnd (
                      mLdI .i64 x165_138 fun (x166_142 : Int) =>
                      mLdI .i64 (a17.add 2) fun (x168_143 : Int) =>
                      mSt x27 (.int .i64 x161_131) <|
                      mSt (x27.add 1) (.int .i64 x166_142) <|
                      mSt (x27.add 2) (.int .i64 x168_143) <|
                      K_signalboxlaw16_ReadyPlays_28 c2 r5 order12 rows13 next14 all15 a17 x27 t101 t102 t103) (
                      mLdI .i64 (a17.add 2) fun (x168_139 : Int) =>
                      mLdI .i64 x165_138 fun (x166_140 : Int) =>
                      mSt x27 (.int .i64 x161_131) <|
                      mSt (x27.add 1) (.int .i64 x166_140) <|
                      mSt (x27.add 2) (.int .i64 x168_139) <|
                      K_signalboxlaw16_ReadyPlays_28 c2 r5 order12 rows13 next14 all15 a17 x27 t101 t102 t103)) (
                    mLdI .i64 (a17.add 2) fun (x168_132 : Int) =>
                    mLdI .i64 (a17.add 1) fun (x164_133 : Int) =>
                    mIdx next14 x164_133 1 fun (x165_134 : Addr) =>
                    mLdI .i64 x165_134 fun (x166_135 : Int) =>
                    mSt x27 (.int .i64 x161_131) <|
                    mSt (x27.add 1) (.int .i64 x166_135) <|
                    mSt (x27.add 2) (.int .i64 x168_132) <|
                    K_signalboxlaw16_ReadyPlays_28 c2 r5 order12 rows13 next14 all15 a17 x27 t101 t102 t103)) (
                  mAnd (
                    mLdI .i64 (a17.add 1) fun (x164_108 : Int) =>
                    mIdx next14 x164_108 1 fun (x165_109 : Addr) =>
                    mAnd (
                      mLdI .i64 (a17.add 1) fun (x161_124 : Int) =>
                      mAnd (
                        mLdI .i64 x165_109 fun (x166_128 : Int) =>
                        mLdI .i64 (a17.add 2) fun (x168_129 : Int) =>
                        mSt x27 (.int .i64 x161_124) <|
                        mSt (x27.add 1) (.int .i64 x166_128) <|
                        mSt (x27.add 2) (.int .i64 x168_129) <|
                        K_signalboxlaw16_ReadyPlays_28 c2 r5 order12 rows13 next14 all15 a17 x27 t101 t102 t103) (
                        mLdI .i64 (a17.add 2) fun (x168_125 : Int) =>
                        mLdI .i64 x165_109 fun (x166_126 : Int) =>
                        mSt x27 (.int .i64 x161_124) <|
                        mSt (x27.add 1) (.int .i64 x166_126) <|
                        mSt (x27.add 2) (.int .i64 x168_125) <|
                        K_signalboxlaw16_ReadyPlays_28 c2 r5 order12 rows13 next14 all15 a17 x27 t101 t102 t103)) (
                      mAnd (
                        mLdI .i64 x165_109 fun (x166_117 : Int) =>
                        mAnd (
                          mLdI .i64 (a17.add 1) fun (x161_121 : Int) =>
                          mLdI .i64 (a17.add 2) fun (x168_122 : Int) =>
                          mSt x27 (.int .i64 x161_121) <|
                          mSt (x27.add 1) (.int .i64 x166_117) <|
                          mSt (x27.add 2) (.int .i64 x168_122) <|
                          K_signalboxlaw16_ReadyPlays_28 c2 r5 order12 rows13 next14 all15 a17 x27 t101 t102 t103) (
                          mLdI .i64 (a17.add 2) fun (x168_118 : Int) =>
                          mLdI .i64 (a17.add 1) fun (x161_119 : Int) =>
                          mSt x27 (.int .i64 x161_119) <|
                          mSt (x27.add 1) (.int .i64 x166_117) <|
                          mSt (x27.add 2) (.int .i64 x168_118) <|
                          K_signalboxlaw16_ReadyPlays_28 c2 r5 order12 rows13 next14 all15 a17 x27 t101 t102 t103)) (
                        mLdI .i64 (a17.add 2) fun (x168_110 : Int) =>
                        mAnd (
                          mLdI .i64 (a17.add 1) fun (x161_114 : Int) =>
                          mLdI .i64 x165_109 fun (x166_115 : Int) =>
                          mSt x27 (.int .i64 x161_114) <|
                          mSt (x27.add 1) (.int .i64 x166_115) <|
                          mSt (x27.add 2) (.int .i64 x168_110) <|
                          K_signalboxlaw16_ReadyPlays_28 c2 r5 order12 rows13 next14 all15 a17 x27 t101 t102 t103) (
                          mLdI .i64 x165_109 fun (x166_111 : Int) =>
                          mLdI .i64 (a17.add 1) fun (x161_112 : Int) =>
                          mSt x27 (.int .i64 x161_112) <|
                          mSt (x27.add 1) (.int .i64 x166_111) <|
                          mSt (x27.add 2) (.int .i64 x168_110) <|
                          K_signalboxlaw16_ReadyPlays_28 c2 r5 order12 rows13 next14 all15 a17 x27 t101 t102 t103)))) (
                    mLdI .i64 (a17.add 2) fun (x168 : Int) =>
                    mAnd (
                      mLdI .i64 (a17.add 1) fun (x161_103 : Int) =>
                      mLdI .i64 (a17.add 1) fun (x164_104 : Int) =>
                      mIdx next14 x164_104 1 fun (x165_105 : Addr) =>
                      mLdI .i64 x165_105 fun (x166_106 : Int) =>
                      mSt x27 (.int .i64 x161_103) <|
                      mSt (x27.add 1) (.int .i64 x166_106) <|
                      mSt (x27.add 2) (.int .i64 x168) <|
                      K_signalboxlaw16_ReadyPlays_28 c2 r5 order12 rows13 next14 all15 a17 x27 t101 t102 t103) (
                      mLdI .i64 (a17.add 1) fun (x164 : Int) =>
                      mIdx next14 x164 1 fun (x165 : Addr) =>
                      mAnd (
                        mLdI .i64 (a17.add 1) fun (x161_100 : Int) =>
                        mLdI .i64 x165 fun (x166_101 : Int) =>
                        mSt x27 (.int .i64 x161_100) <|
                        mSt (x27.add 1) (.int .i64 x166_101) <|
                        mSt (x27.add 2) (.int .i64 x168) <|
                        K_signalboxlaw16_ReadyPlays_28 c2 r5 order12 rows13 next14 all15 a17 x27 t101 t102 t103) (
                        mLdI .i64 x165 fun (x166 : Int) =>
                        mLdI .i64 (a17.add 1) fun (x161 : Int) =>
                        mSt x27 (.int .i64 x161) <|
                        mSt (x27.add 1) (.int .i64 x166) <|
                        mSt (x27.add 2) (.int .i64 x168) <|
                        K_signalboxlaw16_ReadyPlays_28 c2 r5 order12 rows13 next14 all15 a17 x27 t101 t102 t103)))))))))))
def B_signalboxlaw16_ReadyPlays_28 (c2 : Addr) (r5 : Option Addr) (order12 : Sl) (rows13 : Sl) (next14 : Sl) (all15 : Int) (a17 : Addr) (want27 : Addr) (t101 : Sl) (t102 : Int) (t103 : Int) : M Value :=
  mLdI .i64 (a17.add 1) fun (x172 : Int) =>
  mIdx next14 x172 1 fun (x173 : Addr) =>
  mLdI .i64 x173 fun (x174 : Int) =>
  mIdx next14 x172 1 fun (x176 : Addr) =>
  mSt x176 (.int .i64 (IntKind.i64.wrap (x174 + (1 : Int)))) <|
  mLdI .i64 (a17.add 1) fun (x180 : Int) =>
  mLdI .i64 (a17.add 2) fun (x182 : Int) =>
  mBind (N_ready_Ready_Release r5 x180 x182) fun r183 =>
  unT r183 fun x183l =>
  unC x183l fun x183v0 x183l0 =>
  unA x183v0 fun x183_0l =>
  unC x183_0l fun x183_0v0 x183_0l0 =>
  unI .i64 x183_0v0 fun (x183_0_0 : Int) =>
  unC x183_0l0 fun x183_0v1 x183_0l1 =>
  unI .i64 x183_0v1 fun (x183_0_1 : Int) =>
  unC x183_0l1 fun x183_0v2 x183_0l2 =>
  unI .i64 x183_0v2 fun (x183_0_2 : Int) =>
  unE x183_0l2 <|
  unC x183l0 fun x183v1 x183l1 =>
  unI .i64 x183v1 fun (x183_1 : Int) =>
  unE x183l1 <|
  mNew #[.int .i64 (0 : Int), .int .i64 (0 : Int), .int .i64 (0 : Int)] 51 fun (x28 : Addr) =>
  mSt x28 (.int .i64 x183_0_0) <|
  mSt (x28.add 1) (.int .i64 x183_0_1) <|
  mSt (x28.add 2) (.int .i64 x183_0_2) <|
  mLdI .i64 x28 fun (x186_0 : Int) =>
  mLdI .i64 (x28.add 1) fun (x186_1 : Int) =>
  mLdI .i64 (x28.add 2) fun (x186_2 : Int) =>
  mLdI .i64 want27 fun (x187_0 : Int) =>
  mLdI .i64 (want27.add 1) fun (x187_1 : Int) =>
  mLdI .i64 (want27.add 2) fun (x187_2 : Int) =>
  mBind (mIf (!((x186_0 == x187_0) && ((x186_1 == x187_1) && ((x186_2 == x187_2) && true)))) (mRet true) (mLdI .i64 (a17.add 1) fun (x194 : Int) =>
    mIdx rows13 x194 1 fun (x195 : Addr) =>
    mLdL x195 fun (x196 : Sl) =>
    mRet (!((x183_1 == (7 : Int)) == ((x196.n : Int) == (4 : Int)))))) fun (b362 : Bool) =>
  mBind (mIf b362 (mRet true) (mRet ((x183_1 != (0 : Int)) && (x183_1 != (7 : Int))))) fun (b363 : Bool) =>
  mIf b363 (
    mRet (.bool false)) (
    mIf (x183_1 == (0 : Int)) (
      mAnd (
        mLdI .i64 (a17.add 1) fun (x213_538 : Int) =>
        mAnd (
          mLdI .i64 (a17.add 1) fun (x216_559 : Int) =>
          mIdx rows13 x216_559 1 fun (x217_560 : Addr) =>
          mAnd (
            mLdL x217_560 fun (x218_572 : Sl) =>
            mLdI .i64 want27 fun (x219_573_0 : Int) =>
            mLdI .i64 (want27.add 1) fun (x219_573_1 : Int) =>
            mLdI .i64 (want27.add 2) fun (x219_573_2 : Int) =>
            mNew #[.int .i64 x219_573_0, .int .i64 x219_573_1, .int .i64 x219_573_2] 51 fun (x220_574 : Addr) =>
            mApp 51 3 24 #[.int .i64 (0 : Int), .int .i64 (0 : Int), .int .i64 (0 : Int)] x218_572 ⟨(some x220_574), 1, 1⟩ fun (x221_575 : Sl) =>
            mIdx rows13 x213_538 1 fun (x222_576 : Addr) =>
            mSt x222_576 (.slice x221_575.p x221_575.n x221_575.c) <|
            K_signalboxlaw16_ReadyPlays_34 c2 r5 order12 rows13 next14 all15 t101 t102 t103) (
            mLdI .i64 want27 fun (x219_561_0 : Int) =>
            mLdI .i64 (want27.add 1) fun (x219_561_1 : Int) =>
            mLdI .i64 (want27.add 2) fun (x219_561_2 : Int) =>
            mAnd (
              mLdL x217_560 fun (x218_567 : Sl) =>
              mNew #[.int .i64 x219_561_0, .int .i64 x219_561_1, .int .i64 x219_561_2] 51 fun (x220_568 : Addr) =>
              mApp 51 3 24 #[.int .i64 (0 : Int), .int .i64 (0 : Int), .int .i64 (0 : Int)] x218_567 ⟨(some x220_568), 1, 1⟩ fun (x221_569 : Sl) =>
              mIdx rows13 x213_538 1 fun (x222_570 : Addr) =>
              mSt x222_570 (.slice x221_569.p x221_569.n x221_569.c) <|
              K_signalboxlaw16_ReadyPlays_34 c2 r5 order12 rows13 next14 all15 t101 t102 t103) (
              mNew #[.int .i64 x219_561_0, .int .i64 x219_561_1, .int .i64 x219_561_2] 51 fun (x220_562 : Addr) =>
              mLdL x217_560 fun (x218_563 : Sl) =>
              mApp 51 3 24 #[.int .i64 (0 : Int), .int .i64 (0 : Int), .int .i64 (0 : Int)] x218_563 ⟨(some x220_562), 1, 1⟩ fun (x221_564 : Sl) =>
              mIdx rows13 x213_538 1 fun (x222_565 : Addr) =>
              mSt x222_565 (.slice x221_564.p x221_564.n x221_564.c) <|
              K_signalboxlaw16_ReadyPlays_34 c2 r5 order12 rows13 next14 all15 t101 t102 t103))) (
          mLdI .i64 want27 fun (x219_539_0 : Int) =>
          mLdI .i64 (want27.add 1) fun (x219_539_1 : Int) =>
          mLdI .i64 (want27.add 2) fun (x219_539_2 : Int) =>
          mAnd (
            mLdI .i64 (a17.add 1) fun (x216_547 : Int) =>
            mIdx rows13 x216_547 1 fun (x217_548 : Addr) =>
            mAnd (
              mLdL x217_548 fun (x218_554 : Sl) =>
              mNew #[.int .i64 x219_539_0, .int .i64 x219_539_1, .int .i64 x219_539_2] 51 fun (x220_555 : Addr) =>
              mApp 51 3 24 #[.int .i64 (0 : Int), .int .i64 (0 : Int), .int .i64 (0 : Int)] x218_554 ⟨(some x220_555), 1, 1⟩ fun (x221_556 : Sl) =>
              mIdx rows13 x213_538 1 fun (x222_557 : Addr) =>
              mSt x222_557 (.slice x221_556.p x221_556.n x221_556.c) <|
              K_signalboxlaw16_ReadyPlays_34 c2 r5 order12 rows13 next14 all15 t101 t102 t103) (
              mNew #[.int .i64 x219_539_0, .int .i64 x219_539_1, .int .i64 x219_539_2] 51 fun (x220_549 : Addr) =>
              mLdL x217_548 fun (x218_550 : Sl) =>
              mApp 51 3 24 #[.int .i64 (0 : Int), .int .i64 (0 : Int), .int .i64 (0 : Int)] x218_550 ⟨(some x220_549), 1, 1⟩ fun (x221_551 : Sl) =>
              mIdx rows13 x213_538 1 fun (x222_552 : Addr) =>
              mSt x222_552 (.slice x221_551.p x221_551.n x221_551.c) <|
              K_signalboxlaw16_ReadyPlays_34 c2 r5 order12 rows13 next14 all15 t101 t102 t103)) (
            mNew #[.int .i64 x219_539_0, .int .i64 x219_539_1, .int .i64 x219_539_2] 51 fun (x220_540 : Addr) =>
            mLdI .i64 (a17.add 1) fun (x216_541 : Int) =>
            mIdx rows13 x216_541 1 fun (x217_542 : Addr) =>
            mLdL x217_542 fun (x218_543 : Sl) =>
            mApp 51 3 24 #[.int .i64 (0 : Int), .int .i64 (0 : Int), .int .i64 (0 : Int)] x218_543 ⟨(some x220_540), 1, 1⟩ fun (x221_544 : Sl) =>
            mIdx rows13 x213_538 1 fun (x222_545 : Addr) =>
            mSt x222_545 (.slice x221_544.p x221_544.n x221_544.c) <|
            K_signalboxlaw16_ReadyPlays_34 c2 r5 order12 rows13 next14 all15 t101 t102 t103))) (
        mAnd (
          mLdI .i64 (a17.add 1) fun (x216_454 : Int) =>
          mIdx rows13 x216_454 1 fun (x217_455 : Addr) =>
          mAnd (
            mLdI .i64 (a17.add 1) fun (x213_520 : Int) =>
            mAnd (
              mLdL x217_455 fun (x218_532 : Sl) =>
              mLdI .i64 want27 fun (x219_533_0 : Int) =>
              mLdI .i64 (want27.add 1) fun (x219_533_1 : Int) =>
              mLdI .i64 (want27.add 2) fun (x219_533_2 : Int) =>
              mNew #[.int .i64 x219_533_0, .int .i64 x219_533_1, .int .i64 x219_533_2] 51 fun (x220_534 : Addr) =>
              mApp 51 3 24 #[.int .i64 (0 : Int), .int .i64 (0 : Int), .int .i64 (0 : Int)] x218_532 ⟨(some x220_534), 1, 1⟩ fun (x221_535 : Sl) =>
              mIdx rows13 x213_520 1 fun (x222_536 : Addr) =>
              mSt x222_536 (.slice x221_535.p x221_535.n x221_535.c) <|
              K_signalboxlaw16_ReadyPlays_34 c2 r5 order12 rows13 next14 all15 t101 t102 t103) (
              mLdI .i64 want27 fun (x219_521_0 : Int) =>
              mLdI .i64 (want27.add 1) fun (x219_521_1 : Int) =>
              mLdI .i64 (want27.add 2) fun (x219_521_2 : Int) =>
              mAnd (
                mLdL x217_455 fun (x218_527 : Sl) =>
                mNew #[.int .i64 x219_521_0, .int .i64 x219_521_1, .int .i64 x219_521_2] 51 fun (x220_528 : Addr) =>
                mApp 51 3 24 #[.int .i64 (0 : Int), .int .i64 (0 : Int), .int .i64 (0 : Int)] x218_527 ⟨(some x220_528), 1, 1⟩ fun (x221_529 : Sl) =>
                mIdx rows13 x213_520 1 fun (x222_530 : Addr) =>
                mSt x222_530 (.slice x221_529.p x221_529.n x221_529.c) <|
                K_signalboxlaw16_ReadyPlays_34 c2 r5 order12 rows13 next14 all15 t101 t102 t103) (
                mNew #[.int .i64 x219_521_0, .int .i64 x219_521_1, .int .i64 x219_521_2] 51 fun (x220_522 : Addr) =>
                mLdL x217_455 fun (x218_523 : Sl) =>
                mApp 51 3 24 #[.int .i64 (0 : Int), .int .i64 (0 : Int), .int .i64 (0 : Int)] x218_523 ⟨(some x220_522), 1, 1⟩ fun (x221_524 : Sl) =>
                mIdx rows13 x213_520 1 fun (x222_525 : Addr) =>
                mSt x222_525 (.slice x221_524.p x221_524.n x221_524.c) <|
                K_signalboxlaw16_ReadyPlays_34 c2 r5 order12 rows13 next14 all15 t101 t102 t103))) (
            mAnd (
              mLdL x217_455 fun (x218_498 : Sl) =>
              mAnd (
                mLdI .i64 (a17.add 1) fun (x213_514 : Int) =>
                mLdI .i64 want27 fun (x219_515_0 : Int) =>
                mLdI .i64 (want27.add 1) fun (x219_515_1 : Int) =>
                mLdI .i64 (want27.add 2) fun (x219_515_2 : Int) =>
                mNew #[.int .i64 x219_515_0, .int .i64 x219_515_1, .int .i64 x219_515_2] 51 fun (x220_516 : Addr) =>
                mApp 51 3 24 #[.int .i64 (0 : Int), .int .i64 (0 : Int), .int .i64 (0 : Int)] x218_498 ⟨(some x220_516), 1, 1⟩ fun (x221_517 : Sl) =>
                mIdx rows13 x213_514 1 fun (x222_518 : Addr) =>
                mSt x222_518 (.slice x221_517.p x221_517.n x221_517.c) <|
                K_signalboxlaw16_ReadyPlays_34 c2 r5 order12 rows13 next14 all15 t101 t102 t103) (
                mLdI .i64 want27 fun (x219_499_0 : Int) =>
                mLdI .i64 (want27.add 1) fun (x219_499_1 : Int) =>
                mLdI .i64 (want27.add 2) fun (x219_499_2 : Int) =>
                mAnd (
                  mLdI .i64 (a17.add 1) fun (x213_509 : Int) =>
                  mNew #[.int .i64 x219_499_0, .int .i64 x219_499_1, .int .i64 x219_499_2] 51 fun (x220_510 : Addr) =>
                  mApp 51 3 24 #[.int .i64 (0 : Int), .int .i64 (0 : Int), .int .i64 (0 : Int)] x218_498 ⟨(some x220_510), 1, 1⟩ fun (x221_511 : Sl) =>
                  mIdx rows13 x213_509 1 fun (x222_512 : Addr) =>
                  mSt x222_512 (.slice x221_511.p x221_511.n x221_511.c) <|
                  K_signalboxlaw16_ReadyPlays_34 c2 r5 order12 rows13 next14 all15 t101 t102 t103) (
                  mNew #[.int .i64 x219_499_0, .int .i64 x219_499_1, .int .i64 x219_499_2] 51 fun (x220_500 : Addr) =>
                  mAnd (
                    mLdI .i64 (a17.add 1) fun (x213_505 : Int) =>
                    mApp 51 3 24 #[.int .i64 (0 : Int), .int .i64 (0 : Int), .int .i64 (0 : Int)] x218_498 ⟨(some x220_500), 1, 1⟩ fun (x221_506 : Sl) =>
                    mIdx rows13 x213_505 1 fun (x222_507 : Addr) =>
                    mSt x222_507 (.slice x221_506.p x221_506.n x221_506.c) <|
                    K_signalboxlaw16_ReadyPlays_34 c2 r5 order12 rows13 next14 all15 t101 t102 t103) (
                    mApp 51 3 24 #[.int .i64 (0 : Int), .int .i64 (0 : Int), .int .i64 (0 : Int)] x218_498 ⟨(some x220_500), 1, 1⟩ fun (x221_501 : Sl) =>
                    mLdI .i64 (a17.add 1) fun (x213_502 : Int) =>
                    mIdx rows13 x213_502 1 fun (x222_503 : Addr) =>
                    mSt x222_503 (.slice x221_501.p x221_501.n x221_501.c) <|
                    K_signalboxlaw16_ReadyPlays_34 c2 r5 order12 rows13 next14 all15 t101 t102 t103)))) (
              mLdI .i64 want27 fun (x219_456_0 : Int) =>
              mLdI .i64 (want27.add 1) fun (x219_456_1 : Int) =>
              mLdI .i64 (want27.add 2) fun (x219_456_2 : Int) =>
              mAnd (
                mLdI .i64 (a17.add 1) fun (x213_487 : Int) =>
                mAnd (
                  mLdL x217_455 fun (x218_493 : Sl) =>
                  mNew #[.int .i64 x219_456_0, .int .i64 x219_456_1, .int .i64 x219_456_2] 51 fun (x220_494 : Addr) =>
                  mApp 51 3 24 #[.int .i64 (0 : Int), .int .i64 (0 : Int), .int .i64 (0 : Int)] x218_493 ⟨(some x220_494), 1, 1⟩ fun (x221_495 : Sl) =>
                  mIdx rows13 x213_487 1 fun (x222_496 : Addr) =>
                  mSt x222_496 (.slice x221_495.p x221_495.n x221_495.c) <|
                  K_signalboxlaw16_ReadyPlays_34 c2 r5 order12 rows13 next14 all15 t101 t102 t103) (
                  mNew #[.int .i64 x219_456_0, .int .i64 x219_456_1, .int .i64 x219_456_2] 51 fun (x220_488 : Addr) =>
                  mLdL x217_455 fun (x218_489 : Sl) =>
                  mApp 51 3 24 #[.int .i64 (0 : Int), .int .i64 (0 : Int), .int .i64 (0 : Int)] x218_489 ⟨(some x220_488), 1, 1⟩ fun (x221_490 : Sl) =>
                  mIdx rows13 x213_487 1 fun (x222_491 : Addr) =>
                  mSt x222_491 (.slice x221_490.p x221_490.n x221_490.c) <|
                  K_signalboxlaw16_ReadyPlays_34 c2 r5 order12 rows13 next14 all15 t101 t102 t103)) (
                mAnd (
                  mLdL x217_455 fun (x218_472 : Sl) =>
                  mAnd (
                    mLdI .i64 (a17.add 1) fun (x213_482 : Int) =>
                    mNew #[.int .i64 x219_456_0, .int .i64 x219_456_1, .int .i64 x219_456_2] 51 fun (x220_483 : Addr) =>
                    mApp 51 3 24 #[.int .i64 (0 : Int), .int .i64 (0 : Int), .int .i64 (0 : Int)] x218_472 ⟨(some x220_483), 1, 1⟩ fun (x221_484 : Sl) =>
                    mIdx rows13 x213_482 1 fun (x222_485 : Addr) =>
                    mSt x222_485 (.slice x221_484.p x221_484.n x221_484.c) <|
                    K_signalboxlaw16_ReadyPlays_34 c2 r5 order12 rows13 next14 all15 t101 t102 t103) (
                    mNew #[.int .i64 x219_456_0, .int .i64 x219_456_1, .int .i64 x219_456_2] 51 fun (x220_473 : Addr) =>
                    mAnd (
                      mLdI .i64 (a17.add 1) fun (x213_478 : Int) =>
                      mApp 51 3 24 #[.int .i64 (0 : Int), .int .i64 (0 : Int), .int .i64 (0 : Int)] x218_472 ⟨(some x220_473), 1, 1⟩ fun (x221_479 : Sl) =>
                      mIdx rows13 x213_478 1 fun (x222_480 : Addr) =>
                      mSt x222_480 (.slice x221_479.p x221_479.n x221_479.c) <|
                      K_signalboxlaw16_ReadyPlays_34 c2 r5 order12 rows13 next14 all15 t101 t102 t103) (
                      mApp 51 3 24 #[.int .i64 (0 : Int), .int .i64 (0 : Int), .int .i64 (0 : Int)] x218_472 ⟨(some x220_473), 1, 1⟩ fun (x221_474 : Sl) =>
                      mLdI .i64 (a17.add 1) fun (x213_475 : Int) =>
                      mIdx rows13 x213_475 1 fun (x222_476 : Addr) =>
                      mSt x222_476 (.slice x221_474.p x221_474.n x221_474.c) <|
                      K_signalboxlaw16_ReadyPlays_34 c2 r5 order12 rows13 next14 all15 t101 t102 t103))) (
                  mNew #[.int .i64 x219_456_0, .int .i64 x219_456_1, .int .i64 x219_456_2] 51 fun (x220_457 : Addr) =>
                  mAnd (
                    mLdI .i64 (a17.add 1) fun (x213_467 : Int) =>
                    mLdL x217_455 fun (x218_468 : Sl) =>
                    mApp 51 3 24 #[.int .i64 (0 : Int), .int .i64 (0 : Int), .int .i64 (0 : Int)] x218_468 ⟨(some x220_457), 1, 1⟩ fun (x221_469 : Sl) =>
                    mIdx rows13 x213_467 1 fun (x222_470 : Addr) =>
                    mSt x222_470 (.slice x221_469.p x221_469.n x221_469.c) <|
                    K_signalboxlaw16_ReadyPlays_34 c2 r5 order12 rows13 next14 all15 t101 t102 t103) (
                    mLdL x217_455 fun (x218_458 : Sl) =>
                    mAnd (
                      mLdI .i64 (a17.add 1) fun (x213_463 : Int) =>
                      mApp 51 3 24 #[.int .i64 (0 : Int), .int .i64 (0 : Int), .int .i64 (0 : Int)] x218_458 ⟨(some x220_457), 1, 1⟩ fun (x221_464 : Sl) =>
                      mIdx rows13 x213_463 1 fun (x222_465 : Addr) =>
                      mSt x222_465 (.slice x221_464.p x221_464.n x221_464.c) <|
                      K_signalboxlaw16_ReadyPlays_34 c2 r5 order12 rows13 next14 all15 t101 t102 t103) (
                      mApp 51 3 24 #[.int .i64 (0 : Int), .int .i64 (0 : Int), .int .i64 (0 : Int)] x218_458 ⟨(some x220_457), 1, 1⟩ fun (x221_459 : Sl) =>
                      mLdI .i64 (a17.add 1) fun (x213_460 : Int) =>
                      mIdx rows13 x213_460 1 fun (x222_461 : Addr) =>
                      mSt x222_461 (.slice x221_459.p x221_459.n x221_459.c) <|
                      K_signalboxlaw16_ReadyPlays_34 c2 r5 order12 rows13 next14 all15 t101 t102 t103))))))) (
          mLdI .i64 want27 fun (x219_0 : Int) =>
          mLdI .i64 (want27.add 1) fun (x219_1 : Int) =>
          mLdI .i64 (want27.add 2) fun (x219_2 : Int) =>
          mAnd (
            mLdI .i64 (a17.add 1) fun (x213_434 : Int) =>
            mAnd (
              mLdI .i64 (a17.add 1) fun (x216_442 : Int) =>
              mIdx rows13 x216_442 1 fun (x217_443 : Addr) =>
              mAnd (
                mLdL x217_443 fun (x218_449 : Sl) =>
                mNew #[.int .i64 x219_0, .int .i64 x219_1, .int .i64 x219_2] 51 fun (x220_450 : Addr) =>
                mApp 51 3 24 #[.int .i64 (0 : Int), .int .i64 (0 : Int), .int .i64 (0 : Int)] x218_449 ⟨(some x220_450), 1, 1⟩ fun (x221_451 : Sl) =>
                mIdx rows13 x213_434 1 fun (x222_452 : Addr) =>
                mSt x222_452 (.slice x221_451.p x221_451.n x221_451.c) <|
                K_signalboxlaw16_ReadyPlays_34 c2 r5 order12 rows13 next14 all15 t101 t102 t103) (
                mNew #[.int .i64 x219_0, .int .i64 x219_1, .int .i64 x219_2] 51 fun (x220_444 : Addr) =>
                mLdL x217_443 fun (x218_445 : Sl) =>
                mApp 51 3 24 #[.int .i64 (0 : Int), .int .i64 (0 : Int), .int .i64 (0 : Int)] x218_445 ⟨(some x220_444), 1, 1⟩ fun (x221_446 : Sl) =>
                mIdx rows13 x213_434 1 fun (x222_447 : Addr) =>
                mSt x222_447 (.slice x221_446.p x221_446.n x221_446.c) <|
                K_signalboxlaw16_ReadyPlays_34 c2 r5 order12 rows13 next14 all15 t101 t102 t103)) (
              mNew #[.int .i64 x219_0, .int .i64 x219_1, .int .i64 x219_2] 51 fun (x220_435 : Addr) =>
              mLdI .i64 (a17.add 1) fun (x216_436 : Int) =>
              mIdx rows13 x216_436 1 fun (x217_437 : Addr) =>
              mLdL x217_437 fun (x218_438 : Sl) =>
              mApp 51 3 24 #[.int .i64 (0 : Int), .int .i64 (0 : Int), .int .i64 (0 : Int)] x218_438 ⟨(some x220_435), 1, 1⟩ fun (x221_439 : Sl) =>
              mIdx rows13 x213_434 1 fun (x222_440 : Addr) =>
              mSt x222_440 (.slice x221_439.p x221_439.n x221_439.c) <|
              K_signalboxlaw16_ReadyPlays_34 c2 r5 order12 rows13 next14 all15 t101 t102 t103)) (
            mAnd (
              mLdI .i64 (a17.add 1) fun (x216_391 : Int) =>
              mIdx rows13 x216_391 1 fun (x217_392 : Addr) =>
              mAnd (
                mLdI .i64 (a17.add 1) fun (x213_423 : Int) =>
                mAnd (
                  mLdL x217_392 fun (x218_429 : Sl) =>
                  mNew #[.int .i64 x219_0, .int .i64 x219_1, .int .i64 x219_2] 51 fun (x220_430 : Addr) =>
                  mApp 51 3 24 #[.int .i64 (0 : Int), .int .i64 (0 : Int), .int .i64 (0 : Int)] x218_429 ⟨(some x220_430), 1, 1⟩ fun (x221_431 : Sl) =>
                  mIdx rows13 x213_423 1 fun (x222_432 : Addr) =>
                  mSt x222_432 (.slice x221_431.p x221_431.n x221_431.c) <|
                  K_signalboxlaw16_ReadyPlays_34 c2 r5 order12 rows13 next14 all15 t101 t102 t103) (
                  mNew #[.int .i64 x219_0, .int .i64 x219_1, .int .i64 x219_2] 51 fun (x220_424 : Addr) =>
                  mLdL x217_392 fun (x218_425 : Sl) =>
                  mApp 51 3 24 #[.int .i64 (0 : Int), .int .i64 (0 : Int), .int .i64 (0 : Int)] x218_425 ⟨(some x220_424), 1, 1⟩ fun (x221_426 : Sl) =>
                  mIdx rows13 x213_423 1 fun (x222_427 : Addr) =>
                  mSt x222_427 (.slice x221_426.p x221_426.n x221_426.c) <|
                  K_signalboxlaw16_ReadyPlays_34 c2 r5 order12 rows13 next14 all15 t101 t102 t103)) (
                mAnd (
                  mLdL x217_392 fun (x218_408 : Sl) =>
                  mAnd (
                    mLdI .i64 (a17.add 1) fun (x213_418 : Int) =>
                    mNew #[.int .i64 x219_0, .int .i64 x219_1, .int .i64 x219_2] 51 fun (x220_419 : Addr) =>
                    mApp 51 3 24 #[.int .i64 (0 : Int), .int .i64 (0 : Int), .int .i64 (0 : Int)] x218_408 ⟨(some x220_419), 1, 1⟩ fun (x221_420 : Sl) =>
                    mIdx rows13 x213_418 1 fun (x222_421 : Addr) =>
                    mSt x222_421 (.slice x221_420.p x221_420.n x221_420.c) <|
                    K_signalboxlaw16_ReadyPlays_34 c2 r5 order12 rows13 next14 all15 t101 t102 t103) (
                    mNew #[.int .i64 x219_0, .int .i64 x219_1, .int .i64 x219_2] 51 fun (x220_409 : Addr) =>
                    mAnd (
                      mLdI .i64 (a17.add 1) fun (x213_414 : Int) =>
                      mApp 51 3 24 #[.int .i64 (0 : Int), .int .i64 (0 : Int), .int .i64 (0 : Int)] x218_408 ⟨(some x220_409), 1, 1⟩ fun (x221_415 : Sl) =>
                      mIdx rows13 x213_414 1 fun (x222_416 : Addr) =>
                      mSt x222_416 (.slice x221_415.p x221_415.n x221_415.c) <|
                      K_signalboxlaw16_ReadyPlays_34 c2 r5 order12 rows13 next14 all15 t101 t102 t103) (
                      mApp 51 3 24 #[.int .i64 (0 : Int), .int .i64 (0 : Int), .int .i64 (0 : Int)] x218_408 ⟨(some x220_409), 1, 1⟩ fun (x221_410 : Sl) =>
                      mLdI .i64 (a17.add 1) fun (x213_411 : Int) =>
                      mIdx rows13 x213_411 1 fun (x222_412 : Addr) =>
                      mSt x222_412 (.slice x221_410.p x221_410.n x221_410.c) <|
                      K_signalboxlaw16_ReadyPlays_34 c2 r5 order12 rows13 next14 all15 t101 t102 t103))) (
                  mNew #[.int .i64 x219_0, .int .i64 x219_1, .int .i64 x219_2] 51 fun (x220_393 : Addr) =>
                  mAnd (
                    mLdI .i64 (a17.add 1) fun (x213_403 : Int) =>
                    mLdL x217_392 fun (x218_404 : Sl) =>
                    mApp 51 3 24 #[.int .i64 (0 : Int), .int .i64 (0 : Int), .int .i64 (0 : Int)] x218_404 ⟨(some x220_393), 1, 1⟩ fun (x221_405 : Sl) =>
                    mIdx rows13 x213_403 1 fun (x222_406 : Addr) =>
                    mSt x222_406 (.slice x221_405.p x221_405.n x221_405.c) <|
                    K_signalboxlaw16_ReadyPlays_34 c2 r5 order12 rows13 next14 all15 t101 t102 t103) (
                    mLdL x217_392 fun (x218_394 : Sl) =>
                    mAnd (
                      mLdI .i64 (a17.add 1) fun (x213_399 : Int) =>
                      mApp 51 3 24 #[.int .i64 (0 : Int), .int .i64 (0 : Int), .int .i64 (0 : Int)] x218_394 ⟨(some x220_393), 1, 1⟩ fun (x221_400 : Sl) =>
                      mIdx rows13 x213_399 1 fun (x222_401 : Addr) =>
                      mSt x222_401 (.slice x221_400.p x221_400.n x221_400.c) <|
                      K_signalboxlaw16_ReadyPlays_34 c2 r5 order12 rows13 next14 all15 t101 t102 t103) (
                      mApp 51 3 24 #[.int .i64 (0 : Int), .int .i64 (0 : Int), .int .i64 (0 : Int)] x218_394 ⟨(some x220_393), 1, 1⟩ fun (x221_395 : Sl) =>
                      mLdI .i64 (a17.add 1) fun (x213_396 : Int) =>
                      mIdx rows13 x213_396 1 fun (x222_397 : Addr) =>
                      mSt x222_397 (.slice x221_395.p x221_395.n x221_395.c) <|
                      K_signalboxlaw16_ReadyPlays_34 c2 r5 order12 rows13 next14 all15 t101 t102 t103))))) (
              mNew #[.int .i64 x219_0, .int .i64 x219_1, .int .i64 x219_2] 51 fun (x220 : Addr) =>
              mAnd (
                mLdI .i64 (a17.add 1) fun (x213_384 : Int) =>
                mLdI .i64 (a17.add 1) fun (x216_385 : Int) =>
                mIdx rows13 x216_385 1 fun (x217_386 : Addr) =>
                mLdL x217_386 fun (x218_387 : Sl) =>
                mApp 51 3 24 #[.int .i64 (0 : Int), .int .i64 (0 : Int), .int .i64 (0 : Int)] x218_387 ⟨(some x220), 1, 1⟩ fun (x221_388 : Sl) =>
                mIdx rows13 x213_384 1 fun (x222_389 : Addr) =>
                mSt x222_389 (.slice x221_388.p x221_388.n x221_388.c) <|
                K_signalboxlaw16_ReadyPlays_34 c2 r5 order12 rows13 next14 all15 t101 t102 t103) (
                mLdI .i64 (a17.add 1) fun (x216 : Int) =>
                mIdx rows13 x216 1 fun (x217 : Addr) =>
                mAnd (
                  mLdI .i64 (a17.add 1) fun (x213_379 : Int) =>
                  mLdL x217 fun (x218_380 : Sl) =>
                  mApp 51 3 24 #[.int .i64 (0 : Int), .int .i64 (0 : Int), .int .i64 (0 : Int)] x218_380 ⟨(some x220), 1, 1⟩ fun (x221_381 : Sl) =>
                  mIdx rows13 x213_379 1 fun (x222_382 : Addr) =>
                  mSt x222_382 (.slice x221_381.p x221_381.n x221_381.c) <|
                  K_signalboxlaw16_ReadyPlays_34 c2 r5 order12 rows13 next14 all15 t101 t102 t103) (
                  mLdL x217 fun (x218 : Sl) =>
                  mAnd (
                    mLdI .i64 (a17.add 1) fun (x213_375 : Int) =>
                    mApp 51 3 24 #[.int .i64 (0 : Int), .int .i64 (0 : Int), .int .i64 (0 : Int)] x218 ⟨(some x220), 1, 1⟩ fun (x221_376 : Sl) =>
                    mIdx rows13 x213_375 1 fun (x222_377 : Addr) =>
                    mSt x222_377 (.slice x221_376.p x221_376.n x221_376.c) <|
                    K_signalboxlaw16_ReadyPlays_34 c2 r5 order12 rows13 next14 all15 t101 t102 t103) (
                    mApp 51 3 24 #[.int .i64 (0 : Int), .int .i64 (0 : Int), .int .i64 (0 : Int)] x218 ⟨(some x220), 1, 1⟩ fun (x221 : Sl) =>
                    mLdI .i64 (a17.add 1) fun (x213 : Int) =>
                    mIdx rows13 x213 1 fun (x222 : Addr) =>
                    mSt x222 (.slice x221.p x221.n x221.c) <|
                    K_signalboxlaw16_ReadyPlays_34 c2 r5 order12 rows13 next14 all15 t101 t102 t103)))))))) (
      mBind (N_ready_Ready_Len r5) fun r284 =>
      unI .i64 r284 fun (x284 : Int) =>
      mIf (x284 != all15) (
        mRet (.bool false)) (
        K_signalboxlaw16_ReadyPlays_16 c2 r5 order12 rows13 next14 all15 t101 t102 (IntKind.i64.wrap (t103 + (1 : Int))))))
def B_signalboxlaw16_ReadyPlays_34 (c2 : Addr) (r5 : Option Addr) (order12 : Sl) (rows13 : Sl) (next14 : Sl) (all15 : Int) (t101 : Sl) (t102 : Int) (t103 : Int) : M Value :=
  mBind (N_ready_Ready_Len r5) fun r284 =>
  unI .i64 r284 fun (x284 : Int) =>
  mIf (x284 != (IntKind.i64.wrap (all15 + (1 : Int)))) (
    mRet (.bool false)) (
    K_signalboxlaw16_ReadyPlays_16 c2 r5 order12 rows13 next14 (IntKind.i64.wrap (all15 + (1 : Int))) t101 t102 (IntKind.i64.wrap (t103 + (1 : Int))))
def B_signalboxlaw16_ReadyPlays_50 (r5 : Option Addr) (rows13 : Sl) (t290 : Int) (t291 : Int) : M Value :=
  mIf (decide (t291 < t290)) (
    mBind (N_ready_Ready_Waiting r5 t291) fun r296 =>
    unL r296 fun (x296 : Sl) =>
    mIdx rows13 t291 1 fun (x301 : Addr) =>
    mLdL x301 fun (x302 : Sl) =>
    mIf ((x296.n : Int) != (x302.n : Int)) (
      mRet (.bool false)) (
      K_signalboxlaw16_ReadyPlays_56 r5 rows13 t291 x296 t290 t291 (x296.n : Int) (0 : Int))) (
    mBind (N_ready_Ready_Waiting r5 (-1 : Int)) fun r325 =>
    unL r325 fun (x325 : Sl) =>
    mRet (.bool ((x325.n : Int) == (0 : Int))))
def B_signalboxlaw16_ReadyPlays_56 (r5 : Option Addr) (rows13 : Sl) (t30 : Int) (w31 : Sl) (t290 : Int) (t291 : Int) (t306 : Int) (t307 : Int) : M Value :=
  mIf (decide (t307 < t306)) (
    mIdx w31 t307 3 fun (x312 : Addr) =>
    mLdI .i64 x312 fun (x313_0 : Int) =>
    mLdI .i64 (x312.add 1) fun (x313_1 : Int) =>
    mLdI .i64 (x312.add 2) fun (x313_2 : Int) =>
    mIdx rows13 t30 1 fun (x316 : Addr) =>
    mLdL x316 fun (x317 : Sl) =>
    mIdx x317 t307 3 fun (x319 : Addr) =>
    mLdI .i64 x319 fun (x320_0 : Int) =>
    mLdI .i64 (x319.add 1) fun (x320_1 : Int) =>
    mLdI .i64 (x319.add 2) fun (x320_2 : Int) =>
    mIf (!((x313_0 == x320_0) && ((x313_1 == x320_1) && ((x313_2 == x320_2) && true)))) (
      mRet (.bool false)) (
      K_signalboxlaw16_ReadyPlays_56 r5 rows13 t30 w31 t290 t291 t306 (IntKind.i64.wrap (t307 + (1 : Int))))) (
    K_signalboxlaw16_ReadyPlays_50 r5 rows13 t290 (IntKind.i64.wrap (t291 + (1 : Int))))
theorem E_signalboxlaw16_ReadyPlays (c0_0 : Int) (c0_1 : Int) (c0_2 : Int) (c0_3 : Int) (c0_4 : Sl) (c0_5 : Int) (c0_6 : Sl) (c0_7 : Sl) (c0_8 : Sl) (c0_9 : Sl) (l1 : Sl) : ev Try.prog 6 Try.f6.results.toList C_signalboxlaw16_ReadyPlays D_signalboxlaw16_ReadyPlays 400 false [.code (bodyOf Try.f6)] (List.map some [.agg #[.int .i64 c0_0, .int .i64 c0_1, .int .i64 c0_2, .int .i64 c0_3, .slice c0_4.p c0_4.n c0_4.c, .int .i64 c0_5, .slice c0_6.p c0_6.n c0_6.c, .slice c0_7.p c0_7.n c0_7.c, .slice c0_8.p c0_8.n c0_8.c, .slice c0_9.p c0_9.n c0_9.c], .slice l1.p l1.n l1.c] ++ List.replicate (Try.f6.ntmps - List.length ([.agg #[.int .i64 c0_0, .int .i64 c0_1, .int .i64 c0_2, .int .i64 c0_3, .slice c0_4.p c0_4.n c0_4.c, .int .i64 c0_5, .slice c0_6.p c0_6.n c0_6.c, .slice c0_7.p c0_7.n c0_7.c, .slice c0_8.p c0_8.n c0_8.c, .slice c0_9.p c0_9.n c0_9.c], .slice l1.p l1.n l1.c] : List Value)) none) = B_signalboxlaw16_ReadyPlays c0_0 c0_1 c0_2 c0_3 c0_4 c0_5 c0_6 c0_7 c0_8 c0_9 l1 := by kernel_rfl
theorem S_signalboxlaw16_ReadyPlays (c0_0 : Int) (c0_1 : Int) (c0_2 : Int) (c0_3 : Int) (c0_4 : Sl) (c0_5 : Int) (c0_6 : Sl) (c0_7 : Sl) (c0_8 : Sl) (c0_9 : Sl) (l1 : Sl) {h : Hp} {Q : Value → Hp → Prop} (hb : B_signalboxlaw16_ReadyPlays c0_0 c0_1 c0_2 c0_3 c0_4 c0_5 c0_6 c0_7 c0_8 c0_9 l1 h Q) : N_signalboxlaw16_ReadyPlays c0_0 c0_1 c0_2 c0_3 c0_4 c0_5 c0_6 c0_7 c0_8 c0_9 l1 h Q :=
  Nf.of_ev Try.call6 Try.func6 (c := bodyOf Try.f6) rfl mixed C_signalboxlaw16_ReadyPlays D_signalboxlaw16_ReadyPlays 400 (args := [.agg #[.int .i64 c0_0, .int .i64 c0_1, .int .i64 c0_2, .int .i64 c0_3, .slice c0_4.p c0_4.n c0_4.c, .int .i64 c0_5, .slice c0_6.p c0_6.n c0_6.c, .slice c0_7.p c0_7.n c0_7.c, .slice c0_8.p c0_8.n c0_8.c, .slice c0_9.p c0_9.n c0_9.c], .slice l1.p l1.n l1.c]) (by rw [E_signalboxlaw16_ReadyPlays]; exact hb)
theorem E_signalboxlaw16_ReadyPlays_16 (c2 : Addr) (r5 : Option Addr) (order12 : Sl) (rows13 : Sl) (next14 : Sl) (all15 : Int) (t101 : Sl) (t102 : Int) (t103 : Int) : ev Try.prog 6 Try.f6.results.toList C_signalboxlaw16_ReadyPlays D_signalboxlaw16_ReadyPlays 400 true (todoOf Try.f6 16) (T_signalboxlaw16_ReadyPlays_16 c2 r5 order12 rows13 next14 all15 t101 t102 t103) = B_signalboxlaw16_ReadyPlays_16 c2 r5 order12 rows13 next14 all15 t101 t102 t103 := by kernel_rfl
theorem S_signalboxlaw16_ReadyPlays_16 (c2 : Addr) (r5 : Option Addr) (order12 : Sl) (rows13 : Sl) (next14 : Sl) (all15 : Int) (t101 : Sl) (t102 : Int) (t103 : Int) {h : Hp} {Q : Value → Hp → Prop} (hb : B_signalboxlaw16_ReadyPlays_16 c2 r5 order12 rows13 next14 all15 t101 t102 t103 h Q) : K_signalboxlaw16_ReadyPlays_16 c2 r5 order12 rows13 next14 all15 t101 t102 t103 h Q :=
  Cut.of_ev Try.func6 mixed C_signalboxlaw16_ReadyPlays D_signalboxlaw16_ReadyPlays 400 (by rw [E_signalboxlaw16_ReadyPlays_16]; exact hb)
theorem E_signalboxlaw16_ReadyPlays_20 (c2 : Addr) (r5 : Option Addr) (order12 : Sl) (rows13 : Sl) (next14 : Sl) (all15 : Int) (a17 : Addr) (first18 : Int) (i19 : Int) (t101 : Sl) (t102 : Int) (t103 : Int) : ev Try.prog 6 Try.f6.results.toList C_signalboxlaw16_ReadyPlays D_signalboxlaw16_ReadyPlays 400 true (todoOf Try.f6 20) (T_signalboxlaw16_ReadyPlays_20 c2 r5 order12 rows13 next14 all15 a17 first18 i19 t101 t102 t103) = B_signalboxlaw16_ReadyPlays_20 c2 r5 order12 rows13 next14 all15 a17 first18 i19 t101 t102 t103 := by kernel_rfl
theorem S_signalboxlaw16_ReadyPlays_20 (c2 : Addr) (r5 : Option Addr) (order12 : Sl) (rows13 : Sl) (next14 : Sl) (all15 : Int) (a17 : Addr) (first18 : Int) (i19 : Int) (t101 : Sl) (t102 : Int) (t103 : Int) {h : Hp} {Q : Value → Hp → Prop} (hb : B_signalboxlaw16_ReadyPlays_20 c2 r5 order12 rows13 next14 all15 a17 first18 i19 t101 t102 t103 h Q) : K_signalboxlaw16_ReadyPlays_20 c2 r5 order12 rows13 next14 all15 a17 first18 i19 t101 t102 t103 h Q :=
  Cut.of_ev Try.func6 mixed C_signalboxlaw16_ReadyPlays D_signalboxlaw16_ReadyPlays 400 (by rw [E_signalboxlaw16_ReadyPlays_20]; exact hb)
theorem E_signalboxlaw16_ReadyPlays_28 (c2 : Addr) (r5 : Option Addr) (order12 : Sl) (rows13 : Sl) (next14 : Sl) (all15 : Int) (a17 : Addr) (want27 : Addr) (t101 : Sl) (t102 : Int) (t103 : Int) : ev Try.prog 6 Try.f6.results.toList C_signalboxlaw16_ReadyPlays D_signalboxlaw16_ReadyPlays 400 true (todoOf Try.f6 28) (T_signalboxlaw16_ReadyPlays_28 c2 r5 order12 rows13 next14 all15 a17 want27 t101 t102 t103) = B_signalboxlaw16_ReadyPlays_28 c2 r5 order12 rows13 next14 all15 a17 want27 t101 t102 t103 := by kernel_rfl
theorem S_signalboxlaw16_ReadyPlays_28 (c2 : Addr) (r5 : Option Addr) (order12 : Sl) (rows13 : Sl) (next14 : Sl) (all15 : Int) (a17 : Addr) (want27 : Addr) (t101 : Sl) (t102 : Int) (t103 : Int) {h : Hp} {Q : Value → Hp → Prop} (hb : B_signalboxlaw16_ReadyPlays_28 c2 r5 order12 rows13 next14 all15 a17 want27 t101 t102 t103 h Q) : K_signalboxlaw16_ReadyPlays_28 c2 r5 order12 rows13 next14 all15 a17 want27 t101 t102 t103 h Q :=
  Cut.of_ev Try.func6 mixed C_signalboxlaw16_ReadyPlays D_signalboxlaw16_ReadyPlays 400 (by rw [E_signalboxlaw16_ReadyPlays_28]; exact hb)
theorem E_signalboxlaw16_ReadyPlays_34 (c2 : Addr) (r5 : Option Addr) (order12 : Sl) (rows13 : Sl) (next14 : Sl) (all15 : Int) (t101 : Sl) (t102 : Int) (t103 : Int) : ev Try.prog 6 Try.f6.results.toList C_signalboxlaw16_ReadyPlays D_signalboxlaw16_ReadyPlays 400 true (todoOf Try.f6 34) (T_signalboxlaw16_ReadyPlays_34 c2 r5 order12 rows13 next14 all15 t101 t102 t103) = B_signalboxlaw16_ReadyPlays_34 c2 r5 order12 rows13 next14 all15 t101 t102 t103 := by kernel_rfl
theorem S_signalboxlaw16_ReadyPlays_34 (c2 : Addr) (r5 : Option Addr) (order12 : Sl) (rows13 : Sl) (next14 : Sl) (all15 : Int) (t101 : Sl) (t102 : Int) (t103 : Int) {h : Hp} {Q : Value → Hp → Prop} (hb : B_signalboxlaw16_ReadyPlays_34 c2 r5 order12 rows13 next14 all15 t101 t102 t103 h Q) : K_signalboxlaw16_ReadyPlays_34 c2 r5 order12 rows13 next14 all15 t101 t102 t103 h Q :=
  Cut.of_ev Try.func6 mixed C_signalboxlaw16_ReadyPlays D_signalboxlaw16_ReadyPlays 400 (by rw [E_signalboxlaw16_ReadyPlays_34]; exact hb)
theorem E_signalboxlaw16_ReadyPlays_50 (r5 : Option Addr) (rows13 : Sl) (t290 : Int) (t291 : Int) : ev Try.prog 6 Try.f6.results.toList C_signalboxlaw16_ReadyPlays D_signalboxlaw16_ReadyPlays 400 true (todoOf Try.f6 50) (T_signalboxlaw16_ReadyPlays_50 r5 rows13 t290 t291) = B_signalboxlaw16_ReadyPlays_50 r5 rows13 t290 t291 := by kernel_rfl
theorem S_signalboxlaw16_ReadyPlays_50 (r5 : Option Addr) (rows13 : Sl) (t290 : Int) (t291 : Int) {h : Hp} {Q : Value → Hp → Prop} (hb : B_signalboxlaw16_ReadyPlays_50 r5 rows13 t290 t291 h Q) : K_signalboxlaw16_ReadyPlays_50 r5 rows13 t290 t291 h Q :=
  Cut.of_ev Try.func6 mixed C_signalboxlaw16_ReadyPlays D_signalboxlaw16_ReadyPlays 400 (by rw [E_signalboxlaw16_ReadyPlays_50]; exact hb)
theorem E_signalboxlaw16_ReadyPlays_56 (r5 : Option Addr) (rows13 : Sl) (t30 : Int) (w31 : Sl) (t290 : Int) (t291 : Int) (t306 : Int) (t307 : Int) : ev Try.prog 6 Try.f6.results.toList C_signalboxlaw16_ReadyPlays D_signalboxlaw16_ReadyPlays 400 true (todoOf Try.f6 56) (T_signalboxlaw16_ReadyPlays_56 r5 rows13 t30 w31 t290 t291 t306 t307) = B_signalboxlaw16_ReadyPlays_56 r5 rows13 t30 w31 t290 t291 t306 t307 := by kernel_rfl
theorem S_signalboxlaw16_ReadyPlays_56 (r5 : Option Addr) (rows13 : Sl) (t30 : Int) (w31 : Sl) (t290 : Int) (t291 : Int) (t306 : Int) (t307 : Int) {h : Hp} {Q : Value → Hp → Prop} (hb : B_signalboxlaw16_ReadyPlays_56 r5 rows13 t30 w31 t290 t291 t306 t307 h Q) : K_signalboxlaw16_ReadyPlays_56 r5 rows13 t30 w31 t290 t291 t306 t307 h Q :=
  Cut.of_ev Try.func6 mixed C_signalboxlaw16_ReadyPlays D_signalboxlaw16_ReadyPlays 400 (by rw [E_signalboxlaw16_ReadyPlays_56]; exact hb)
def C_signalboxlaw16_fixed : List (Nat × List Nat) := []
def D_signalboxlaw16_fixed : List (Nat × List Nat) := []
def B_signalboxlaw16_fixed : M Value :=
  mNew #[.int .i64 (1 : Int), .int .i64 (2 : Int), .int .i64 (0 : Int)] 78 fun (x17 : Addr) =>
  mNew #[.int .i64 (1 : Int), .int .i64 (1 : Int), .int .i64 (9 : Int), .int .i64 (9 : Int), .int .i64 (0 : Int), .int .i64 (0 : Int), .slice (some x17) (1) (1), .int .i64 (4 : Int), .int .i64 (4 : Int), .int .i64 (9 : Int), .int .i64 (9 : Int), .int .i64 (0 : Int), .int .i64 (0 : Int), .slice (some x17) (1) (1)] 67 fun (x23 : Addr) =>
  mNew #[.int .i64 (0 : Int), .int .i64 (0 : Int), .int .i64 (0 : Int), .int .i64 (0 : Int), .slice none (0) (0), .int .i64 (0 : Int), .slice none (0) (0), .slice none (0) (0), .slice none (0) (0), .slice none (0) (0)] 34 fun (x2 : Addr) =>
  mSt x2 (.int .i64 (1 : Int)) <|
  mSt (x2.add 1) (.int .i64 (1 : Int)) <|
  mSt (x2.add 2) (.int .i64 (1 : Int)) <|
  mSt (x2.add 3) (.int .i64 (1 : Int)) <|
  mSt (x2.add 4) (.slice none (0) (0)) <|
  mSt (x2.add 5) (.int .i64 (0 : Int)) <|
  mSt (x2.add 6) (.slice none (0) (0)) <|
  mSt (x2.add 7) (.slice none (0) (0)) <|
  mSt (x2.add 8) (.slice (some x23) (2) (2)) <|
  mSt (x2.add 9) (.slice none (0) (0)) <|
  mLdI .i64 x2 fun (x26_0 : Int) =>
  mLdI .i64 (x2.add 1) fun (x26_1 : Int) =>
  mLdI .i64 (x2.add 2) fun (x26_2 : Int) =>
  mLdI .i64 (x2.add 3) fun (x26_3 : Int) =>
  mLdL (x2.add 4) fun (x26_4 : Sl) =>
  mLdI .i64 (x2.add 5) fun (x26_5 : Int) =>
  mLdL (x2.add 6) fun (x26_6 : Sl) =>
  mLdL (x2.add 7) fun (x26_7 : Sl) =>
  mLdL (x2.add 8) fun (x26_8 : Sl) =>
  mLdL (x2.add 9) fun (x26_9 : Sl) =>
  mBind (N_ready_New x26_0 x26_1 x26_2 x26_3 x26_4 x26_5 x26_6 x26_7 x26_8 x26_9) fun r27 =>
  un2 unP (unI .i64) r27 fun (x27_0 : Option Addr) (x27_1 : Int) =>
  mBind (N_ready_Ready_Release x27_0 (0 : Int) (3 : Int)) fun r32 =>
  unT r32 fun x32l =>
  unC x32l fun x32v0 x32l0 =>
  unA x32v0 fun x32_0l =>
  unC x32_0l fun x32_0v0 x32_0l0 =>
  unI .i64 x32_0v0 fun (x32_0_0 : Int) =>
  unC x32_0l0 fun x32_0v1 x32_0l1 =>
  unI .i64 x32_0v1 fun (x32_0_1 : Int) =>
  unC x32_0l1 fun x32_0v2 x32_0l2 =>
  unI .i64 x32_0v2 fun (x32_0_2 : Int) =>
  unE x32_0l2 <|
  unC x32l0 fun x32v1 x32l1 =>
  unI .i64 x32v1 fun (x32_1 : Int) =>
  unE x32l1 <|
  mNew #[.int .i64 (0 : Int), .int .i64 (0 : Int), .int .i64 (0 : Int)] 51 fun (x5 : Addr) =>
  mSt x5 (.int .i64 x32_0_0) <|
  mSt (x5.add 1) (.int .i64 x32_0_1) <|
  mSt (x5.add 2) (.int .i64 x32_0_2) <|
  mBind (N_ready_Ready_Release x27_0 (1 : Int) (5 : Int)) fun r37 =>
  unT r37 fun x37l =>
  unC x37l fun x37v0 x37l0 =>
  unA x37v0 fun x37_0l =>
  unC x37_0l fun x37_0v0 x37_0l0 =>
  unI .i64 x37_0v0 fun (x37_0_0 : Int) =>
  unC x37_0l0 fun x37_0v1 x37_0l1 =>
  unI .i64 x37_0v1 fun (x37_0_1 : Int) =>
  unC x37_0l1 fun x37_0v2 x37_0l2 =>
  unI .i64 x37_0v2 fun (x37_0_2 : Int) =>
  unE x37_0l2 <|
  unC x37l0 fun x37v1 x37l1 =>
  unI .i64 x37v1 fun (x37_1 : Int) =>
  unE x37l1 <|
  mNew #[.int .i64 (0 : Int), .int .i64 (0 : Int), .int .i64 (0 : Int)] 51 fun (x7 : Addr) =>
  mSt x7 (.int .i64 x37_0_0) <|
  mSt (x7.add 1) (.int .i64 x37_0_1) <|
  mSt (x7.add 2) (.int .i64 x37_0_2) <|
  mBind (N_ready_Ready_First x27_0) fun r42 =>
  unT r42 fun x42l =>
  unC x42l fun x42v0 x42l0 =>
  unA x42v0 fun x42_0l =>
  unC x42_0l fun x42_0v0 x42_0l0 =>
  unI .i64 x42_0v0 fun (x42_0_0 : Int) =>
  unC x42_0l0 fun x42_0v1 x42_0l1 =>
  unI .i64 x42_0v1 fun (x42_0_1 : Int) =>
  unC x42_0l1 fun x42_0v2 x42_0l2 =>
  unI .i64 x42_0v2 fun (x42_0_2 : Int) =>
  unE x42_0l2 <|
  unC x42l0 fun x42v1 x42l1 =>
  unI .i64 x42v1 fun (x42_1 : Int) =>
  unC x42l1 fun x42v2 x42l2 =>
  unB x42v2 fun (x42_2 : Bool) =>
  unE x42l2 <|
  mNew #[.int .i64 (0 : Int), .int .i64 (0 : Int), .int .i64 (0 : Int)] 51 fun (x9_14 : Addr) =>
  mSt x9_14 (.int .i64 x42_0_0) <|
  mSt (x9_14.add 1) (.int .i64 x42_0_1) <|
  mSt (x9_14.add 2) (.int .i64 x42_0_2) <|
  mBind (N_ready_Ready_Release x27_0 (2 : Int) (5 : Int)) fun r48 =>
  unT r48 fun x48l =>
  unC x48l fun x48v0 x48l0 =>
  unA x48v0 fun x48_0l =>
  unC x48_0l fun x48_0v0 x48_0l0 =>
  unI .i64 x48_0v0 fun (x48_0_0 : Int) =>
  unC x48_0l0 fun x48_0v1 x48_0l1 =>
  unI .i64 x48_0v1 fun (x48_0_1 : Int) =>
  unC x48_0l1 fun x48_0v2 x48_0l2 =>
  unI .i64 x48_0v2 fun (x48_0_2 : Int) =>
  unE x48_0l2 <|
  unC x48l0 fun x48v1 x48l1 =>
  unI .i64 x48v1 fun (x48_1 : Int) =>
  unE x48l1 <|
  mNew #[.int .i64 (0 : Int), .int .i64 (0 : Int), .int .i64 (0 : Int)] 51 fun (x12_17 : Addr) =>
  mSt x12_17 (.int .i64 x48_0_0) <|
  mSt (x12_17.add 1) (.int .i64 x48_0_1) <|
  mSt (x12_17.add 2) (.int .i64 x48_0_2) <|
  mBind (N_ready_New (0 : Int) (0 : Int) (0 : Int) (0 : Int) (Sl.mk none 0 0) (0 : Int) (Sl.mk none 0 0) (Sl.mk none 0 0) (Sl.mk none 0 0) (Sl.mk none 0 0)) fun r53 =>
  un2 unP (unI .i64) r53 fun (_x53_0 : Option Addr) (x53_1 : Int) =>
  mBind (mIf (((x27_1 == (0 : Int)) && (x32_1 == (0 : Int))) && (x37_1 == (0 : Int))) (mLdI .i64 x7 fun (x67_0 : Int) =>
    mLdI .i64 (x7.add 1) fun (x67_1 : Int) =>
    mLdI .i64 (x7.add 2) fun (x67_2 : Int) =>
    mRet ((x67_0 == (1 : Int)) && ((x67_1 == (0 : Int)) && ((x67_2 == (5 : Int)) && true)))) (mRet false)) fun (b21 : Bool) =>
  mBind (mIf b21 (mLdI .i64 x9_14 fun (x72_0 : Int) =>
    mLdI .i64 (x9_14.add 1) fun (x72_1 : Int) =>
    mLdI .i64 (x9_14.add 2) fun (x72_2 : Int) =>
    mLdI .i64 x7 fun (x73_0 : Int) =>
    mLdI .i64 (x7.add 1) fun (x73_1 : Int) =>
    mLdI .i64 (x7.add 2) fun (x73_2 : Int) =>
    mRet ((x72_0 == x73_0) && ((x72_1 == x73_1) && ((x72_2 == x73_2) && true)))) (mRet false)) fun (b24 : Bool) =>
  mBind (mIf ((((b24 && (x42_1 == (4 : Int))) && x42_2) && (x48_1 == (6 : Int))) && (x53_1 == (5 : Int))) (mBind (N_ready_Ready_Len x27_0) fun r93 =>
    unI .i64 r93 fun (x93 : Int) =>
    mRet (x93 == (2 : Int))) (mRet false)) fun (b26 : Bool) =>
  mRet (.bool b26)
theorem E_signalboxlaw16_fixed : ev Try.prog 20 Try.f20.results.toList C_signalboxlaw16_fixed D_signalboxlaw16_fixed 400 false [.code (bodyOf Try.f20)] (List.map some [] ++ List.replicate (Try.f20.ntmps - List.length ([] : List Value)) none) = B_signalboxlaw16_fixed := by kernel_rfl
theorem S_signalboxlaw16_fixed {h : Hp} {Q : Value → Hp → Prop} (hb : B_signalboxlaw16_fixed h Q) : N_signalboxlaw16_fixed h Q :=
  Nf.of_ev Try.call20 Try.func20 (c := bodyOf Try.f20) rfl mixed C_signalboxlaw16_fixed D_signalboxlaw16_fixed 400 (args := []) (by rw [E_signalboxlaw16_fixed]; exact hb)
def C_ready_New : List (Nat × List Nat) := [(6, [5, 18, 19, 20]), (9, [5, 6, 7, 18, 19, 20])]
def D_ready_New : List (Nat × List Nat) := [(8, []), (9, [0, 1, 2, 3, 4, 5, 6])]
def T_ready_New_6 (r5 : Addr) (t18 : Sl) (t19 : Int) (t20 : Int) : Env := mkEnv [(5, .pointer (some r5)), (18, .slice t18.p t18.n t18.c), (19, .int .i64 t19), (20, .int .i64 t20)] 47 0
def K_ready_New_6 (r5 : Addr) (t18 : Sl) (t19 : Int) (t20 : Int) : M Value := Cut Try.prog 21 (todoOf Try.f21 6) (T_ready_New_6 r5 t18 t19 t20)
def T_ready_New_9 (r5 : Addr) (i6 : Int) (t7 : Addr) (t18 : Sl) (t19 : Int) (t20 : Int) : Env := mkEnv [(5, .pointer (some r5)), (6, .int .i64 i6), (7, .pointer (some t7)), (18, .slice t18.p t18.n t18.c), (19, .int .i64 t19), (20, .int .i64 t20)] 47 0
def K_ready_New_9 (r5 : Addr) (i6 : Int) (t7 : Addr) (t18 : Sl) (t19 : Int) (t20 : Int) : M Value := Cut Try.prog 21 (todoOf Try.f21 9) (T_ready_New_9 r5 i6 t7 t18 t19 t20)
def B_ready_New (c0_0 : Int) (c0_1 : Int) (c0_2 : Int) (c0_3 : Int) (c0_4 : Sl) (c0_5 : Int) (c0_6 : Sl) (c0_7 : Sl) (c0_8 : Sl) (c0_9 : Sl) : M Value :=
  mNew #[.int .i64 c0_0, .int .i64 c0_1, .int .i64 c0_2, .int .i64 c0_3, .slice c0_4.p c0_4.n c0_4.c, .int .i64 c0_5, .slice c0_6.p c0_6.n c0_6.c, .slice c0_7.p c0_7.n c0_7.c, .slice c0_8.p c0_8.n c0_8.c, .slice c0_9.p c0_9.n c0_9.c] 34 fun (x1 : Addr) =>
  mLdI .i64 x1 fun (x8_0 : Int) =>
  mLdI .i64 (x1.add 1) fun (x8_1 : Int) =>
  mLdI .i64 (x1.add 2) fun (x8_2 : Int) =>
  mLdI .i64 (x1.add 3) fun (x8_3 : Int) =>
  mLdL (x1.add 4) fun (x8_4 : Sl) =>
  mLdI .i64 (x1.add 5) fun (x8_5 : Int) =>
  mLdL (x1.add 6) fun (x8_6 : Sl) =>
  mLdL (x1.add 7) fun (x8_7 : Sl) =>
  mLdL (x1.add 8) fun (x8_8 : Sl) =>
  mLdL (x1.add 9) fun (x8_9 : Sl) =>
  mBind (N_conf_Check x8_0 x8_1 x8_2 x8_3 x8_4 x8_5 x8_6 x8_7 x8_8 x8_9) fun r9 =>
  unI .i64 r9 fun (x9 : Int) =>
  mIf (x9 != (0 : Int)) (
    mRet (.tuple #[.pointer none, .int .i64 x9])) (
    mMapNew fun (x13 : Nat) =>
    mBind (N_band_New (Sl.mk none 0 0)) fun r14 =>
    unP r14 fun (x14 : Option Addr) =>
    mNew #[.slice none (0) (0), .map (some x13), .pointer x14] 98 fun (x16 : Addr) =>
    mLdL (x1.add 8) fun (x18 : Sl) =>
    K_ready_New_6 x16 x18 (x18.n : Int) (0 : Int))
def B_ready_New_6 (r5 : Addr) (t18 : Sl) (t19 : Int) (t20 : Int) : M Value :=
  mIf (decide (t20 < t19)) (
    mIdx t18 t20 7 fun (x23 : Addr) =>
    mLdI .i64 x23 fun (x24_0 : Int) =>
    mLdI .i64 (x23.add 1) fun (x24_1 : Int) =>
    mLdI .i64 (x23.add 2) fun (x24_2 : Int) =>
    mLdI .i64 (x23.add 3) fun (x24_3 : Int) =>
    mLdI .i64 (x23.add 4) fun (x24_4 : Int) =>
    mLdI .i64 (x23.add 5) fun (x24_5 : Int) =>
    mLdL (x23.add 6) fun (x24_6 : Sl) =>
    mNew #[.int .i64 (0 : Int), .int .i64 (0 : Int), .int .i64 (0 : Int), .int .i64 (0 : Int), .int .i64 (0 : Int), .int .i64 (0 : Int), .slice none (0) (0)] 67 fun (x7 : Addr) =>
    mSt x7 (.int .i64 x24_0) <|
    mSt (x7.add 1) (.int .i64 x24_1) <|
    mSt (x7.add 2) (.int .i64 x24_2) <|
    mSt (x7.add 3) (.int .i64 x24_3) <|
    mSt (x7.add 4) (.int .i64 x24_4) <|
    mSt (x7.add 5) (.int .i64 x24_5) <|
    mSt (x7.add 6) (.slice x24_6.p x24_6.n x24_6.c) <|
    mAnd (
      mLdL r5 fun (x29_58 : Sl) =>
      mAnd (
        mLdI .i64 x7 fun (x31_66 : Int) =>
        mBind (N_ring_New_ready_Job (4 : Int)) fun r32_67 =>
        unP r32_67 fun (x32_67 : Option Addr) =>
        mNew #[.int .i64 x31_66, .int .i64 (0 : Int), .pointer x32_67] 102 fun (x34_68 : Addr) =>
        mApp 102 3 24 #[.int .i64 (0 : Int), .int .i64 (0 : Int), .pointer none] x29_58 ⟨(some x34_68), 1, 1⟩ fun (x35_69 : Sl) =>
        mSt r5 (.slice x35_69.p x35_69.n x35_69.c) <|
        K_ready_New_9 r5 t20 x7 t18 t19 t20) (
        mBind (N_ring_New_ready_Job (4 : Int)) fun r32_59 =>
        unP r32_59 fun (x32_59 : Option Addr) =>
        mLdI .i64 x7 fun (x31_60 : Int) =>
        mNew #[.int .i64 x31_60, .int .i64 (0 : Int), .pointer x32_59] 102 fun (x34_61 : Addr) =>
        mApp 102 3 24 #[.int .i64 (0 : Int), .int .i64 (0 : Int), .pointer none] x29_58 ⟨(some x34_61), 1, 1⟩ fun (x35_62 : Sl) =>
        mSt r5 (.slice x35_62.p x35_62.n x35_62.c) <|
        K_ready_New_9 r5 t20 x7 t18 t19 t20)) (
      mAnd (
        mLdI .i64 x7 fun (x31_37 : Int) =>
        mAnd (
          mLdL r5 fun (x29_51 : Sl) =>
          mBind (N_ring_New_ready_Job (4 : Int)) fun r32_52 =>
          unP r32_52 fun (x32_52 : Option Addr) =>
          mNew #[.int .i64 x31_37, .int .i64 (0 : Int), .pointer x32_52] 102 fun (x34_53 : Addr) =>
          mApp 102 3 24 #[.int .i64 (0 : Int), .int .i64 (0 : Int), .pointer none] x29_51 ⟨(some x34_53), 1, 1⟩ fun (x35_54 : Sl) =>
          mSt r5 (.slice x35_54.p x35_54.n x35_54.c) <|
          K_ready_New_9 r5 t20 x7 t18 t19 t20) (
          mBind (N_ring_New_ready_Job (4 : Int)) fun r32_38 =>
          unP r32_38 fun (x32_38 : Option Addr) =>
          mAnd (
            mLdL r5 fun (x29_45 : Sl) =>
            mNew #[.int .i64 x31_37, .int .i64 (0 : Int), .pointer x32_38] 102 fun (x34_46 : Addr) =>
            mApp 102 3 24 #[.int .i64 (0 : Int), .int .i64 (0 : Int), .pointer none] x29_45 ⟨(some x34_46), 1, 1⟩ fun (x35_47 : Sl) =>
            mSt r5 (.slice x35_47.p x35_47.n x35_47.c) <|
            K_ready_New_9 r5 t20 x7 t18 t19 t20) (
            mNew #[.int .i64 x31_37, .int .i64 (0 : Int), .pointer x32_38] 102 fun (x34_39 : Addr) =>
            mLdL r5 fun (x29_40 : Sl) =>
            mApp 102 3 24 #[.int .i64 (0 : Int), .int .i64 (0 : Int), .pointer none] x29_40 ⟨(some x34_39), 1, 1⟩ fun (x35_41 : Sl) =>
            mSt r5 (.slice x35_41.p x35_41.n x35_41.c) <|
            K_ready_New_9 r5 t20 x7 t18 t19 t20))) (
        mBind (N_ring_New_ready_Job (4 : Int)) fun r32 =>
        unP r32 fun (x32 : Option Addr) =>
        mAnd (
          mLdL r5 fun (x29_30 : Sl) =>
          mLdI .i64 x7 fun (x31_31 : Int) =>
          mNew #[.int .i64 x31_31, .int .i64 (0 : Int), .pointer x32] 102 fun (x34_32 : Addr) =>
          mApp 102 3 24 #[.int .i64 (0 : Int), .int .i64 (0 : Int), .pointer none] x29_30 ⟨(some x34_32), 1, 1⟩ fun (x35_33 : Sl) =>
          mSt r5 (.slice x35_33.p x35_33.n x35_33.c) <|
          K_ready_New_9 r5 t20 x7 t18 t19 t20) (
          mLdI .i64 x7 fun (x31 : Int) =>
          mAnd (
            mLdL r5 fun (x29_24 : Sl) =>
            mNew #[.int .i64 x31, .int .i64 (0 : Int), .pointer x32] 102 fun (x34_25 : Addr) =>
            mApp 102 3 24 #[.int .i64 (0 : Int), .int .i64 (0 : Int), .pointer none] x29_24 ⟨(some x34_25), 1, 1⟩ fun (x35_26 : Sl) =>
            mSt r5 (.slice x35_26.p x35_26.n x35_26.c) <|
            K_ready_New_9 r5 t20 x7 t18 t19 t20) (
            mNew #[.int .i64 x31, .int .i64 (0 : Int), .pointer x32] 102 fun (x34 : Addr) =>
            mLdL r5 fun (x29 : Sl) =>
            mApp 102 3 24 #[.int .i64 (0 : Int), .int .i64 (0 : Int), .pointer none] x29 ⟨(some x34), 1, 1⟩ fun (x35 : Sl) =>
            mSt r5 (.slice x35.p x35.n x35.c) <|
            K_ready_New_9 r5 t20 x7 t18 t19 t20))))) (
    mRet (.tuple #[.pointer (some r5), .int .i64 (0 : Int)]))
def B_ready_New_9 (r5 : Addr) (i6 : Int) (t7 : Addr) (t18 : Sl) (t19 : Int) (t20 : Int) : M Value :=
  mLdM (r5.add 1) fun (x41 : Option Nat) =>
  mLdI .i64 t7 fun (x43 : Int) =>
  mNilM x41 fun (m79 : Nat) =>
  mMapSet .i64 m79 x43 (.int .i64 i6) <|
  K_ready_New_6 r5 t18 t19 (IntKind.i64.wrap (t20 + (1 : Int)))
theorem E_ready_New (c0_0 : Int) (c0_1 : Int) (c0_2 : Int) (c0_3 : Int) (c0_4 : Sl) (c0_5 : Int) (c0_6 : Sl) (c0_7 : Sl) (c0_8 : Sl) (c0_9 : Sl) : ev Try.prog 21 Try.f21.results.toList C_ready_New D_ready_New 400 false [.code (bodyOf Try.f21)] (List.map some [.agg #[.int .i64 c0_0, .int .i64 c0_1, .int .i64 c0_2, .int .i64 c0_3, .slice c0_4.p c0_4.n c0_4.c, .int .i64 c0_5, .slice c0_6.p c0_6.n c0_6.c, .slice c0_7.p c0_7.n c0_7.c, .slice c0_8.p c0_8.n c0_8.c, .slice c0_9.p c0_9.n c0_9.c]] ++ List.replicate (Try.f21.ntmps - List.length ([.agg #[.int .i64 c0_0, .int .i64 c0_1, .int .i64 c0_2, .int .i64 c0_3, .slice c0_4.p c0_4.n c0_4.c, .int .i64 c0_5, .slice c0_6.p c0_6.n c0_6.c, .slice c0_7.p c0_7.n c0_7.c, .slice c0_8.p c0_8.n c0_8.c, .slice c0_9.p c0_9.n c0_9.c]] : List Value)) none) = B_ready_New c0_0 c0_1 c0_2 c0_3 c0_4 c0_5 c0_6 c0_7 c0_8 c0_9 := by kernel_rfl
theorem S_ready_New (c0_0 : Int) (c0_1 : Int) (c0_2 : Int) (c0_3 : Int) (c0_4 : Sl) (c0_5 : Int) (c0_6 : Sl) (c0_7 : Sl) (c0_8 : Sl) (c0_9 : Sl) {h : Hp} {Q : Value → Hp → Prop} (hb : B_ready_New c0_0 c0_1 c0_2 c0_3 c0_4 c0_5 c0_6 c0_7 c0_8 c0_9 h Q) : N_ready_New c0_0 c0_1 c0_2 c0_3 c0_4 c0_5 c0_6 c0_7 c0_8 c0_9 h Q :=
  Nf.of_ev Try.call21 Try.func21 (c := bodyOf Try.f21) rfl mixed C_ready_New D_ready_New 400 (args := [.agg #[.int .i64 c0_0, .int .i64 c0_1, .int .i64 c0_2, .int .i64 c0_3, .slice c0_4.p c0_4.n c0_4.c, .int .i64 c0_5, .slice c0_6.p c0_6.n c0_6.c, .slice c0_7.p c0_7.n c0_7.c, .slice c0_8.p c0_8.n c0_8.c, .slice c0_9.p c0_9.n c0_9.c]]) (by rw [E_ready_New]; exact hb)
theorem E_ready_New_6 (r5 : Addr) (t18 : Sl) (t19 : Int) (t20 : Int) : ev Try.prog 21 Try.f21.results.toList C_ready_New D_ready_New 400 true (todoOf Try.f21 6) (T_ready_New_6 r5 t18 t19 t20) = B_ready_New_6 r5 t18 t19 t20 := by kernel_rfl
theorem S_ready_New_6 (r5 : Addr) (t18 : Sl) (t19 : Int) (t20 : Int) {h : Hp} {Q : Value → Hp → Prop} (hb : B_ready_New_6 r5 t18 t19 t20 h Q) : K_ready_New_6 r5 t18 t19 t20 h Q :=
  Cut.of_ev Try.func21 mixed C_ready_New D_ready_New 400 (by rw [E_ready_New_6]; exact hb)
theorem E_ready_New_9 (r5 : Addr) (i6 : Int) (t7 : Addr) (t18 : Sl) (t19 : Int) (t20 : Int) : ev Try.prog 21 Try.f21.results.toList C_ready_New D_ready_New 400 true (todoOf Try.f21 9) (T_ready_New_9 r5 i6 t7 t18 t19 t20) = B_ready_New_9 r5 i6 t7 t18 t19 t20 := by kernel_rfl
theorem S_ready_New_9 (r5 : Addr) (i6 : Int) (t7 : Addr) (t18 : Sl) (t19 : Int) (t20 : Int) {h : Hp} {Q : Value → Hp → Prop} (hb : B_ready_New_9 r5 i6 t7 t18 t19 t20 h Q) : K_ready_New_9 r5 i6 t7 t18 t19 t20 h Q :=
  Cut.of_ev Try.func21 mixed C_ready_New D_ready_New 400 (by rw [E_ready_New_9]; exact hb)
def C_ready_Ready_Take : List (Nat × List Nat) := []
def D_ready_Ready_Take : List (Nat × List Nat) := []
def B_ready_Ready_Take (r0 : Option Addr) : M Value :=
  mNew #[.int .i64 (0 : Int), .int .i64 (0 : Int), .int .i64 (0 : Int)] 51 fun (x2 : Addr) =>
  mBind (N_ready_Ready_First r0) fun r10 =>
  unT r10 fun x10l =>
  unC x10l fun x10v0 x10l0 =>
  unA x10v0 fun x10_0l =>
  unC x10_0l fun x10_0v0 x10_0l0 =>
  unI .i64 x10_0v0 fun (x10_0_0 : Int) =>
  unC x10_0l0 fun x10_0v1 x10_0l1 =>
  unI .i64 x10_0v1 fun (x10_0_1 : Int) =>
  unC x10_0l1 fun x10_0v2 x10_0l2 =>
  unI .i64 x10_0v2 fun (x10_0_2 : Int) =>
  unE x10_0l2 <|
  unC x10l0 fun x10v1 x10l1 =>
  unI .i64 x10v1 fun (x10_1 : Int) =>
  unC x10l1 fun x10v2 x10l2 =>
  unB x10v2 fun (x10_2 : Bool) =>
  unE x10l2 <|
  mNew #[.int .i64 (0 : Int), .int .i64 (0 : Int), .int .i64 (0 : Int)] 51 fun (x4 : Addr) =>
  mSt x4 (.int .i64 x10_0_0) <|
  mSt (x4.add 1) (.int .i64 x10_0_1) <|
  mSt (x4.add 2) (.int .i64 x10_0_2) <|
  mIf (!x10_2) (
    mSt x2 (.int .i64 (0 : Int)) <|
    mSt (x2.add 1) (.int .i64 (0 : Int)) <|
    mSt (x2.add 2) (.int .i64 (0 : Int)) <|
    mLdI .i64 x2 fun (q6_0 : Int) =>
    mLdI .i64 (x2.add 1) fun (q6_1 : Int) =>
    mLdI .i64 (x2.add 2) fun (q6_2 : Int) =>
    mRet (.tuple #[.agg #[.int .i64 q6_0, .int .i64 q6_1, .int .i64 q6_2], .bool false])) (
    mLdI .i64 x4 fun (x19 : Int) =>
    mBind (N_ready_Ready_at r0 x19) fun r20 =>
    unP r20 fun (x20 : Option Addr) =>
    mNil x20 fun (a11 : Addr) =>
    mLdP (a11.add 2) fun (x24 : Option Addr) =>
    mBind (N_ring_Ring_ready_Job_Take x24) fun r25 =>
    unT r25 fun x25l =>
    unC x25l fun x25v0 x25l0 =>
    unA x25v0 fun x25_0l =>
    unC x25_0l fun x25_0v0 x25_0l0 =>
    unI .i64 x25_0v0 fun (_x25_0_0 : Int) =>
    unC x25_0l0 fun x25_0v1 x25_0l1 =>
    unI .i64 x25_0v1 fun (_x25_0_1 : Int) =>
    unC x25_0l1 fun x25_0v2 x25_0l2 =>
    unI .i64 x25_0v2 fun (_x25_0_2 : Int) =>
    unE x25_0l2 <|
    unC x25l0 fun x25v1 x25l1 =>
    unI .i64 x25v1 fun (_x25_1 : Int) =>
    unE x25l1 <|
    mNil x20 fun (a16 : Addr) =>
    mLdP (a16.add 2) fun (x29 : Option Addr) =>
    mBind (N_ring_Ring_ready_Job_Len x29) fun r30 =>
    unI .i64 r30 fun (x30 : Int) =>
    mIf (x30 == (0 : Int)) (
      mNil r0 fun (a21 : Addr) =>
      mLdP (a21.add 2) fun (x35 : Option Addr) =>
      mBind (N_band_Set_Drop x35 x10_1) fun r37 =>
      unB r37 fun (_x37 : Bool) =>
      mLdI .i64 x4 fun (x38_0 : Int) =>
      mLdI .i64 (x4.add 1) fun (x38_1 : Int) =>
      mLdI .i64 (x4.add 2) fun (x38_2 : Int) =>
      mSt x2 (.int .i64 x38_0) <|
      mSt (x2.add 1) (.int .i64 x38_1) <|
      mSt (x2.add 2) (.int .i64 x38_2) <|
      mLdI .i64 x2 fun (q27_0 : Int) =>
      mLdI .i64 (x2.add 1) fun (q27_1 : Int) =>
      mLdI .i64 (x2.add 2) fun (q27_2 : Int) =>
      mRet (.tuple #[.agg #[.int .i64 q27_0, .int .i64 q27_1, .int .i64 q27_2], .bool true])) (
      mLdI .i64 x4 fun (x38_28_0 : Int) =>
      mLdI .i64 (x4.add 1) fun (x38_28_1 : Int) =>
      mLdI .i64 (x4.add 2) fun (x38_28_2 : Int) =>
      mSt x2 (.int .i64 x38_28_0) <|
      mSt (x2.add 1) (.int .i64 x38_28_1) <|
      mSt (x2.add 2) (.int .i64 x38_28_2) <|
      mLdI .i64 x2 fun (q30_0 : Int) =>
      mLdI .i64 (x2.add 1) fun (q30_1 : Int) =>
      mLdI .i64 (x2.add 2) fun (q30_2 : Int) =>
      mRet (.tuple #[.agg #[.int .i64 q30_0, .int .i64 q30_1, .int .i64 q30_2], .bool true])))
theorem E_ready_Ready_Take (r0 : Option Addr) : ev Try.prog 22 Try.f22.results.toList C_ready_Ready_Take D_ready_Ready_Take 400 false [.code (bodyOf Try.f22)] (List.map some [.pointer r0] ++ List.replicate (Try.f22.ntmps - List.length ([.pointer r0] : List Value)) none) = B_ready_Ready_Take r0 := by kernel_rfl
theorem S_ready_Ready_Take (r0 : Option Addr) {h : Hp} {Q : Value → Hp → Prop} (hb : B_ready_Ready_Take r0 h Q) : N_ready_Ready_Take r0 h Q :=
  Nf.of_ev Try.call22 Try.func22 (c := bodyOf Try.f22) rfl mixed C_ready_Ready_Take D_ready_Ready_Take 400 (args := [.pointer r0]) (by rw [E_ready_Ready_Take]; exact hb)
def C_ready_Ready_Release : List (Nat × List Nat) := [(9, [0, 6, 8, 9, 10])]
def D_ready_Ready_Release : List (Nat × List Nat) := [(8, []), (10, [])]
def T_ready_Ready_Release_9 (r0 : Option Addr) (t6 : Addr) (q8 : Option Addr) (j9 : Addr) (e10 : Int) : Env := mkEnv [(0, .pointer r0), (6, .pointer (some t6)), (8, .pointer q8), (9, .pointer (some j9)), (10, .int .i64 e10)] 55 0
def K_ready_Ready_Release_9 (r0 : Option Addr) (t6 : Addr) (q8 : Option Addr) (j9 : Addr) (e10 : Int) : M Value := Cut Try.prog 23 (todoOf Try.f23 9) (T_ready_Ready_Release_9 r0 t6 q8 j9 e10)
def B_ready_Ready_Release (r0 : Option Addr) (task1 : Int) (at2 : Int) : M Value :=
  mNew #[.int .i64 (0 : Int), .int .i64 (0 : Int), .int .i64 (0 : Int)] 51 fun (x6 : Addr) =>
  mBind (N_ready_Ready_at r0 task1) fun r13 =>
  unP r13 fun (x13 : Option Addr) =>
  mIf r0.isNone (
    mSt x6 (.int .i64 (0 : Int)) <|
    mSt (x6.add 1) (.int .i64 (0 : Int)) <|
    mSt (x6.add 2) (.int .i64 (0 : Int)) <|
    mLdI .i64 x6 fun (q4_0 : Int) =>
    mLdI .i64 (x6.add 1) fun (q4_1 : Int) =>
    mLdI .i64 (x6.add 2) fun (q4_2 : Int) =>
    mRet (.tuple #[.agg #[.int .i64 q4_0, .int .i64 q4_1, .int .i64 q4_2], .int .i64 (1 : Int)])) (
    mIf x13.isNone (
      mSt x6 (.int .i64 (0 : Int)) <|
      mSt (x6.add 1) (.int .i64 (0 : Int)) <|
      mSt (x6.add 2) (.int .i64 (0 : Int)) <|
      mLdI .i64 x6 fun (q6_0 : Int) =>
      mLdI .i64 (x6.add 1) fun (q6_1 : Int) =>
      mLdI .i64 (x6.add 2) fun (q6_2 : Int) =>
      mRet (.tuple #[.agg #[.int .i64 q6_0, .int .i64 q6_1, .int .i64 q6_2], .int .i64 (6 : Int)])) (
      mNil x13 fun (a8 : Addr) =>
      mLdI .i64 (a8.add 1) fun (x26 : Int) =>
      mNew #[.int .i64 (0 : Int), .int .i64 (0 : Int), .int .i64 (0 : Int)] 51 fun (x9 : Addr) =>
      mSt x9 (.int .i64 task1) <|
      mSt (x9.add 1) (.int .i64 x26) <|
      mSt (x9.add 2) (.int .i64 at2) <|
      mNil x13 fun (a14 : Addr) =>
      mLdI .i64 (a14.add 1) fun (x32 : Int) =>
      mNil x13 fun (a18 : Addr) =>
      mSt (a18.add 1) (.int .i64 (IntKind.i64.wrap (x32 + (1 : Int)))) <|
      mNil x13 fun (a22 : Addr) =>
      mAnd (
        mLdP (a22.add 2) fun (x39_27 : Option Addr) =>
        mLdI .i64 x9 fun (x40_28_0 : Int) =>
        mLdI .i64 (x9.add 1) fun (x40_28_1 : Int) =>
        mLdI .i64 (x9.add 2) fun (x40_28_2 : Int) =>
        mBind (N_ring_Ring_ready_Job_Put x39_27 x40_28_0 x40_28_1 x40_28_2) fun r41_29 =>
        unI .i64 r41_29 fun (x41_29 : Int) =>
        K_ready_Ready_Release_9 r0 x6 x13 x9 x41_29) (
        mLdI .i64 x9 fun (x40_0 : Int) =>
        mLdI .i64 (x9.add 1) fun (x40_1 : Int) =>
        mLdI .i64 (x9.add 2) fun (x40_2 : Int) =>
        mLdP (a22.add 2) fun (x39 : Option Addr) =>
        mBind (N_ring_Ring_ready_Job_Put x39 x40_0 x40_1 x40_2) fun r41 =>
        unI .i64 r41 fun (x41 : Int) =>
        K_ready_Ready_Release_9 r0 x6 x13 x9 x41)))
def B_ready_Ready_Release_9 (r0 : Option Addr) (t6 : Addr) (q8 : Option Addr) (j9 : Addr) (e10 : Int) : M Value :=
  mIf (e10 == (0 : Int)) (
    mNil r0 fun (a31 : Addr) =>
    mNil q8 fun (a34 : Addr) =>
    mAnd (
      mLdP (a31.add 2) fun (x47_42 : Option Addr) =>
      mLdI .i64 a34 fun (x51_43 : Int) =>
      mBind (N_band_Set_Put x47_42 x51_43) fun r52_44 =>
      unB r52_44 fun (_x52_44 : Bool) =>
      mLdI .i64 j9 fun (x53_45_0 : Int) =>
      mLdI .i64 (j9.add 1) fun (x53_45_1 : Int) =>
      mLdI .i64 (j9.add 2) fun (x53_45_2 : Int) =>
      mSt t6 (.int .i64 x53_45_0) <|
      mSt (t6.add 1) (.int .i64 x53_45_1) <|
      mSt (t6.add 2) (.int .i64 x53_45_2) <|
      mLdI .i64 t6 fun (q47_0 : Int) =>
      mLdI .i64 (t6.add 1) fun (q47_1 : Int) =>
      mLdI .i64 (t6.add 2) fun (q47_2 : Int) =>
      mRet (.tuple #[.agg #[.int .i64 q47_0, .int .i64 q47_1, .int .i64 q47_2], .int .i64 e10])) (
      mLdI .i64 a34 fun (x51 : Int) =>
      mLdP (a31.add 2) fun (x47 : Option Addr) =>
      mBind (N_band_Set_Put x47 x51) fun r52 =>
      unB r52 fun (_x52 : Bool) =>
      mLdI .i64 j9 fun (x53_0 : Int) =>
      mLdI .i64 (j9.add 1) fun (x53_1 : Int) =>
      mLdI .i64 (j9.add 2) fun (x53_2 : Int) =>
      mSt t6 (.int .i64 x53_0) <|
      mSt (t6.add 1) (.int .i64 x53_1) <|
      mSt (t6.add 2) (.int .i64 x53_2) <|
      mLdI .i64 t6 fun (q41_0 : Int) =>
      mLdI .i64 (t6.add 1) fun (q41_1 : Int) =>
      mLdI .i64 (t6.add 2) fun (q41_2 : Int) =>
      mRet (.tuple #[.agg #[.int .i64 q41_0, .int .i64 q41_1, .int .i64 q41_2], .int .i64 e10]))) (
    mLdI .i64 j9 fun (x53_48_0 : Int) =>
    mLdI .i64 (j9.add 1) fun (x53_48_1 : Int) =>
    mLdI .i64 (j9.add 2) fun (x53_48_2 : Int) =>
    mSt t6 (.int .i64 x53_48_0) <|
    mSt (t6.add 1) (.int .i64 x53_48_1) <|
    mSt (t6.add 2) (.int .i64 x53_48_2) <|
    mLdI .i64 t6 fun (q50_0 : Int) =>
    mLdI .i64 (t6.add 1) fun (q50_1 : Int) =>
    mLdI .i64 (t6.add 2) fun (q50_2 : Int) =>
    mRet (.tuple #[.agg #[.int .i64 q50_0, .int .i64 q50_1, .int .i64 q50_2], .int .i64 e10]))
theorem E_ready_Ready_Release (r0 : Option Addr) (task1 : Int) (at2 : Int) : ev Try.prog 23 Try.f23.results.toList C_ready_Ready_Release D_ready_Ready_Release 400 false [.code (bodyOf Try.f23)] (List.map some [.pointer r0, .int .i64 task1, .int .i64 at2] ++ List.replicate (Try.f23.ntmps - List.length ([.pointer r0, .int .i64 task1, .int .i64 at2] : List Value)) none) = B_ready_Ready_Release r0 task1 at2 := by kernel_rfl
theorem S_ready_Ready_Release (r0 : Option Addr) (task1 : Int) (at2 : Int) {h : Hp} {Q : Value → Hp → Prop} (hb : B_ready_Ready_Release r0 task1 at2 h Q) : N_ready_Ready_Release r0 task1 at2 h Q :=
  Nf.of_ev Try.call23 Try.func23 (c := bodyOf Try.f23) rfl mixed C_ready_Ready_Release D_ready_Ready_Release 400 (args := [.pointer r0, .int .i64 task1, .int .i64 at2]) (by rw [E_ready_Ready_Release]; exact hb)
theorem E_ready_Ready_Release_9 (r0 : Option Addr) (t6 : Addr) (q8 : Option Addr) (j9 : Addr) (e10 : Int) : ev Try.prog 23 Try.f23.results.toList C_ready_Ready_Release D_ready_Ready_Release 400 true (todoOf Try.f23 9) (T_ready_Ready_Release_9 r0 t6 q8 j9 e10) = B_ready_Ready_Release_9 r0 t6 q8 j9 e10 := by kernel_rfl
theorem S_ready_Ready_Release_9 (r0 : Option Addr) (t6 : Addr) (q8 : Option Addr) (j9 : Addr) (e10 : Int) {h : Hp} {Q : Value → Hp → Prop} (hb : B_ready_Ready_Release_9 r0 t6 q8 j9 e10 h Q) : K_ready_Ready_Release_9 r0 t6 q8 j9 e10 h Q :=
  Cut.of_ev Try.func23 mixed C_ready_Ready_Release D_ready_Ready_Release 400 (by rw [E_ready_Ready_Release_9]; exact hb)
def C_ready_Ready_Len : List (Nat × List Nat) := [(4, [0, 3, 11, 12])]
def D_ready_Ready_Len : List (Nat × List Nat) := []
def T_ready_Ready_Len_4 (r0 : Option Addr) (n3 : Int) (t11 : Int) (t12 : Int) : Env := mkEnv [(0, .pointer r0), (3, .int .i64 n3), (11, .int .i64 t11), (12, .int .i64 t12)] 28 0
def K_ready_Ready_Len_4 (r0 : Option Addr) (n3 : Int) (t11 : Int) (t12 : Int) : M Value := Cut Try.prog 24 (todoOf Try.f24 4) (T_ready_Ready_Len_4 r0 n3 t11 t12)
def B_ready_Ready_Len (r0 : Option Addr) : M Value :=
  mIf (!r0.isNone) (
    mNil r0 fun (a2 : Addr) =>
    mLdL a2 fun (x10 : Sl) =>
    K_ready_Ready_Len_4 r0 (0 : Int) (x10.n : Int) (0 : Int)) (
    mRet (.int .i64 (0 : Int)))
def B_ready_Ready_Len_4 (r0 : Option Addr) (n3 : Int) (t11 : Int) (t12 : Int) : M Value :=
  mIf (decide (t12 < t11)) (
    mNil r0 fun (a6 : Addr) =>
    mLdL a6 fun (x19 : Sl) =>
    mIdx x19 t12 3 fun (x21 : Addr) =>
    mLdP (x21.add 2) fun (x23 : Option Addr) =>
    mBind (N_ring_Ring_ready_Job_Len x23) fun r24 =>
    unI .i64 r24 fun (x24 : Int) =>
    K_ready_Ready_Len_4 r0 (IntKind.i64.wrap (n3 + x24)) t11 (IntKind.i64.wrap (t12 + (1 : Int)))) (
    mRet (.int .i64 n3))
theorem E_ready_Ready_Len (r0 : Option Addr) : ev Try.prog 24 Try.f24.results.toList C_ready_Ready_Len D_ready_Ready_Len 400 false [.code (bodyOf Try.f24)] (List.map some [.pointer r0] ++ List.replicate (Try.f24.ntmps - List.length ([.pointer r0] : List Value)) none) = B_ready_Ready_Len r0 := by kernel_rfl
theorem S_ready_Ready_Len (r0 : Option Addr) {h : Hp} {Q : Value → Hp → Prop} (hb : B_ready_Ready_Len r0 h Q) : N_ready_Ready_Len r0 h Q :=
  Nf.of_ev Try.call24 Try.func24 (c := bodyOf Try.f24) rfl mixed C_ready_Ready_Len D_ready_Ready_Len 400 (args := [.pointer r0]) (by rw [E_ready_Ready_Len]; exact hb)
theorem E_ready_Ready_Len_4 (r0 : Option Addr) (n3 : Int) (t11 : Int) (t12 : Int) : ev Try.prog 24 Try.f24.results.toList C_ready_Ready_Len D_ready_Ready_Len 400 true (todoOf Try.f24 4) (T_ready_Ready_Len_4 r0 n3 t11 t12) = B_ready_Ready_Len_4 r0 n3 t11 t12 := by kernel_rfl
theorem S_ready_Ready_Len_4 (r0 : Option Addr) (n3 : Int) (t11 : Int) (t12 : Int) {h : Hp} {Q : Value → Hp → Prop} (hb : B_ready_Ready_Len_4 r0 n3 t11 t12 h Q) : K_ready_Ready_Len_4 r0 n3 t11 t12 h Q :=
  Cut.of_ev Try.func24 mixed C_ready_Ready_Len D_ready_Ready_Len 400 (by rw [E_ready_Ready_Len_4]; exact hb)
def C_ready_Ready_Waiting : List (Nat × List Nat) := []
def D_ready_Ready_Waiting : List (Nat × List Nat) := []
def B_ready_Ready_Waiting (r0 : Option Addr) (task1 : Int) : M Value :=
  mBind (N_ready_Ready_at r0 task1) fun r8 =>
  unP r8 fun (x8 : Option Addr) =>
  mIf (!x8.isNone) (
    mNil x8 fun (a3 : Addr) =>
    mLdP (a3.add 2) fun (x14 : Option Addr) =>
    mBind (N_ring_Ring_ready_Job_All x14) fun r15 =>
    unL r15 fun (x15 : Sl) =>
    mRet (.slice x15.p x15.n x15.c)) (
    mRet (.slice none (0) (0)))
theorem E_ready_Ready_Waiting (r0 : Option Addr) (task1 : Int) : ev Try.prog 25 Try.f25.results.toList C_ready_Ready_Waiting D_ready_Ready_Waiting 400 false [.code (bodyOf Try.f25)] (List.map some [.pointer r0, .int .i64 task1] ++ List.replicate (Try.f25.ntmps - List.length ([.pointer r0, .int .i64 task1] : List Value)) none) = B_ready_Ready_Waiting r0 task1 := by kernel_rfl
theorem S_ready_Ready_Waiting (r0 : Option Addr) (task1 : Int) {h : Hp} {Q : Value → Hp → Prop} (hb : B_ready_Ready_Waiting r0 task1 h Q) : N_ready_Ready_Waiting r0 task1 h Q :=
  Nf.of_ev Try.call25 Try.func25 (c := bodyOf Try.f25) rfl mixed C_ready_Ready_Waiting D_ready_Ready_Waiting 400 (args := [.pointer r0, .int .i64 task1]) (by rw [E_ready_Ready_Waiting]; exact hb)
def C_ready_Ready_First : List (Nat × List Nat) := []
def D_ready_Ready_First : List (Nat × List Nat) := []
def B_ready_Ready_First (r0 : Option Addr) : M Value :=
  mNew #[.int .i64 (0 : Int), .int .i64 (0 : Int), .int .i64 (0 : Int)] 51 fun (x2 : Addr) =>
  mIf r0.isNone (
    mSt x2 (.int .i64 (0 : Int)) <|
    mSt (x2.add 1) (.int .i64 (0 : Int)) <|
    mSt (x2.add 2) (.int .i64 (0 : Int)) <|
    mLdI .i64 x2 fun (q3_0 : Int) =>
    mLdI .i64 (x2.add 1) fun (q3_1 : Int) =>
    mLdI .i64 (x2.add 2) fun (q3_2 : Int) =>
    mRet (.tuple #[.agg #[.int .i64 q3_0, .int .i64 q3_1, .int .i64 q3_2], .int .i64 (0 : Int), .bool false])) (
    mNil r0 fun (a5 : Addr) =>
    mLdP (a5.add 2) fun (x14 : Option Addr) =>
    mBind (N_band_Set_Top x14) fun r15 =>
    unI .i64 r15 fun (x15 : Int) =>
    mIf (decide (x15 < (0 : Int))) (
      mSt x2 (.int .i64 (0 : Int)) <|
      mSt (x2.add 1) (.int .i64 (0 : Int)) <|
      mSt (x2.add 2) (.int .i64 (0 : Int)) <|
      mLdI .i64 x2 fun (q10_0 : Int) =>
      mLdI .i64 (x2.add 1) fun (q10_1 : Int) =>
      mLdI .i64 (x2.add 2) fun (q10_2 : Int) =>
      mRet (.tuple #[.agg #[.int .i64 q10_0, .int .i64 q10_1, .int .i64 q10_2], .int .i64 (0 : Int), .bool false])) (
      mNil r0 fun (a12 : Addr) =>
      mLdM (a12.add 1) fun (x24 : Option Nat) =>
      mNilM x24 fun (m16 : Nat) =>
      mMapGet .i64 m16 x15 (.int .i64 (0 : Int)) fun x26w (_x26b : Bool) =>
      unI .i64 x26w fun (x26 : Int) =>
      mBind (N_ready_Ready_at r0 x26) fun r27 =>
      unP r27 fun (x27 : Option Addr) =>
      mNil x27 fun (a19 : Addr) =>
      mLdP (a19.add 2) fun (x30 : Option Addr) =>
      mBind (N_ring_Ring_ready_Job_First x30) fun r31 =>
      unT r31 fun x31l =>
      unC x31l fun x31v0 x31l0 =>
      unA x31v0 fun x31_0l =>
      unC x31_0l fun x31_0v0 x31_0l0 =>
      unI .i64 x31_0v0 fun (x31_0_0 : Int) =>
      unC x31_0l0 fun x31_0v1 x31_0l1 =>
      unI .i64 x31_0v1 fun (x31_0_1 : Int) =>
      unC x31_0l1 fun x31_0v2 x31_0l2 =>
      unI .i64 x31_0v2 fun (x31_0_2 : Int) =>
      unE x31_0l2 <|
      unC x31l0 fun x31v1 x31l1 =>
      unB x31v1 fun (x31_1 : Bool) =>
      unE x31l1 <|
      mNew #[.int .i64 (0 : Int), .int .i64 (0 : Int), .int .i64 (0 : Int)] 51 fun (x6 : Addr) =>
      mSt x6 (.int .i64 x31_0_0) <|
      mSt (x6.add 1) (.int .i64 x31_0_1) <|
      mSt (x6.add 2) (.int .i64 x31_0_2) <|
      mLdI .i64 x6 fun (x34_0 : Int) =>
      mLdI .i64 (x6.add 1) fun (x34_1 : Int) =>
      mLdI .i64 (x6.add 2) fun (x34_2 : Int) =>
      mSt x2 (.int .i64 x34_0) <|
      mSt (x2.add 1) (.int .i64 x34_1) <|
      mSt (x2.add 2) (.int .i64 x34_2) <|
      mLdI .i64 x2 fun (q27_0 : Int) =>
      mLdI .i64 (x2.add 1) fun (q27_1 : Int) =>
      mLdI .i64 (x2.add 2) fun (q27_2 : Int) =>
      mRet (.tuple #[.agg #[.int .i64 q27_0, .int .i64 q27_1, .int .i64 q27_2], .int .i64 x15, .bool x31_1])))
theorem E_ready_Ready_First (r0 : Option Addr) : ev Try.prog 27 Try.f27.results.toList C_ready_Ready_First D_ready_Ready_First 400 false [.code (bodyOf Try.f27)] (List.map some [.pointer r0] ++ List.replicate (Try.f27.ntmps - List.length ([.pointer r0] : List Value)) none) = B_ready_Ready_First r0 := by kernel_rfl
theorem S_ready_Ready_First (r0 : Option Addr) {h : Hp} {Q : Value → Hp → Prop} (hb : B_ready_Ready_First r0 h Q) : N_ready_Ready_First r0 h Q :=
  Nf.of_ev Try.call27 Try.func27 (c := bodyOf Try.f27) rfl mixed C_ready_Ready_First D_ready_Ready_First 400 (args := [.pointer r0]) (by rw [E_ready_Ready_First]; exact hb)
def C_band_New : List (Nat × List Nat) := [(3, [3, 8, 9, 10])]
def D_band_New : List (Nat × List Nat) := []
def T_band_New_3 (s3 : Addr) (t8 : Sl) (t9 : Int) (t10 : Int) : Env := mkEnv [(3, .pointer (some s3)), (8, .slice t8.p t8.n t8.c), (9, .int .i64 t9), (10, .int .i64 t10)] 19 0
def K_band_New_3 (s3 : Addr) (t8 : Sl) (t9 : Int) (t10 : Int) : M Value := Cut Try.prog 43 (todoOf Try.f43 3) (T_band_New_3 s3 t8 t9 t10)
def B_band_New (l0 : Sl) : M Value :=
  mNew #[.int .u64 (0 : Int), .int .u64 (0 : Int)] 117 fun (x7 : Addr) =>
  K_band_New_3 x7 l0 (l0.n : Int) (0 : Int)
def B_band_New_3 (s3 : Addr) (t8 : Sl) (t9 : Int) (t10 : Int) : M Value :=
  mIf (decide (t10 < t9)) (
    mIdx t8 t10 1 fun (x12 : Addr) =>
    mLdI .i64 x12 fun (x13 : Int) =>
    mBind (N_band_Set_Put (some s3) x13) fun r16 =>
    unB r16 fun (_x16 : Bool) =>
    K_band_New_3 s3 t8 t9 (IntKind.i64.wrap (t10 + (1 : Int)))) (
    mRet (.pointer (some s3)))
theorem E_band_New (l0 : Sl) : ev Try.prog 43 Try.f43.results.toList C_band_New D_band_New 400 false [.code (bodyOf Try.f43)] (List.map some [.slice l0.p l0.n l0.c] ++ List.replicate (Try.f43.ntmps - List.length ([.slice l0.p l0.n l0.c] : List Value)) none) = B_band_New l0 := by kernel_rfl
theorem S_band_New (l0 : Sl) {h : Hp} {Q : Value → Hp → Prop} (hb : B_band_New l0 h Q) : N_band_New l0 h Q :=
  Nf.of_ev Try.call43 Try.func43 (c := bodyOf Try.f43) rfl mixed C_band_New D_band_New 400 (args := [.slice l0.p l0.n l0.c]) (by rw [E_band_New]; exact hb)
theorem E_band_New_3 (s3 : Addr) (t8 : Sl) (t9 : Int) (t10 : Int) : ev Try.prog 43 Try.f43.results.toList C_band_New D_band_New 400 true (todoOf Try.f43 3) (T_band_New_3 s3 t8 t9 t10) = B_band_New_3 s3 t8 t9 t10 := by kernel_rfl
theorem S_band_New_3 (s3 : Addr) (t8 : Sl) (t9 : Int) (t10 : Int) {h : Hp} {Q : Value → Hp → Prop} (hb : B_band_New_3 s3 t8 t9 t10 h Q) : K_band_New_3 s3 t8 t9 t10 h Q :=
  Cut.of_ev Try.func43 mixed C_band_New D_band_New 400 (by rw [E_band_New_3]; exact hb)
def C_ring_New_ready_Job : List (Nat × List Nat) := []
def D_ring_New_ready_Job : List (Nat × List Nat) := []
def B_ring_New_ready_Job (room0 : Int) : M Value :=
  mIf ((decide (room0 < (0 : Int))) || (decide (room0 > (4096 : Int)))) (
    mRet (.pointer none)) (
    mMake 51 24 #[.int .i64 (0 : Int), .int .i64 (0 : Int), .int .i64 (0 : Int)] room0 room0 fun (x10 : Sl) =>
    mNew #[.slice x10.p x10.n x10.c, .int .i64 (0 : Int), .int .i64 (0 : Int)] 119 fun (x12 : Addr) =>
    mRet (.pointer (some x12)))
theorem E_ring_New_ready_Job (room0 : Int) : ev Try.prog 44 Try.f44.results.toList C_ring_New_ready_Job D_ring_New_ready_Job 400 false [.code (bodyOf Try.f44)] (List.map some [.int .i64 room0] ++ List.replicate (Try.f44.ntmps - List.length ([.int .i64 room0] : List Value)) none) = B_ring_New_ready_Job room0 := by kernel_rfl
theorem S_ring_New_ready_Job (room0 : Int) {h : Hp} {Q : Value → Hp → Prop} (hb : B_ring_New_ready_Job room0 h Q) : N_ring_New_ready_Job room0 h Q :=
  Nf.of_ev Try.call44 Try.func44 (c := bodyOf Try.f44) rfl mixed C_ring_New_ready_Job D_ring_New_ready_Job 400 (args := [.int .i64 room0]) (by rw [E_ring_New_ready_Job]; exact hb)
def C_ready_Ready_at : List (Nat × List Nat) := []
def D_ready_Ready_at : List (Nat × List Nat) := []
def B_ready_Ready_at (r0 : Option Addr) (task1 : Int) : M Value :=
  mBind (mIf (r0.isNone || (decide (task1 < (0 : Int)))) (mRet true) (mNil r0 fun (a2 : Addr) =>
    mLdL a2 fun (x16 : Sl) =>
    mRet (decide (task1 ≥ (x16.n : Int))))) fun (b5 : Bool) =>
  mIf b5 (
    mRet (.pointer none)) (
    mNil r0 fun (a7 : Addr) =>
    mLdL a7 fun (x23 : Sl) =>
    mIdx x23 task1 3 fun (x25 : Addr) =>
    mRet (.pointer (some x25)))
theorem E_ready_Ready_at (r0 : Option Addr) (task1 : Int) : ev Try.prog 45 Try.f45.results.toList C_ready_Ready_at D_ready_Ready_at 400 false [.code (bodyOf Try.f45)] (List.map some [.pointer r0, .int .i64 task1] ++ List.replicate (Try.f45.ntmps - List.length ([.pointer r0, .int .i64 task1] : List Value)) none) = B_ready_Ready_at r0 task1 := by kernel_rfl
theorem S_ready_Ready_at (r0 : Option Addr) (task1 : Int) {h : Hp} {Q : Value → Hp → Prop} (hb : B_ready_Ready_at r0 task1 h Q) : N_ready_Ready_at r0 task1 h Q :=
  Nf.of_ev Try.call45 Try.func45 (c := bodyOf Try.f45) rfl mixed C_ready_Ready_at D_ready_Ready_at 400 (args := [.pointer r0, .int .i64 task1]) (by rw [E_ready_Ready_at]; exact hb)
def C_ring_Ring_ready_Job_Take : List (Nat × List Nat) := []
def D_ring_Ring_ready_Job_Take : List (Nat × List Nat) := [(5, [0, 1, 2, 3]), (6, [0, 1, 2, 3, 4, 5, 6, 7, 8, 9, 10, 11])]
def B_ring_Ring_ready_Job_Take (r0 : Option Addr) : M Value :=
  mNew #[.int .i64 (0 : Int), .int .i64 (0 : Int), .int .i64 (0 : Int)] 51 fun (x2 : Addr) =>
  mNew #[.int .i64 (0 : Int), .int .i64 (0 : Int), .int .i64 (0 : Int)] 51 fun (x4 : Addr) =>
  mBind (N_ring_Ring_ready_Job_First r0) fun r9 =>
  unT r9 fun x9l =>
  unC x9l fun x9v0 x9l0 =>
  unA x9v0 fun x9_0l =>
  unC x9_0l fun x9_0v0 x9_0l0 =>
  unI .i64 x9_0v0 fun (x9_0_0 : Int) =>
  unC x9_0l0 fun x9_0v1 x9_0l1 =>
  unI .i64 x9_0v1 fun (x9_0_1 : Int) =>
  unC x9_0l1 fun x9_0v2 x9_0l2 =>
  unI .i64 x9_0v2 fun (x9_0_2 : Int) =>
  unE x9_0l2 <|
  unC x9l0 fun x9v1 x9l1 =>
  unB x9v1 fun (x9_1 : Bool) =>
  unE x9l1 <|
  mNew #[.int .i64 (0 : Int), .int .i64 (0 : Int), .int .i64 (0 : Int)] 51 fun (x5_4 : Addr) =>
  mSt x5_4 (.int .i64 x9_0_0) <|
  mSt (x5_4.add 1) (.int .i64 x9_0_1) <|
  mSt (x5_4.add 2) (.int .i64 x9_0_2) <|
  mIf (!x9_1) (
    mLdI .i64 x4 fun (x14_0 : Int) =>
    mLdI .i64 (x4.add 1) fun (x14_1 : Int) =>
    mLdI .i64 (x4.add 2) fun (x14_2 : Int) =>
    mSt x2 (.int .i64 x14_0) <|
    mSt (x2.add 1) (.int .i64 x14_1) <|
    mSt (x2.add 2) (.int .i64 x14_2) <|
    mLdI .i64 x2 fun (q8_0 : Int) =>
    mLdI .i64 (x2.add 1) fun (q8_1 : Int) =>
    mLdI .i64 (x2.add 2) fun (q8_2 : Int) =>
    mRet (.tuple #[.agg #[.int .i64 q8_0, .int .i64 q8_1, .int .i64 q8_2], .int .i64 (8 : Int)])) (
    mQ (N_ring_Ring_ready_Job_at r0 (0 : Int)) fun r16 =>
    unP r16 fun (x16 : Option Addr) =>
    mLdI .i64 x4 fun (x17_0 : Int) =>
    mLdI .i64 (x4.add 1) fun (x17_1 : Int) =>
    mLdI .i64 (x4.add 2) fun (x17_2 : Int) =>
    mNil x16 fun (a12 : Addr) =>
    mSt a12 (.int .i64 x17_0) <|
    mSt (a12.add 1) (.int .i64 x17_1) <|
    mSt (a12.add 2) (.int .i64 x17_2) <|
    mNil r0 fun (a15 : Addr) =>
    mLdI .i64 (a15.add 1) fun (x23 : Int) =>
    mNil r0 fun (a19 : Addr) =>
    mLdL a19 fun (x28 : Sl) =>
    mGuard ((x28.n : Int) ≠ 0) <|
    mNil r0 fun (a24 : Addr) =>
    mSt (a24.add 1) (.int .i64 (Int.tmod (IntKind.i64.wrap (x23 + (1 : Int))) (x28.n : Int))) <|
    mNil r0 fun (a28 : Addr) =>
    mLdI .i64 (a28.add 2) fun (x36 : Int) =>
    mNil r0 fun (a32 : Addr) =>
    mSt (a32.add 2) (.int .i64 (IntKind.i64.wrap (x36 - (1 : Int)))) <|
    mLdI .i64 x5_4 fun (x40_0 : Int) =>
    mLdI .i64 (x5_4.add 1) fun (x40_1 : Int) =>
    mLdI .i64 (x5_4.add 2) fun (x40_2 : Int) =>
    mSt x2 (.int .i64 x40_0) <|
    mSt (x2.add 1) (.int .i64 x40_1) <|
    mSt (x2.add 2) (.int .i64 x40_2) <|
    mLdI .i64 x2 fun (q37_0 : Int) =>
    mLdI .i64 (x2.add 1) fun (q37_1 : Int) =>
    mLdI .i64 (x2.add 2) fun (q37_2 : Int) =>
    mRet (.tuple #[.agg #[.int .i64 q37_0, .int .i64 q37_1, .int .i64 q37_2], .int .i64 (0 : Int)]))
theorem E_ring_Ring_ready_Job_Take (r0 : Option Addr) : ev Try.prog 46 Try.f46.results.toList C_ring_Ring_ready_Job_Take D_ring_Ring_ready_Job_Take 400 false [.code (bodyOf Try.f46)] (List.map some [.pointer r0] ++ List.replicate (Try.f46.ntmps - List.length ([.pointer r0] : List Value)) none) = B_ring_Ring_ready_Job_Take r0 := by kernel_rfl
theorem S_ring_Ring_ready_Job_Take (r0 : Option Addr) {h : Hp} {Q : Value → Hp → Prop} (hb : B_ring_Ring_ready_Job_Take r0 h Q) : N_ring_Ring_ready_Job_Take r0 h Q :=
  Nf.of_ev Try.call46 Try.func46 (c := bodyOf Try.f46) rfl mixed C_ring_Ring_ready_Job_Take D_ring_Ring_ready_Job_Take 400 (args := [.pointer r0]) (by rw [E_ring_Ring_ready_Job_Take]; exact hb)
def C_ring_Ring_ready_Job_Len : List (Nat × List Nat) := []
def D_ring_Ring_ready_Job_Len : List (Nat × List Nat) := []
def B_ring_Ring_ready_Job_Len (r0 : Option Addr) : M Value :=
  mIf r0.isNone (
    mRet (.int .i64 (0 : Int))) (
    mNil r0 fun (a2 : Addr) =>
    mLdI .i64 (a2.add 2) fun (x8 : Int) =>
    mRet (.int .i64 x8))
theorem E_ring_Ring_ready_Job_Len (r0 : Option Addr) : ev Try.prog 47 Try.f47.results.toList C_ring_Ring_ready_Job_Len D_ring_Ring_ready_Job_Len 400 false [.code (bodyOf Try.f47)] (List.map some [.pointer r0] ++ List.replicate (Try.f47.ntmps - List.length ([.pointer r0] : List Value)) none) = B_ring_Ring_ready_Job_Len r0 := by kernel_rfl
theorem S_ring_Ring_ready_Job_Len (r0 : Option Addr) {h : Hp} {Q : Value → Hp → Prop} (hb : B_ring_Ring_ready_Job_Len r0 h Q) : N_ring_Ring_ready_Job_Len r0 h Q :=
  Nf.of_ev Try.call47 Try.func47 (c := bodyOf Try.f47) rfl mixed C_ring_Ring_ready_Job_Len D_ring_Ring_ready_Job_Len 400 (args := [.pointer r0]) (by rw [E_ring_Ring_ready_Job_Len]; exact hb)
def C_band_Set_Drop : List (Nat × List Nat) := []
def D_band_Set_Drop : List (Nat × List Nat) := [(3, [])]
def B_band_Set_Drop (s0 : Option Addr) (n1 : Int) : M Value :=
  mBind (N_band_Set_Has s0 n1) fun r7 =>
  unB r7 fun (x7 : Bool) =>
  mIf (!x7) (
    mRet (.bool false)) (
    mGuard ((64 : Int) ≠ 0) <|
    mNil s0 fun (a4 : Addr) =>
    mIdx ⟨(some a4), 2, 2⟩ (IntKind.i64.wrap (Int.tdiv n1 (64 : Int))) 1 fun (x14 : Addr) =>
    mGuard ((64 : Int) ≠ 0) <|
    mGuard (0 ≤ (IntKind.u64.wrap (Int.tmod n1 (64 : Int)))) <|
    mNil s0 fun (a10 : Addr) =>
    mLdI .u64 x14 fun (x15 : Int) =>
    mIdx ⟨(some a10), 2, 2⟩ (IntKind.i64.wrap (Int.tdiv n1 (64 : Int))) 1 fun (x23 : Addr) =>
    mSt x23 (.int .u64 (iandn .u64 x15 (ishl .u64 (1 : Int) (IntKind.u64.wrap (Int.tmod n1 (64 : Int)))))) <|
    mRet (.bool true))
theorem E_band_Set_Drop (s0 : Option Addr) (n1 : Int) : ev Try.prog 48 Try.f48.results.toList C_band_Set_Drop D_band_Set_Drop 400 false [.code (bodyOf Try.f48)] (List.map some [.pointer s0, .int .i64 n1] ++ List.replicate (Try.f48.ntmps - List.length ([.pointer s0, .int .i64 n1] : List Value)) none) = B_band_Set_Drop s0 n1 := by kernel_rfl
theorem S_band_Set_Drop (s0 : Option Addr) (n1 : Int) {h : Hp} {Q : Value → Hp → Prop} (hb : B_band_Set_Drop s0 n1 h Q) : N_band_Set_Drop s0 n1 h Q :=
  Nf.of_ev Try.call48 Try.func48 (c := bodyOf Try.f48) rfl mixed C_band_Set_Drop D_band_Set_Drop 400 (args := [.pointer s0, .int .i64 n1]) (by rw [E_band_Set_Drop]; exact hb)
def C_ring_Ring_ready_Job_Put : List (Nat × List Nat) := []
def D_ring_Ring_ready_Job_Put : List (Nat × List Nat) := [(5, [0, 1, 2, 3, 4, 5, 6, 7])]
def B_ring_Ring_ready_Job_Put (r0 : Option Addr) (x1_0 : Int) (x1_1 : Int) (x1_2 : Int) : M Value :=
  mNew #[.int .i64 x1_0, .int .i64 x1_1, .int .i64 x1_2] 51 fun (x3_1 : Addr) =>
  mIf r0.isNone (
    mRet (.int .i64 (1 : Int))) (
    mNil r0 fun (a3 : Addr) =>
    mLdI .i64 (a3.add 2) fun (x12 : Int) =>
    mNil r0 fun (a7 : Addr) =>
    mLdL a7 fun (x16 : Sl) =>
    mIf (x12 == (x16.n : Int)) (
      mRet (.int .i64 (7 : Int))) (
      mNil r0 fun (a11 : Addr) =>
      mLdI .i64 (a11.add 2) fun (x23 : Int) =>
      mQ (N_ring_Ring_ready_Job_at r0 x23) fun r24 =>
      unP r24 fun (x24 : Option Addr) =>
      mLdI .i64 x3_1 fun (x25_0 : Int) =>
      mLdI .i64 (x3_1.add 1) fun (x25_1 : Int) =>
      mLdI .i64 (x3_1.add 2) fun (x25_2 : Int) =>
      mNil x24 fun (a17 : Addr) =>
      mSt a17 (.int .i64 x25_0) <|
      mSt (a17.add 1) (.int .i64 x25_1) <|
      mSt (a17.add 2) (.int .i64 x25_2) <|
      mNil r0 fun (a20 : Addr) =>
      mLdI .i64 (a20.add 2) fun (x30 : Int) =>
      mNil r0 fun (a24 : Addr) =>
      mSt (a24.add 2) (.int .i64 (IntKind.i64.wrap (x30 + (1 : Int)))) <|
      mRet (.int .i64 (0 : Int))))
theorem E_ring_Ring_ready_Job_Put (r0 : Option Addr) (x1_0 : Int) (x1_1 : Int) (x1_2 : Int) : ev Try.prog 49 Try.f49.results.toList C_ring_Ring_ready_Job_Put D_ring_Ring_ready_Job_Put 400 false [.code (bodyOf Try.f49)] (List.map some [.pointer r0, .agg #[.int .i64 x1_0, .int .i64 x1_1, .int .i64 x1_2]] ++ List.replicate (Try.f49.ntmps - List.length ([.pointer r0, .agg #[.int .i64 x1_0, .int .i64 x1_1, .int .i64 x1_2]] : List Value)) none) = B_ring_Ring_ready_Job_Put r0 x1_0 x1_1 x1_2 := by kernel_rfl
theorem S_ring_Ring_ready_Job_Put (r0 : Option Addr) (x1_0 : Int) (x1_1 : Int) (x1_2 : Int) {h : Hp} {Q : Value → Hp → Prop} (hb : B_ring_Ring_ready_Job_Put r0 x1_0 x1_1 x1_2 h Q) : N_ring_Ring_ready_Job_Put r0 x1_0 x1_1 x1_2 h Q :=
  Nf.of_ev Try.call49 Try.func49 (c := bodyOf Try.f49) rfl mixed C_ring_Ring_ready_Job_Put D_ring_Ring_ready_Job_Put 400 (args := [.pointer r0, .agg #[.int .i64 x1_0, .int .i64 x1_1, .int .i64 x1_2]]) (by rw [E_ring_Ring_ready_Job_Put]; exact hb)
def C_band_Set_Put : List (Nat × List Nat) := []
def D_band_Set_Put : List (Nat × List Nat) := [(3, [])]
def B_band_Set_Put (s0 : Option Addr) (n1 : Int) : M Value :=
  mBind (N_band_Set_may s0 n1) fun r7 =>
  unB r7 fun (x7 : Bool) =>
  mBind (mIf (!x7) (mRet true) (mBind (N_band_Set_Has s0 n1) fun r12 =>
    unB r12 fun (x12 : Bool) =>
    mRet x12)) fun (b3 : Bool) =>
  mIf b3 (
    mRet (.bool false)) (
    mGuard ((64 : Int) ≠ 0) <|
    mNil s0 fun (a6 : Addr) =>
    mIdx ⟨(some a6), 2, 2⟩ (IntKind.i64.wrap (Int.tdiv n1 (64 : Int))) 1 fun (x19 : Addr) =>
    mGuard ((64 : Int) ≠ 0) <|
    mGuard (0 ≤ (IntKind.u64.wrap (Int.tmod n1 (64 : Int)))) <|
    mNil s0 fun (a12 : Addr) =>
    mLdI .u64 x19 fun (x20 : Int) =>
    mIdx ⟨(some a12), 2, 2⟩ (IntKind.i64.wrap (Int.tdiv n1 (64 : Int))) 1 fun (x28 : Addr) =>
    mSt x28 (.int .u64 (ior .u64 x20 (ishl .u64 (1 : Int) (IntKind.u64.wrap (Int.tmod n1 (64 : Int)))))) <|
    mRet (.bool true))
theorem E_band_Set_Put (s0 : Option Addr) (n1 : Int) : ev Try.prog 50 Try.f50.results.toList C_band_Set_Put D_band_Set_Put 400 false [.code (bodyOf Try.f50)] (List.map some [.pointer s0, .int .i64 n1] ++ List.replicate (Try.f50.ntmps - List.length ([.pointer s0, .int .i64 n1] : List Value)) none) = B_band_Set_Put s0 n1 := by kernel_rfl
theorem S_band_Set_Put (s0 : Option Addr) (n1 : Int) {h : Hp} {Q : Value → Hp → Prop} (hb : B_band_Set_Put s0 n1 h Q) : N_band_Set_Put s0 n1 h Q :=
  Nf.of_ev Try.call50 Try.func50 (c := bodyOf Try.f50) rfl mixed C_band_Set_Put D_band_Set_Put 400 (args := [.pointer s0, .int .i64 n1]) (by rw [E_band_Set_Put]; exact hb)
def C_ring_Ring_ready_Job_All : List (Nat × List Nat) := [(3, [0, 3, 6, 7])]
def D_ring_Ring_ready_Job_All : List (Nat × List Nat) := []
def T_ring_Ring_ready_Job_All_3 (r0 : Option Addr) (out3 : Sl) (t6 : Int) (t7 : Int) : Env := mkEnv [(0, .pointer r0), (3, .slice out3.p out3.n out3.c), (6, .int .i64 t6), (7, .int .i64 t7)] 20 0
def K_ring_Ring_ready_Job_All_3 (r0 : Option Addr) (out3 : Sl) (t6 : Int) (t7 : Int) : M Value := Cut Try.prog 51 (todoOf Try.f51 3) (T_ring_Ring_ready_Job_All_3 r0 out3 t6 t7)
def B_ring_Ring_ready_Job_All (r0 : Option Addr) : M Value :=
  mBind (N_ring_Ring_ready_Job_Len r0) fun r6 =>
  unI .i64 r6 fun (x6 : Int) =>
  K_ring_Ring_ready_Job_All_3 r0 (Sl.mk none 0 0) x6 (0 : Int)
def B_ring_Ring_ready_Job_All_3 (r0 : Option Addr) (out3 : Sl) (t6 : Int) (t7 : Int) : M Value :=
  mIf (decide (t7 < t6)) (
    mBind (N_ring_Ring_ready_Job_at r0 t7) fun r13 =>
    unP r13 fun (x13 : Option Addr) =>
    mNil x13 fun (a4 : Addr) =>
    mLdI .i64 a4 fun (x15_0 : Int) =>
    mLdI .i64 (a4.add 1) fun (x15_1 : Int) =>
    mLdI .i64 (a4.add 2) fun (x15_2 : Int) =>
    mNew #[.int .i64 x15_0, .int .i64 x15_1, .int .i64 x15_2] 51 fun (x16 : Addr) =>
    mApp 51 3 24 #[.int .i64 (0 : Int), .int .i64 (0 : Int), .int .i64 (0 : Int)] out3 ⟨(some x16), 1, 1⟩ fun (x17 : Sl) =>
    K_ring_Ring_ready_Job_All_3 r0 x17 t6 (IntKind.i64.wrap (t7 + (1 : Int)))) (
    mRet (.slice out3.p out3.n out3.c))
theorem E_ring_Ring_ready_Job_All (r0 : Option Addr) : ev Try.prog 51 Try.f51.results.toList C_ring_Ring_ready_Job_All D_ring_Ring_ready_Job_All 400 false [.code (bodyOf Try.f51)] (List.map some [.pointer r0] ++ List.replicate (Try.f51.ntmps - List.length ([.pointer r0] : List Value)) none) = B_ring_Ring_ready_Job_All r0 := by kernel_rfl
theorem S_ring_Ring_ready_Job_All (r0 : Option Addr) {h : Hp} {Q : Value → Hp → Prop} (hb : B_ring_Ring_ready_Job_All r0 h Q) : N_ring_Ring_ready_Job_All r0 h Q :=
  Nf.of_ev Try.call51 Try.func51 (c := bodyOf Try.f51) rfl mixed C_ring_Ring_ready_Job_All D_ring_Ring_ready_Job_All 400 (args := [.pointer r0]) (by rw [E_ring_Ring_ready_Job_All]; exact hb)
theorem E_ring_Ring_ready_Job_All_3 (r0 : Option Addr) (out3 : Sl) (t6 : Int) (t7 : Int) : ev Try.prog 51 Try.f51.results.toList C_ring_Ring_ready_Job_All D_ring_Ring_ready_Job_All 400 true (todoOf Try.f51 3) (T_ring_Ring_ready_Job_All_3 r0 out3 t6 t7) = B_ring_Ring_ready_Job_All_3 r0 out3 t6 t7 := by kernel_rfl
theorem S_ring_Ring_ready_Job_All_3 (r0 : Option Addr) (out3 : Sl) (t6 : Int) (t7 : Int) {h : Hp} {Q : Value → Hp → Prop} (hb : B_ring_Ring_ready_Job_All_3 r0 out3 t6 t7 h Q) : K_ring_Ring_ready_Job_All_3 r0 out3 t6 t7 h Q :=
  Cut.of_ev Try.func51 mixed C_ring_Ring_ready_Job_All D_ring_Ring_ready_Job_All 400 (by rw [E_ring_Ring_ready_Job_All_3]; exact hb)
def C_band_Set_Top : List (Nat × List Nat) := [(4, [0, 3])]
def D_band_Set_Top : List (Nat × List Nat) := []
def T_band_Set_Top_4 (s0 : Option Addr) (i3 : Int) : Env := mkEnv [(0, .pointer s0), (3, .int .i64 i3)] 26 0
def K_band_Set_Top_4 (s0 : Option Addr) (i3 : Int) : M Value := Cut Try.prog 52 (todoOf Try.f52 4) (T_band_Set_Top_4 s0 i3)
def B_band_Set_Top (s0 : Option Addr) : M Value :=
  mIf s0.isNone (
    mRet (.int .i64 (-1 : Int))) (
    K_band_Set_Top_4 s0 (1 : Int))
def B_band_Set_Top_4 (s0 : Option Addr) (i3 : Int) : M Value :=
  mIf (decide (i3 ≥ (0 : Int))) (
    mNil s0 fun (a2 : Addr) =>
    mIdx ⟨(some a2), 2, 2⟩ i3 1 fun (x15 : Addr) =>
    mLdI .u64 x15 fun (x16 : Int) =>
    mIf (x16 != (0 : Int)) (
      mBind (N_math_bits_LeadingZeros64 x16) fun r24 =>
      unI .i64 r24 fun (x24 : Int) =>
      mRet (.int .i64 (IntKind.i64.wrap ((IntKind.i64.wrap ((IntKind.i64.wrap ((IntKind.i64.wrap (i3 * (64 : Int))) + (64 : Int))) - (1 : Int))) - x24)))) (
      K_band_Set_Top_4 s0 (IntKind.i64.wrap (i3 - (1 : Int))))) (
    mRet (.int .i64 (-1 : Int)))
theorem E_band_Set_Top (s0 : Option Addr) : ev Try.prog 52 Try.f52.results.toList C_band_Set_Top D_band_Set_Top 400 false [.code (bodyOf Try.f52)] (List.map some [.pointer s0] ++ List.replicate (Try.f52.ntmps - List.length ([.pointer s0] : List Value)) none) = B_band_Set_Top s0 := by kernel_rfl
theorem S_band_Set_Top (s0 : Option Addr) {h : Hp} {Q : Value → Hp → Prop} (hb : B_band_Set_Top s0 h Q) : N_band_Set_Top s0 h Q :=
  Nf.of_ev Try.call52 Try.func52 (c := bodyOf Try.f52) rfl mixed C_band_Set_Top D_band_Set_Top 400 (args := [.pointer s0]) (by rw [E_band_Set_Top]; exact hb)
theorem E_band_Set_Top_4 (s0 : Option Addr) (i3 : Int) : ev Try.prog 52 Try.f52.results.toList C_band_Set_Top D_band_Set_Top 400 true (todoOf Try.f52 4) (T_band_Set_Top_4 s0 i3) = B_band_Set_Top_4 s0 i3 := by kernel_rfl
theorem S_band_Set_Top_4 (s0 : Option Addr) (i3 : Int) {h : Hp} {Q : Value → Hp → Prop} (hb : B_band_Set_Top_4 s0 i3 h Q) : K_band_Set_Top_4 s0 i3 h Q :=
  Cut.of_ev Try.func52 mixed C_band_Set_Top D_band_Set_Top 400 (by rw [E_band_Set_Top_4]; exact hb)
def C_ring_Ring_ready_Job_First : List (Nat × List Nat) := []
def D_ring_Ring_ready_Job_First : List (Nat × List Nat) := []
def B_ring_Ring_ready_Job_First (r0 : Option Addr) : M Value :=
  mNew #[.int .i64 (0 : Int), .int .i64 (0 : Int), .int .i64 (0 : Int)] 51 fun (x2_1 : Addr) =>
  mBind (N_ring_Ring_ready_Job_Len r0) fun r5 =>
  unI .i64 r5 fun (x5 : Int) =>
  mIf (x5 == (0 : Int)) (
    mLdI .i64 x2_1 fun (x7_0 : Int) =>
    mLdI .i64 (x2_1.add 1) fun (x7_1 : Int) =>
    mLdI .i64 (x2_1.add 2) fun (x7_2 : Int) =>
    mSt x2_1 (.int .i64 x7_0) <|
    mSt (x2_1.add 1) (.int .i64 x7_1) <|
    mSt (x2_1.add 2) (.int .i64 x7_2) <|
    mLdI .i64 x2_1 fun (q5_0 : Int) =>
    mLdI .i64 (x2_1.add 1) fun (q5_1 : Int) =>
    mLdI .i64 (x2_1.add 2) fun (q5_2 : Int) =>
    mRet (.tuple #[.agg #[.int .i64 q5_0, .int .i64 q5_1, .int .i64 q5_2], .bool false])) (
    mBind (N_ring_Ring_ready_Job_at r0 (0 : Int)) fun r9 =>
    unP r9 fun (x9 : Option Addr) =>
    mNil x9 fun (a8 : Addr) =>
    mLdI .i64 a8 fun (x11_0 : Int) =>
    mLdI .i64 (a8.add 1) fun (x11_1 : Int) =>
    mLdI .i64 (a8.add 2) fun (x11_2 : Int) =>
    mSt x2_1 (.int .i64 x11_0) <|
    mSt (x2_1.add 1) (.int .i64 x11_1) <|
    mSt (x2_1.add 2) (.int .i64 x11_2) <|
    mLdI .i64 x2_1 fun (q11_0 : Int) =>
    mLdI .i64 (x2_1.add 1) fun (q11_1 : Int) =>
    mLdI .i64 (x2_1.add 2) fun (q11_2 : Int) =>
    mRet (.tuple #[.agg #[.int .i64 q11_0, .int .i64 q11_1, .int .i64 q11_2], .bool true]))
theorem E_ring_Ring_ready_Job_First (r0 : Option Addr) : ev Try.prog 53 Try.f53.results.toList C_ring_Ring_ready_Job_First D_ring_Ring_ready_Job_First 400 false [.code (bodyOf Try.f53)] (List.map some [.pointer r0] ++ List.replicate (Try.f53.ntmps - List.length ([.pointer r0] : List Value)) none) = B_ring_Ring_ready_Job_First r0 := by kernel_rfl
theorem S_ring_Ring_ready_Job_First (r0 : Option Addr) {h : Hp} {Q : Value → Hp → Prop} (hb : B_ring_Ring_ready_Job_First r0 h Q) : N_ring_Ring_ready_Job_First r0 h Q :=
  Nf.of_ev Try.call53 Try.func53 (c := bodyOf Try.f53) rfl mixed C_ring_Ring_ready_Job_First D_ring_Ring_ready_Job_First 400 (args := [.pointer r0]) (by rw [E_ring_Ring_ready_Job_First]; exact hb)
def C_ring_Ring_ready_Job_at : List (Nat × List Nat) := []
def D_ring_Ring_ready_Job_at : List (Nat × List Nat) := []
def B_ring_Ring_ready_Job_at (r0 : Option Addr) (i1 : Int) : M Value :=
  mNil r0 fun (a2 : Addr) =>
  mLdL a2 fun (x8 : Sl) =>
  mNil r0 fun (a6 : Addr) =>
  mLdI .i64 (a6.add 1) fun (x12 : Int) =>
  mNil r0 fun (a10 : Addr) =>
  mLdL a10 fun (x18 : Sl) =>
  mGuard ((x18.n : Int) ≠ 0) <|
  mIdx x8 (Int.tmod (IntKind.i64.wrap (x12 + i1)) (x18.n : Int)) 3 fun (x21 : Addr) =>
  mRet (.pointer (some x21))
theorem E_ring_Ring_ready_Job_at (r0 : Option Addr) (i1 : Int) : ev Try.prog 59 Try.f59.results.toList C_ring_Ring_ready_Job_at D_ring_Ring_ready_Job_at 400 false [.code (bodyOf Try.f59)] (List.map some [.pointer r0, .int .i64 i1] ++ List.replicate (Try.f59.ntmps - List.length ([.pointer r0, .int .i64 i1] : List Value)) none) = B_ring_Ring_ready_Job_at r0 i1 := by kernel_rfl
theorem S_ring_Ring_ready_Job_at (r0 : Option Addr) (i1 : Int) {h : Hp} {Q : Value → Hp → Prop} (hb : B_ring_Ring_ready_Job_at r0 i1 h Q) : N_ring_Ring_ready_Job_at r0 i1 h Q :=
  Nf.of_ev Try.call59 Try.func59 (c := bodyOf Try.f59) rfl mixed C_ring_Ring_ready_Job_at D_ring_Ring_ready_Job_at 400 (args := [.pointer r0, .int .i64 i1]) (by rw [E_ring_Ring_ready_Job_at]; exact hb)
def C_band_Set_Has : List (Nat × List Nat) := []
def D_band_Set_Has : List (Nat × List Nat) := []
def B_band_Set_Has (s0 : Option Addr) (n1 : Int) : M Value :=
  mBind (N_band_Set_may s0 n1) fun r7 =>
  unB r7 fun (x7 : Bool) =>
  mBind (mIf x7 (mGuard ((64 : Int) ≠ 0) <|
    mNil s0 fun (a4 : Addr) =>
    mIdx ⟨(some a4), 2, 2⟩ (IntKind.i64.wrap (Int.tdiv n1 (64 : Int))) 1 fun (x14 : Addr) =>
    mLdI .u64 x14 fun (x15 : Int) =>
    mGuard ((64 : Int) ≠ 0) <|
    mGuard (0 ≤ (IntKind.u64.wrap (Int.tmod n1 (64 : Int)))) <|
    mRet ((iand .u64 (ishr .u64 x15 (IntKind.u64.wrap (Int.tmod n1 (64 : Int)))) (1 : Int)) == (1 : Int))) (mRet false)) fun (b10 : Bool) =>
  mRet (.bool b10)
theorem E_band_Set_Has (s0 : Option Addr) (n1 : Int) : ev Try.prog 60 Try.f60.results.toList C_band_Set_Has D_band_Set_Has 400 false [.code (bodyOf Try.f60)] (List.map some [.pointer s0, .int .i64 n1] ++ List.replicate (Try.f60.ntmps - List.length ([.pointer s0, .int .i64 n1] : List Value)) none) = B_band_Set_Has s0 n1 := by kernel_rfl
theorem S_band_Set_Has (s0 : Option Addr) (n1 : Int) {h : Hp} {Q : Value → Hp → Prop} (hb : B_band_Set_Has s0 n1 h Q) : N_band_Set_Has s0 n1 h Q :=
  Nf.of_ev Try.call60 Try.func60 (c := bodyOf Try.f60) rfl mixed C_band_Set_Has D_band_Set_Has 400 (args := [.pointer s0, .int .i64 n1]) (by rw [E_band_Set_Has]; exact hb)
def C_band_Set_may : List (Nat × List Nat) := []
def D_band_Set_may : List (Nat × List Nat) := []
def B_band_Set_may (s0 : Option Addr) (n1 : Int) : M Value :=
  mRet (.bool (((!s0.isNone) && (decide (n1 ≥ (0 : Int)))) && (decide (n1 ≤ (64 : Int)))))
theorem E_band_Set_may (s0 : Option Addr) (n1 : Int) : ev Try.prog 61 Try.f61.results.toList C_band_Set_may D_band_Set_may 400 false [.code (bodyOf Try.f61)] (List.map some [.pointer s0, .int .i64 n1] ++ List.replicate (Try.f61.ntmps - List.length ([.pointer s0, .int .i64 n1] : List Value)) none) = B_band_Set_may s0 n1 := by kernel_rfl
theorem S_band_Set_may (s0 : Option Addr) (n1 : Int) {h : Hp} {Q : Value → Hp → Prop} (hb : B_band_Set_may s0 n1 h Q) : N_band_Set_may s0 n1 h Q :=
  Nf.of_ev Try.call61 Try.func61 (c := bodyOf Try.f61) rfl mixed C_band_Set_may D_band_Set_may 400 (args := [.pointer s0, .int .i64 n1]) (by rw [E_band_Set_may]; exact hb)
def C_math_bits_LeadingZeros64 : List (Nat × List Nat) := []
def D_math_bits_LeadingZeros64 : List (Nat × List Nat) := []
def B_math_bits_LeadingZeros64 (x0 : Int) : M Value :=
  mBind (N_math_bits_Len64 x0) fun r4 =>
  unI .i64 r4 fun (x4 : Int) =>
  mRet (.int .i64 (IntKind.i64.wrap ((64 : Int) - x4)))
theorem E_math_bits_LeadingZeros64 (x0 : Int) : ev Try.prog 62 Try.f62.results.toList C_math_bits_LeadingZeros64 D_math_bits_LeadingZeros64 400 false [.code (bodyOf Try.f62)] (List.map some [.int .u64 x0] ++ List.replicate (Try.f62.ntmps - List.length ([.int .u64 x0] : List Value)) none) = B_math_bits_LeadingZeros64 x0 := by kernel_rfl
theorem S_math_bits_LeadingZeros64 (x0 : Int) {h : Hp} {Q : Value → Hp → Prop} (hb : B_math_bits_LeadingZeros64 x0 h Q) : N_math_bits_LeadingZeros64 x0 h Q :=
  Nf.of_ev Try.call62 Try.func62 (c := bodyOf Try.f62) rfl mixed C_math_bits_LeadingZeros64 D_math_bits_LeadingZeros64 400 (args := [.int .u64 x0]) (by rw [E_math_bits_LeadingZeros64]; exact hb)
def C_math_bits_Len64 : List (Nat × List Nat) := [(7, [0, 2])]
def D_math_bits_Len64 : List (Nat × List Nat) := []
def T_math_bits_Len64_7 (x0 : Int) (n2 : Int) : Env := mkEnv [(0, .int .u64 x0), (2, .int .i64 n2)] 25 0
def K_math_bits_Len64_7 (x0 : Int) (n2 : Int) : M Value := Cut Try.prog 74 (todoOf Try.f74 7) (T_math_bits_Len64_7 x0 n2)
def B_math_bits_Len64 (x0 : Int) : M Value :=
  mIf (decide (x0 ≥ (4294967296 : Int))) (
    mGuard (0 ≤ (32 : Int)) <|
    mIf (decide ((ishr .u64 x0 (32 : Int)) ≥ (65536 : Int))) (
      mGuard (0 ≤ (16 : Int)) <|
      K_math_bits_Len64_7 (ishr .u64 (ishr .u64 x0 (32 : Int)) (16 : Int)) (IntKind.i64.wrap ((32 : Int) + (16 : Int)))) (
      K_math_bits_Len64_7 (ishr .u64 x0 (32 : Int)) (32 : Int))) (
    mIf (decide (x0 ≥ (65536 : Int))) (
      mGuard (0 ≤ (16 : Int)) <|
      K_math_bits_Len64_7 (ishr .u64 x0 (16 : Int)) (IntKind.i64.wrap ((0 : Int) + (16 : Int)))) (
      K_math_bits_Len64_7 x0 (0 : Int)))
def B_math_bits_Len64_7 (x0 : Int) (n2 : Int) : M Value :=
  mIf (decide (x0 ≥ (256 : Int))) (
    mGuard (0 ≤ (8 : Int)) <|
    mIdxS (ByteArray.mk #[0, 1, 2, 2, 3, 3, 3, 3, 4, 4, 4, 4, 4, 4, 4, 4, 5, 5, 5, 5, 5, 5, 5, 5, 5, 5, 5, 5, 5, 5, 5, 5, 6, 6, 6, 6, 6, 6, 6, 6, 6, 6, 6, 6, 6, 6, 6, 6, 6, 6, 6, 6, 6, 6, 6, 6, 6, 6, 6, 6, 6, 6, 6, 6, 7, 7, 7, 7, 7, 7, 7, 7, 7, 7, 7, 7, 7, 7, 7, 7, 7, 7, 7, 7, 7, 7, 7, 7, 7, 7, 7, 7, 7, 7, 7, 7, 7, 7, 7, 7, 7, 7, 7, 7, 7, 7, 7, 7, 7, 7, 7, 7, 7, 7, 7, 7, 7, 7, 7, 7, 7, 7, 7, 7, 7, 7, 7, 7, 8, 8, 8, 8, 8, 8, 8, 8, 8, 8, 8, 8, 8, 8, 8, 8, 8, 8, 8, 8, 8, 8, 8, 8, 8, 8, 8, 8, 8, 8, 8, 8, 8, 8, 8, 8, 8, 8, 8, 8, 8, 8, 8, 8, 8, 8, 8, 8, 8, 8, 8, 8, 8, 8, 8, 8, 8, 8, 8, 8, 8, 8, 8, 8, 8, 8, 8, 8, 8, 8, 8, 8, 8, 8, 8, 8, 8, 8, 8, 8, 8, 8, 8, 8, 8, 8, 8, 8, 8, 8, 8, 8, 8, 8, 8, 8, 8, 8, 8, 8, 8, 8, 8, 8, 8, 8, 8, 8, 8, 8, 8, 8, 8, 8, 8, 8, 8, 8, 8, 8, 8, 8, 8, 8, 8, 8, 8, 8]) (IntKind.u8.wrap (ishr .u64 x0 (8 : Int))) fun (x22 : Int) =>
    mRet (.int .i64 (IntKind.i64.wrap ((IntKind.i64.wrap (n2 + (8 : Int))) + (IntKind.i64.wrap x22))))) (
    mIdxS (ByteArray.mk #[0, 1, 2, 2, 3, 3, 3, 3, 4, 4, 4, 4, 4, 4, 4, 4, 5, 5, 5, 5, 5, 5, 5, 5, 5, 5, 5, 5, 5, 5, 5, 5, 6, 6, 6, 6, 6, 6, 6, 6, 6, 6, 6, 6, 6, 6, 6, 6, 6, 6, 6, 6, 6, 6, 6, 6, 6, 6, 6, 6, 6, 6, 6, 6, 7, 7, 7, 7, 7, 7, 7, 7, 7, 7, 7, 7, 7, 7, 7, 7, 7, 7, 7, 7, 7, 7, 7, 7, 7, 7, 7, 7, 7, 7, 7, 7, 7, 7, 7, 7, 7, 7, 7, 7, 7, 7, 7, 7, 7, 7, 7, 7, 7, 7, 7, 7, 7, 7, 7, 7, 7, 7, 7, 7, 7, 7, 7, 7, 8, 8, 8, 8, 8, 8, 8, 8, 8, 8, 8, 8, 8, 8, 8, 8, 8, 8, 8, 8, 8, 8, 8, 8, 8, 8, 8, 8, 8, 8, 8, 8, 8, 8, 8, 8, 8, 8, 8, 8, 8, 8, 8, 8, 8, 8, 8, 8, 8, 8, 8, 8, 8, 8, 8, 8, 8, 8, 8, 8, 8, 8, 8, 8, 8, 8, 8, 8, 8, 8, 8, 8, 8, 8, 8, 8, 8, 8, 8, 8, 8, 8, 8, 8, 8, 8, 8, 8, 8, 8, 8, 8, 8, 8, 8, 8, 8, 8, 8, 8, 8, 8, 8, 8, 8, 8, 8, 8, 8, 8, 8, 8, 8, 8, 8, 8, 8, 8, 8, 8, 8, 8, 8, 8, 8, 8, 8, 8]) (IntKind.u8.wrap x0) fun (x22_6 : Int) =>
    mRet (.int .i64 (IntKind.i64.wrap (n2 + (IntKind.i64.wrap x22_6)))))
theorem E_math_bits_Len64 (x0 : Int) : ev Try.prog 74 Try.f74.results.toList C_math_bits_Len64 D_math_bits_Len64 400 false [.code (bodyOf Try.f74)] (List.map some [.int .u64 x0] ++ List.replicate (Try.f74.ntmps - List.length ([.int .u64 x0] : List Value)) none) = B_math_bits_Len64 x0 := by kernel_rfl
theorem S_math_bits_Len64 (x0 : Int) {h : Hp} {Q : Value → Hp → Prop} (hb : B_math_bits_Len64 x0 h Q) : N_math_bits_Len64 x0 h Q :=
  Nf.of_ev Try.call74 Try.func74 (c := bodyOf Try.f74) rfl mixed C_math_bits_Len64 D_math_bits_Len64 400 (args := [.int .u64 x0]) (by rw [E_math_bits_Len64]; exact hb)
theorem E_math_bits_Len64_7 (x0 : Int) (n2 : Int) : ev Try.prog 74 Try.f74.results.toList C_math_bits_Len64 D_math_bits_Len64 400 true (todoOf Try.f74 7) (T_math_bits_Len64_7 x0 n2) = B_math_bits_Len64_7 x0 n2 := by kernel_rfl
theorem S_math_bits_Len64_7 (x0 : Int) (n2 : Int) {h : Hp} {Q : Value → Hp → Prop} (hb : B_math_bits_Len64_7 x0 n2 h Q) : K_math_bits_Len64_7 x0 n2 h Q :=
  Cut.of_ev Try.func74 mixed C_math_bits_Len64 D_math_bits_Len64 400 (by rw [E_math_bits_Len64_7]; exact hb)
end Go.Proofs.Ytimpaammdmeocaa
