/- What the functions of this layer come to, as forms of the small logic; written by program. Conditions: none. -/
import Derived.Test.YtjifoicncenfpaaSbU
import Derived.Test.YtjifoicncenfpaaChecked
import Derived.KernelRfl
set_option maxRecDepth 100000
namespace Go.Proofs.Ytjifoicncenfpaa
open Go Go.Sb
theorem mixed : Try.prog.follows .mixedOrders = true := by kernel_rfl
def N_signalboxlaw17_fixed : M Value := Nf Try.prog 21 #[]
def N_signalboxlaw17_few (t0_0 : Int) (t0_1 : Int) (t0_2 : Int) (t0_3 : Int) (t0_4 : Int) (t0_5 : Int) (t0_6 : Sl) (l1 : Sl) : M Value := Nf Try.prog 22 #[.agg #[.int .i64 t0_0, .int .i64 t0_1, .int .i64 t0_2, .int .i64 t0_3, .int .i64 t0_4, .int .i64 t0_5, .slice t0_6.p t0_6.n t0_6.c], .slice l1.p l1.n l1.c]
def N_job_New (t0_0 : Int) (t0_1 : Int) (t0_2 : Int) (t0_3 : Int) (t0_4 : Int) (t0_5 : Int) (t0_6 : Sl) : M Value := Nf Try.prog 23 #[.agg #[.int .i64 t0_0, .int .i64 t0_1, .int .i64 t0_2, .int .i64 t0_3, .int .i64 t0_4, .int .i64 t0_5, .slice t0_6.p t0_6.n t0_6.c]]
def N_job_Job_Begin (j0 : Option Addr) (cost1 : Int) : M Value := Nf Try.prog 24 #[.pointer j0, .int .i64 cost1]
def N_job_Job_Withhold (j0 : Option Addr) : M Value := Nf Try.prog 25 #[.pointer j0]
def N_job_Job_Burn (j0 : Option Addr) (cycles1 : Int) : M Value := Nf Try.prog 26 #[.pointer j0, .int .i64 cycles1]
def N_job_Job_Left (j0 : Option Addr) : M Value := Nf Try.prog 27 #[.pointer j0]
def N_job_Job_Rest (j0 : Option Addr) : M Value := Nf Try.prog 28 #[.pointer j0]
def N_job_Job_At (j0 : Option Addr) : M Value := Nf Try.prog 29 #[.pointer j0]
def N_job_Job_Over (j0 : Option Addr) : M Value := Nf Try.prog 30 #[.pointer j0]
def N_job_Job_Fault (j0 : Option Addr) : M Value := Nf Try.prog 31 #[.pointer j0]
def N_job_Job_Open (j0 : Option Addr) : M Value := Nf Try.prog 32 #[.pointer j0]
def N_job_Job_Op (j0 : Option Addr) : M Value := Nf Try.prog 33 #[.pointer j0]
def N_job_Job_Pushed (j0 : Option Addr) : M Value := Nf Try.prog 34 #[.pointer j0]
def N_job_Job_push (j0 : Option Addr) (n1 : Int) : M Value := Nf Try.prog 65 #[.pointer j0, .int .i64 n1]
def N_signalboxlaw17_JobParts (t0_0 : Int) (t0_1 : Int) (t0_2 : Int) (t0_3 : Int) (t0_4 : Int) (t0_5 : Int) (t0_6 : Sl) (cost1 : Int) (a2 : Int) (b3 : Int) (withhold4 : Bool) : M Value := Nf Try.prog 5 #[.agg #[.int .i64 t0_0, .int .i64 t0_1, .int .i64 t0_2, .int .i64 t0_3, .int .i64 t0_4, .int .i64 t0_5, .slice t0_6.p t0_6.n t0_6.c], .int .u16 cost1, .int .u16 a2, .int .u16 b3, .bool withhold4]
def N_signalboxlaw17_JobRuns (t0_0 : Int) (t0_1 : Int) (t0_2 : Int) (t0_3 : Int) (t0_4 : Int) (t0_5 : Int) (t0_6 : Sl) (costs1 : Sl) : M Value := Nf Try.prog 6 #[.agg #[.int .i64 t0_0, .int .i64 t0_1, .int .i64 t0_2, .int .i64 t0_3, .int .i64 t0_4, .int .i64 t0_5, .slice t0_6.p t0_6.n t0_6.c], .slice costs1.p costs1.n costs1.c]
def N_signalboxlaw17_JobNone (n0 : Int) : M Value := Nf Try.prog 7 #[.int .i64 n0]
def C_signalboxlaw17_fixed : List (Nat × List Nat) := []
def D_signalboxlaw17_fixed : List (Nat × List Nat) := []
def B_signalboxlaw17_fixed : M Value :=
  mNew #[.int .i64 (1 : Int), .int .i64 (5 : Int), .int .i64 (0 : Int), .int .i64 (7 : Int), .int .i64 (1 : Int), .int .i64 (0 : Int)] 52 fun (x12 : Addr) =>
  mBind (N_job_New (0 : Int) (0 : Int) (0 : Int) (0 : Int) (0 : Int) (2 : Int) (Sl.mk (some x12) 2 2)) fun r14 =>
  unP r14 fun (x14 : Option Addr) =>
  mBind (N_job_Job_Begin x14 (5 : Int)) fun r16 =>
  unI .i64 r16 fun (x16 : Int) =>
  mBind (N_job_Job_Burn x14 (3 : Int)) fun r18 =>
  unI .i64 r18 fun (x18 : Int) =>
  mBind (N_job_Job_Withhold x14) fun r20 =>
  unB r20 fun (x20 : Bool) =>
  mBind (N_job_Job_Burn x14 (9 : Int)) fun r22 =>
  unI .i64 r22 fun (x22 : Int) =>
  mBind (N_job_Job_Left x14) fun r25 =>
  un2 (unI .i64) unB r25 fun (x25_0 : Int) (x25_1 : Bool) =>
  mBind (N_job_Job_Begin x14 (1 : Int)) fun r29 =>
  unI .i64 r29 fun (x29 : Int) =>
  mBind (N_job_Job_Burn x14 (1 : Int)) fun r31 =>
  unI .i64 r31 fun (x31 : Int) =>
  mBind (mIf (((((((x16 == (0 : Int)) && (x18 == (3 : Int))) && x20) && (x22 == (2 : Int))) && (x25_0 == (0 : Int))) && x25_1) && (x29 == (11 : Int))) (mBind (N_job_Job_Fault x14) fun r58 =>
    unB r58 fun (x58 : Bool) =>
    mRet x58) (mRet false)) fun (b11 : Bool) =>
  mBind (mIf (b11 && (x31 == (1 : Int))) (mBind (N_job_Job_Over x14) fun r66 =>
    unB r66 fun (x66 : Bool) =>
    mRet x66) (mRet false)) fun (b13 : Bool) =>
  mBind (mIf b13 (mBind (N_job_New (0 : Int) (0 : Int) (0 : Int) (0 : Int) (0 : Int) (0 : Int) (Sl.mk none 0 0)) fun r70 =>
    unP r70 fun (x70 : Option Addr) =>
    mBind (N_job_Job_Over x70) fun r71 =>
    unB r71 fun (x71 : Bool) =>
    mRet x71) (mRet false)) fun (b16 : Bool) =>
  mRet (.bool b16)
theorem E_signalboxlaw17_fixed : ev Try.prog 21 Try.f21.results.toList C_signalboxlaw17_fixed D_signalboxlaw17_fixed 400 false [.code (bodyOf Try.f21)] (List.map some [] ++ List.replicate (Try.f21.ntmps - List.length ([] : List Value)) none) = B_signalboxlaw17_fixed := by kernel_rfl
theorem S_signalboxlaw17_fixed {h : Hp} {Q : Value → Hp → Prop} (hb : B_signalboxlaw17_fixed h Q) : N_signalboxlaw17_fixed h Q :=
  Nf.of_ev Try.call21 Try.func21 (c := bodyOf Try.f21) rfl mixed C_signalboxlaw17_fixed D_signalboxlaw17_fixed 400 (args := []) (by rw [E_signalboxlaw17_fixed]; exact hb)
def C_signalboxlaw17_few : List (Nat × List Nat) := [(2, [1, 2, 8, 9, 10])]
def D_signalboxlaw17_few : List (Nat × List Nat) := []
def T_signalboxlaw17_few_2 (l1 : Sl) (t2 : Addr) (t8 : Sl) (t9 : Int) (t10 : Int) : Env := mkEnv [(1, .slice l1.p l1.n l1.c), (2, .pointer (some t2)), (8, .slice t8.p t8.n t8.c), (9, .int .i64 t9), (10, .int .i64 t10)] 32 0
def K_signalboxlaw17_few_2 (l1 : Sl) (t2 : Addr) (t8 : Sl) (t9 : Int) (t10 : Int) : M Value := Cut Try.prog 22 (todoOf Try.f22 2) (T_signalboxlaw17_few_2 l1 t2 t8 t9 t10)
def B_signalboxlaw17_few (t0_0 : Int) (t0_1 : Int) (t0_2 : Int) (t0_3 : Int) (t0_4 : Int) (t0_5 : Int) (t0_6 : Sl) (l1 : Sl) : M Value :=
  mNew #[.int .i64 t0_0, .int .i64 t0_1, .int .i64 t0_2, .int .i64 t0_3, .int .i64 t0_4, .int .i64 t0_5, .slice t0_6.p t0_6.n t0_6.c] 40 fun (x2 : Addr) =>
  mLdL (x2.add 6) fun (x8 : Sl) =>
  K_signalboxlaw17_few_2 l1 x2 x8 (x8.n : Int) (0 : Int)
def B_signalboxlaw17_few_2 (l1 : Sl) (t2 : Addr) (t8 : Sl) (t9 : Int) (t10 : Int) : M Value :=
  mIf (decide (t10 < t9)) (
    mIdx t8 t10 3 fun (x12 : Addr) =>
    mLdI .i64 x12 fun (x13_0 : Int) =>
    mLdI .i64 (x12.add 1) fun (x13_1 : Int) =>
    mLdI .i64 (x12.add 2) fun (x13_2 : Int) =>
    mNew #[.int .i64 (0 : Int), .int .i64 (0 : Int), .int .i64 (0 : Int)] 52 fun (x6 : Addr) =>
    mSt x6 (.int .i64 x13_0) <|
    mSt (x6.add 1) (.int .i64 x13_1) <|
    mSt (x6.add 2) (.int .i64 x13_2) <|
    mLdI .i64 (x6.add 1) fun (x15 : Int) =>
    mBind (mIf (decide (x15 < (-1073741824 : Int))) (mRet true) (mLdI .i64 (x6.add 1) fun (x19 : Int) =>
      mRet (decide (x19 > (1073741824 : Int))))) fun (b12 : Bool) =>
    mIf b12 (
      mRet (.bool false)) (
      K_signalboxlaw17_few_2 l1 t2 t8 t9 (IntKind.i64.wrap (t10 + (1 : Int))))) (
    mLdL (t2.add 6) fun (x24 : Sl) =>
    mRet (.bool ((decide ((x24.n : Int) ≤ (80 : Int))) && (decide ((l1.n : Int) ≤ (150 : Int))))))
theorem E_signalboxlaw17_few (t0_0 : Int) (t0_1 : Int) (t0_2 : Int) (t0_3 : Int) (t0_4 : Int) (t0_5 : Int) (t0_6 : Sl) (l1 : Sl) : ev Try.prog 22 Try.f22.results.toList C_signalboxlaw17_few D_signalboxlaw17_few 400 false [.code (bodyOf Try.f22)] (List.map some [.agg #[.int .i64 t0_0, .int .i64 t0_1, .int .i64 t0_2, .int .i64 t0_3, .int .i64 t0_4, .int .i64 t0_5, .slice t0_6.p t0_6.n t0_6.c], .slice l1.p l1.n l1.c] ++ List.replicate (Try.f22.ntmps - List.length ([.agg #[.int .i64 t0_0, .int .i64 t0_1, .int .i64 t0_2, .int .i64 t0_3, .int .i64 t0_4, .int .i64 t0_5, .slice t0_6.p t0_6.n t0_6.c], .slice l1.p l1.n l1.c] : List Value)) none) = B_signalboxlaw17_few t0_0 t0_1 t0_2 t0_3 t0_4 t0_5 t0_6 l1 := by kernel_rfl
theorem S_signalboxlaw17_few (t0_0 : Int) (t0_1 : Int) (t0_2 : Int) (t0_3 : Int) (t0_4 : Int) (t0_5 : Int) (t0_6 : Sl) (l1 : Sl) {h : Hp} {Q : Value → Hp → Prop} (hb : B_signalboxlaw17_few t0_0 t0_1 t0_2 t0_3 t0_4 t0_5 t0_6 l1 h Q) : N_signalboxlaw17_few t0_0 t0_1 t0_2 t0_3 t0_4 t0_5 t0_6 l1 h Q :=
  Nf.of_ev Try.call22 Try.func22 (c := bodyOf Try.f22) rfl mixed C_signalboxlaw17_few D_signalboxlaw17_few 400 (args := [.agg #[.int .i64 t0_0, .int .i64 t0_1, .int .i64 t0_2, .int .i64 t0_3, .int .i64 t0_4, .int .i64 t0_5, .slice t0_6.p t0_6.n t0_6.c], .slice l1.p l1.n l1.c]) (by rw [E_signalboxlaw17_few]; exact hb)
theorem E_signalboxlaw17_few_2 (l1 : Sl) (t2 : Addr) (t8 : Sl) (t9 : Int) (t10 : Int) : ev Try.prog 22 Try.f22.results.toList C_signalboxlaw17_few D_signalboxlaw17_few 400 true (todoOf Try.f22 2) (T_signalboxlaw17_few_2 l1 t2 t8 t9 t10) = B_signalboxlaw17_few_2 l1 t2 t8 t9 t10 := by kernel_rfl
theorem S_signalboxlaw17_few_2 (l1 : Sl) (t2 : Addr) (t8 : Sl) (t9 : Int) (t10 : Int) {h : Hp} {Q : Value → Hp → Prop} (hb : B_signalboxlaw17_few_2 l1 t2 t8 t9 t10 h Q) : K_signalboxlaw17_few_2 l1 t2 t8 t9 t10 h Q :=
  Cut.of_ev Try.func22 mixed C_signalboxlaw17_few D_signalboxlaw17_few 400 (by rw [E_signalboxlaw17_few_2]; exact hb)
def C_job_New : List (Nat × List Nat) := []
def D_job_New : List (Nat × List Nat) := []
def B_job_New (t0_0 : Int) (t0_1 : Int) (t0_2 : Int) (t0_3 : Int) (t0_4 : Int) (t0_5 : Int) (t0_6 : Sl) : M Value :=
  mNew #[.int .i64 t0_0, .int .i64 t0_1, .int .i64 t0_2, .int .i64 t0_3, .int .i64 t0_4, .int .i64 t0_5, .slice t0_6.p t0_6.n t0_6.c] 40 fun (x1 : Addr) =>
  mLdI .i64 x1 fun (x3_0 : Int) =>
  mLdI .i64 (x1.add 1) fun (x3_1 : Int) =>
  mLdI .i64 (x1.add 2) fun (x3_2 : Int) =>
  mLdI .i64 (x1.add 3) fun (x3_3 : Int) =>
  mLdI .i64 (x1.add 4) fun (x3_4 : Int) =>
  mLdI .i64 (x1.add 5) fun (x3_5 : Int) =>
  mLdL (x1.add 6) fun (x3_6 : Sl) =>
  mLdI .i64 (x1.add 5) fun (x5 : Int) =>
  mLdL (x1.add 6) fun (x8 : Sl) =>
  mNew #[.int .i64 x3_0, .int .i64 x3_1, .int .i64 x3_2, .int .i64 x3_3, .int .i64 x3_4, .int .i64 x3_5, .slice x3_6.p x3_6.n x3_6.c, .int .i64 (0 : Int), .int .i64 (0 : Int), .int .i64 (0 : Int), .int .i64 (0 : Int), .int .i64 (if (0 : Int) > x5 then (0 : Int) else x5), .bool false, .bool false, .bool ((x8.n : Int) == (0 : Int))] 107 fun (x12 : Addr) =>
  mRet (.pointer (some x12))
theorem E_job_New (t0_0 : Int) (t0_1 : Int) (t0_2 : Int) (t0_3 : Int) (t0_4 : Int) (t0_5 : Int) (t0_6 : Sl) : ev Try.prog 23 Try.f23.results.toList C_job_New D_job_New 400 false [.code (bodyOf Try.f23)] (List.map some [.agg #[.int .i64 t0_0, .int .i64 t0_1, .int .i64 t0_2, .int .i64 t0_3, .int .i64 t0_4, .int .i64 t0_5, .slice t0_6.p t0_6.n t0_6.c]] ++ List.replicate (Try.f23.ntmps - List.length ([.agg #[.int .i64 t0_0, .int .i64 t0_1, .int .i64 t0_2, .int .i64 t0_3, .int .i64 t0_4, .int .i64 t0_5, .slice t0_6.p t0_6.n t0_6.c]] : List Value)) none) = B_job_New t0_0 t0_1 t0_2 t0_3 t0_4 t0_5 t0_6 := by kernel_rfl
theorem S_job_New (t0_0 : Int) (t0_1 : Int) (t0_2 : Int) (t0_3 : Int) (t0_4 : Int) (t0_5 : Int) (t0_6 : Sl) {h : Hp} {Q : Value → Hp → Prop} (hb : B_job_New t0_0 t0_1 t0_2 t0_3 t0_4 t0_5 t0_6 h Q) : N_job_New t0_0 t0_1 t0_2 t0_3 t0_4 t0_5 t0_6 h Q :=
  Nf.of_ev Try.call23 Try.func23 (c := bodyOf Try.f23) rfl mixed C_job_New D_job_New 400 (args := [.agg #[.int .i64 t0_0, .int .i64 t0_1, .int .i64 t0_2, .int .i64 t0_3, .int .i64 t0_4, .int .i64 t0_5, .slice t0_6.p t0_6.n t0_6.c]]) (by rw [E_job_New]; exact hb)
def C_job_Job_Begin : List (Nat × List Nat) := []
def D_job_Job_Begin : List (Nat × List Nat) := [(13, [0, 1, 2, 3, 4, 5, 6, 7, 8])]
def B_job_Job_Begin (j0 : Option Addr) (cost1 : Int) : M Value :=
  mBind (N_job_Job_Op j0) fun r9 =>
  unT r9 fun x9l =>
  unC x9l fun x9v0 x9l0 =>
  unA x9v0 fun x9_0l =>
  unC x9_0l fun x9_0v0 x9_0l0 =>
  unI .i64 x9_0v0 fun (x9_0_0 : Int) =>
  unC x9_0l0 fun x9_0v1 x9_0l1 =>
  unI .i64 x9_0v1 fun (x9_0_1 : Int) =>
  unC x9_0l1 fun x9_0v2 x9_0l2 =>
  unI .i64 x9_0v2 fun (x9_0_2 : Int) =>
  unE x9_0l2 <|
  unC x9l0 fun x9v1 x9l1 =>
  unB x9v1 fun (x9_1 : Bool) =>
  unE x9l1 <|
  mNew #[.int .i64 (0 : Int), .int .i64 (0 : Int), .int .i64 (0 : Int)] 52 fun (x5 : Addr) =>
  mSt x5 (.int .i64 x9_0_0) <|
  mSt (x5.add 1) (.int .i64 x9_0_1) <|
  mSt (x5.add 2) (.int .i64 x9_0_2) <|
  mIf (!x9_1) (
    mRet (.int .i64 (1 : Int))) (
    mNil j0 fun (a5 : Addr) =>
    mSt (a5.add 8) (.int .i64 (if (1 : Int) > cost1 then (1 : Int) else cost1)) <|
    mLdI .i64 x5 fun (x20 : Int) =>
    mIf (x20 == (3 : Int)) (
      mNil j0 fun (a11 : Addr) =>
      mLdI .i64 (a11.add 9) fun (x26 : Int) =>
      mNil j0 fun (a15 : Addr) =>
      mSt (a15.add 9) (.int .i64 (IntKind.i64.wrap (x26 + (1 : Int)))) <|
      mRet (.int .i64 (0 : Int))) (
      mIf (x20 == (4 : Int)) (
        mNil j0 fun (a19 : Addr) =>
        mLdI .i64 (a19.add 9) fun (x36 : Int) =>
        mNil j0 fun (a23 : Addr) =>
        mSt (a23.add 9) (.int .i64 (if (0 : Int) > (IntKind.i64.wrap (x36 - (1 : Int))) then (0 : Int) else (IntKind.i64.wrap (x36 - (1 : Int))))) <|
        mRet (.int .i64 (0 : Int))) (
        mIf (x20 == (7 : Int)) (
          mLdI .i64 (x5.add 1) fun (x45 : Int) =>
          mBind (N_job_Job_push j0 x45) fun r46 =>
          unI .i64 r46 fun (x46 : Int) =>
          mRet (.int .i64 x46)) (
          mIf (x20 == (8 : Int)) (
            mNil j0 fun (a30 : Addr) =>
            mLdI .i64 (a30.add 10) fun (x53 : Int) =>
            mLdI .i64 (x5.add 1) fun (x55 : Int) =>
            mNil j0 fun (a36 : Addr) =>
            mSt (a36.add 10) (.int .i64 (if (0 : Int) > (IntKind.i64.wrap (x53 - x55)) then (0 : Int) else (IntKind.i64.wrap (x53 - x55)))) <|
            mRet (.int .i64 (0 : Int))) (
            mRet (.int .i64 (0 : Int)))))))
theorem E_job_Job_Begin (j0 : Option Addr) (cost1 : Int) : ev Try.prog 24 Try.f24.results.toList C_job_Job_Begin D_job_Job_Begin 400 false [.code (bodyOf Try.f24)] (List.map some [.pointer j0, .int .i64 cost1] ++ List.replicate (Try.f24.ntmps - List.length ([.pointer j0, .int .i64 cost1] : List Value)) none) = B_job_Job_Begin j0 cost1 := by kernel_rfl
theorem S_job_Job_Begin (j0 : Option Addr) (cost1 : Int) {h : Hp} {Q : Value → Hp → Prop} (hb : B_job_Job_Begin j0 cost1 h Q) : N_job_Job_Begin j0 cost1 h Q :=
  Nf.of_ev Try.call24 Try.func24 (c := bodyOf Try.f24) rfl mixed C_job_Job_Begin D_job_Job_Begin 400 (args := [.pointer j0, .int .i64 cost1]) (by rw [E_job_Job_Begin]; exact hb)
def C_job_Job_Withhold : List (Nat × List Nat) := []
def D_job_Job_Withhold : List (Nat × List Nat) := []
def B_job_Job_Withhold (j0 : Option Addr) : M Value :=
  mBind (N_job_Job_Over j0) fun r4 =>
  unB r4 fun (x4 : Bool) =>
  mBind (mIf x4 (mRet true) (mNil j0 fun (a3 : Addr) =>
    mLdI .i64 (a3.add 11) fun (x9 : Int) =>
    mRet (x9 == (0 : Int)))) fun (b6 : Bool) =>
  mIf b6 (
    mRet (.bool false)) (
    mNil j0 fun (a8 : Addr) =>
    mSt (a8.add 12) (.bool true) <|
    mRet (.bool true))
theorem E_job_Job_Withhold (j0 : Option Addr) : ev Try.prog 25 Try.f25.results.toList C_job_Job_Withhold D_job_Job_Withhold 400 false [.code (bodyOf Try.f25)] (List.map some [.pointer j0] ++ List.replicate (Try.f25.ntmps - List.length ([.pointer j0] : List Value)) none) = B_job_Job_Withhold j0 := by kernel_rfl
theorem S_job_Job_Withhold (j0 : Option Addr) {h : Hp} {Q : Value → Hp → Prop} (hb : B_job_Job_Withhold j0 h Q) : N_job_Job_Withhold j0 h Q :=
  Nf.of_ev Try.call25 Try.func25 (c := bodyOf Try.f25) rfl mixed C_job_Job_Withhold D_job_Job_Withhold 400 (args := [.pointer j0]) (by rw [E_job_Job_Withhold]; exact hb)
def C_job_Job_Burn : List (Nat × List Nat) := [(7, [0, 5])]
def D_job_Job_Burn : List (Nat × List Nat) := [(9, [0, 1, 2, 3, 4, 5, 6, 7, 8, 9, 10, 11, 12, 13, 14, 15, 16, 17])]
def T_job_Job_Burn_7 (j0 : Option Addr) (n5 : Int) : Env := mkEnv [(0, .pointer j0), (5, .int .i64 n5)] 68 0
def K_job_Job_Burn_7 (j0 : Option Addr) (n5 : Int) : M Value := Cut Try.prog 26 (todoOf Try.f26 7) (T_job_Job_Burn_7 j0 n5)
def B_job_Job_Burn (j0 : Option Addr) (cycles1 : Int) : M Value :=
  mBind (N_job_Job_Rest j0) fun r9 =>
  unI .i64 r9 fun (x9 : Int) =>
  mIf ((if x9 < (if (0 : Int) > cycles1 then (0 : Int) else cycles1) then x9 else (if (0 : Int) > cycles1 then (0 : Int) else cycles1)) == (0 : Int)) (
    mRet (.int .i64 (0 : Int))) (
    mNil j0 fun (a3 : Addr) =>
    mLdI .i64 (a3.add 8) fun (x16 : Int) =>
    mNil j0 fun (a7 : Addr) =>
    mSt (a7.add 8) (.int .i64 (IntKind.i64.wrap (x16 - (if x9 < (if (0 : Int) > cycles1 then (0 : Int) else cycles1) then x9 else (if (0 : Int) > cycles1 then (0 : Int) else cycles1))))) <|
    mNil j0 fun (a11 : Addr) =>
    mLdB (a11.add 12) fun (x24 : Bool) =>
    mIf x24 (
      mNil j0 fun (a15 : Addr) =>
      mLdI .i64 (a15.add 11) fun (x29 : Int) =>
      mNil j0 fun (a19 : Addr) =>
      mSt (a19.add 11) (.int .i64 (if (0 : Int) > (IntKind.i64.wrap (x29 - (if x9 < (if (0 : Int) > cycles1 then (0 : Int) else cycles1) then x9 else (if (0 : Int) > cycles1 then (0 : Int) else cycles1)))) then (0 : Int) else (IntKind.i64.wrap (x29 - (if x9 < (if (0 : Int) > cycles1 then (0 : Int) else cycles1) then x9 else (if (0 : Int) > cycles1 then (0 : Int) else cycles1)))))) <|
      K_job_Job_Burn_7 j0 (if x9 < (if (0 : Int) > cycles1 then (0 : Int) else cycles1) then x9 else (if (0 : Int) > cycles1 then (0 : Int) else cycles1))) (
      K_job_Job_Burn_7 j0 (if x9 < (if (0 : Int) > cycles1 then (0 : Int) else cycles1) then x9 else (if (0 : Int) > cycles1 then (0 : Int) else cycles1))))
def B_job_Job_Burn_7 (j0 : Option Addr) (n5 : Int) : M Value :=
  mNil j0 fun (a23 : Addr) =>
  mLdI .i64 (a23.add 8) fun (x38 : Int) =>
  mIf (x38 == (0 : Int)) (
    mNil j0 fun (a27 : Addr) =>
    mLdI .i64 (a27.add 7) fun (x43 : Int) =>
    mNil j0 fun (a31 : Addr) =>
    mSt (a31.add 7) (.int .i64 (IntKind.i64.wrap (x43 + (1 : Int)))) <|
    mNil j0 fun (a35 : Addr) =>
    mLdB (a35.add 13) fun (x51 : Bool) =>
    mBind (mIf x51 (mRet true) (mNil j0 fun (a39 : Addr) =>
      mLdI .i64 (a39.add 7) fun (x56 : Int) =>
      mNil j0 fun (a43 : Addr) =>
      mLdL (a43.add 6) fun (x61 : Sl) =>
      mRet (x56 == (x61.n : Int)))) fun (b47 : Bool) =>
    mNil j0 fun (a49 : Addr) =>
    mSt (a49.add 14) (.bool b47) <|
    mRet (.int .i64 n5)) (
    mRet (.int .i64 n5))
theorem E_job_Job_Burn (j0 : Option Addr) (cycles1 : Int) : ev Try.prog 26 Try.f26.results.toList C_job_Job_Burn D_job_Job_Burn 400 false [.code (bodyOf Try.f26)] (List.map some [.pointer j0, .int .i64 cycles1] ++ List.replicate (Try.f26.ntmps - List.length ([.pointer j0, .int .i64 cycles1] : List Value)) none) = B_job_Job_Burn j0 cycles1 := by kernel_rfl
theorem S_job_Job_Burn (j0 : Option Addr) (cycles1 : Int) {h : Hp} {Q : Value → Hp → Prop} (hb : B_job_Job_Burn j0 cycles1 h Q) : N_job_Job_Burn j0 cycles1 h Q :=
  Nf.of_ev Try.call26 Try.func26 (c := bodyOf Try.f26) rfl mixed C_job_Job_Burn D_job_Job_Burn 400 (args := [.pointer j0, .int .i64 cycles1]) (by rw [E_job_Job_Burn]; exact hb)
theorem E_job_Job_Burn_7 (j0 : Option Addr) (n5 : Int) : ev Try.prog 26 Try.f26.results.toList C_job_Job_Burn D_job_Job_Burn 400 true (todoOf Try.f26 7) (T_job_Job_Burn_7 j0 n5) = B_job_Job_Burn_7 j0 n5 := by kernel_rfl
theorem S_job_Job_Burn_7 (j0 : Option Addr) (n5 : Int) {h : Hp} {Q : Value → Hp → Prop} (hb : B_job_Job_Burn_7 j0 n5 h Q) : K_job_Job_Burn_7 j0 n5 h Q :=
  Cut.of_ev Try.func26 mixed C_job_Job_Burn D_job_Job_Burn 400 (by rw [E_job_Job_Burn_7]; exact hb)
def C_job_Job_Left : List (Nat × List Nat) := []
def D_job_Job_Left : List (Nat × List Nat) := []
def B_job_Job_Left (j0 : Option Addr) : M Value :=
  mIf j0.isNone (
    mRet (.tuple #[.int .i64 (0 : Int), .bool false])) (
    mNil j0 fun (a2 : Addr) =>
    mLdI .i64 (a2.add 11) fun (x9 : Int) =>
    mNil j0 fun (a6 : Addr) =>
    mLdB (a6.add 12) fun (x13 : Bool) =>
    mRet (.tuple #[.int .i64 x9, .bool x13]))
theorem E_job_Job_Left (j0 : Option Addr) : ev Try.prog 27 Try.f27.results.toList C_job_Job_Left D_job_Job_Left 400 false [.code (bodyOf Try.f27)] (List.map some [.pointer j0] ++ List.replicate (Try.f27.ntmps - List.length ([.pointer j0] : List Value)) none) = B_job_Job_Left j0 := by kernel_rfl
theorem S_job_Job_Left (j0 : Option Addr) {h : Hp} {Q : Value → Hp → Prop} (hb : B_job_Job_Left j0 h Q) : N_job_Job_Left j0 h Q :=
  Nf.of_ev Try.call27 Try.func27 (c := bodyOf Try.f27) rfl mixed C_job_Job_Left D_job_Job_Left 400 (args := [.pointer j0]) (by rw [E_job_Job_Left]; exact hb)
def C_job_Job_Rest : List (Nat × List Nat) := []
def D_job_Job_Rest : List (Nat × List Nat) := []
def B_job_Job_Rest (j0 : Option Addr) : M Value :=
  mIf j0.isNone (
    mRet (.int .i64 (0 : Int))) (
    mNil j0 fun (a2 : Addr) =>
    mLdI .i64 (a2.add 8) fun (x8 : Int) =>
    mRet (.int .i64 x8))
theorem E_job_Job_Rest (j0 : Option Addr) : ev Try.prog 28 Try.f28.results.toList C_job_Job_Rest D_job_Job_Rest 400 false [.code (bodyOf Try.f28)] (List.map some [.pointer j0] ++ List.replicate (Try.f28.ntmps - List.length ([.pointer j0] : List Value)) none) = B_job_Job_Rest j0 := by kernel_rfl
theorem S_job_Job_Rest (j0 : Option Addr) {h : Hp} {Q : Value → Hp → Prop} (hb : B_job_Job_Rest j0 h Q) : N_job_Job_Rest j0 h Q :=
  Nf.of_ev Try.call28 Try.func28 (c := bodyOf Try.f28) rfl mixed C_job_Job_Rest D_job_Job_Rest 400 (args := [.pointer j0]) (by rw [E_job_Job_Rest]; exact hb)
def C_job_Job_At : List (Nat × List Nat) := []
def D_job_Job_At : List (Nat × List Nat) := []
def B_job_Job_At (j0 : Option Addr) : M Value :=
  mIf j0.isNone (
    mRet (.int .i64 (0 : Int))) (
    mNil j0 fun (a2 : Addr) =>
    mLdI .i64 (a2.add 7) fun (x8 : Int) =>
    mRet (.int .i64 x8))
theorem E_job_Job_At (j0 : Option Addr) : ev Try.prog 29 Try.f29.results.toList C_job_Job_At D_job_Job_At 400 false [.code (bodyOf Try.f29)] (List.map some [.pointer j0] ++ List.replicate (Try.f29.ntmps - List.length ([.pointer j0] : List Value)) none) = B_job_Job_At j0 := by kernel_rfl
theorem S_job_Job_At (j0 : Option Addr) {h : Hp} {Q : Value → Hp → Prop} (hb : B_job_Job_At j0 h Q) : N_job_Job_At j0 h Q :=
  Nf.of_ev Try.call29 Try.func29 (c := bodyOf Try.f29) rfl mixed C_job_Job_At D_job_Job_At 400 (args := [.pointer j0]) (by rw [E_job_Job_At]; exact hb)
def C_job_Job_Over : List (Nat × List Nat) := []
def D_job_Job_Over : List (Nat × List Nat) := []
def B_job_Job_Over (j0 : Option Addr) : M Value :=
  mBind (mIf j0.isNone (mRet true) (mNil j0 fun (a2 : Addr) =>
    mLdB (a2.add 14) fun (x9 : Bool) =>
    mRet x9)) fun (b5 : Bool) =>
  mRet (.bool b5)
theorem E_job_Job_Over (j0 : Option Addr) : ev Try.prog 30 Try.f30.results.toList C_job_Job_Over D_job_Job_Over 400 false [.code (bodyOf Try.f30)] (List.map some [.pointer j0] ++ List.replicate (Try.f30.ntmps - List.length ([.pointer j0] : List Value)) none) = B_job_Job_Over j0 := by kernel_rfl
theorem S_job_Job_Over (j0 : Option Addr) {h : Hp} {Q : Value → Hp → Prop} (hb : B_job_Job_Over j0 h Q) : N_job_Job_Over j0 h Q :=
  Nf.of_ev Try.call30 Try.func30 (c := bodyOf Try.f30) rfl mixed C_job_Job_Over D_job_Job_Over 400 (args := [.pointer j0]) (by rw [E_job_Job_Over]; exact hb)
def C_job_Job_Fault : List (Nat × List Nat) := []
def D_job_Job_Fault : List (Nat × List Nat) := []
def B_job_Job_Fault (j0 : Option Addr) : M Value :=
  mBind (mIf (!j0.isNone) (mNil j0 fun (a2 : Addr) =>
    mLdB (a2.add 13) fun (x9 : Bool) =>
    mRet x9) (mRet false)) fun (b5 : Bool) =>
  mRet (.bool b5)
theorem E_job_Job_Fault (j0 : Option Addr) : ev Try.prog 31 Try.f31.results.toList C_job_Job_Fault D_job_Job_Fault 400 false [.code (bodyOf Try.f31)] (List.map some [.pointer j0] ++ List.replicate (Try.f31.ntmps - List.length ([.pointer j0] : List Value)) none) = B_job_Job_Fault j0 := by kernel_rfl
theorem S_job_Job_Fault (j0 : Option Addr) {h : Hp} {Q : Value → Hp → Prop} (hb : B_job_Job_Fault j0 h Q) : N_job_Job_Fault j0 h Q :=
  Nf.of_ev Try.call31 Try.func31 (c := bodyOf Try.f31) rfl mixed C_job_Job_Fault D_job_Job_Fault 400 (args := [.pointer j0]) (by rw [E_job_Job_Fault]; exact hb)
def C_job_Job_Open : List (Nat × List Nat) := []
def D_job_Job_Open : List (Nat × List Nat) := []
def B_job_Job_Open (j0 : Option Addr) : M Value :=
  mBind (mIf (!j0.isNone) (mNil j0 fun (a2 : Addr) =>
    mLdI .i64 (a2.add 9) fun (x9 : Int) =>
    mRet (decide (x9 > (0 : Int)))) (mRet false)) fun (b5 : Bool) =>
  mRet (.bool b5)
theorem E_job_Job_Open (j0 : Option Addr) : ev Try.prog 32 Try.f32.results.toList C_job_Job_Open D_job_Job_Open 400 false [.code (bodyOf Try.f32)] (List.map some [.pointer j0] ++ List.replicate (Try.f32.ntmps - List.length ([.pointer j0] : List Value)) none) = B_job_Job_Open j0 := by kernel_rfl
theorem S_job_Job_Open (j0 : Option Addr) {h : Hp} {Q : Value → Hp → Prop} (hb : B_job_Job_Open j0 h Q) : N_job_Job_Open j0 h Q :=
  Nf.of_ev Try.call32 Try.func32 (c := bodyOf Try.f32) rfl mixed C_job_Job_Open D_job_Job_Open 400 (args := [.pointer j0]) (by rw [E_job_Job_Open]; exact hb)
def C_job_Job_Op : List (Nat × List Nat) := []
def D_job_Job_Op : List (Nat × List Nat) := [(3, [0, 1, 2, 3, 4, 5, 6, 7, 8, 9, 10])]
def B_job_Job_Op (j0 : Option Addr) : M Value :=
  mNew #[.int .i64 (0 : Int), .int .i64 (0 : Int), .int .i64 (0 : Int)] 52 fun (x2 : Addr) =>
  mBind (N_job_Job_Over j0) fun r5 =>
  unB r5 fun (x5 : Bool) =>
  mBind (mIf x5 (mRet true) (mNil j0 fun (a4 : Addr) =>
    mLdI .i64 (a4.add 8) fun (x10 : Int) =>
    mRet (decide (x10 > (0 : Int))))) fun (b7 : Bool) =>
  mIf b7 (
    mSt x2 (.int .i64 (0 : Int)) <|
    mSt (x2.add 1) (.int .i64 (0 : Int)) <|
    mSt (x2.add 2) (.int .i64 (0 : Int)) <|
    mLdI .i64 x2 fun (q9_0 : Int) =>
    mLdI .i64 (x2.add 1) fun (q9_1 : Int) =>
    mLdI .i64 (x2.add 2) fun (q9_2 : Int) =>
    mRet (.tuple #[.agg #[.int .i64 q9_0, .int .i64 q9_1, .int .i64 q9_2], .bool false])) (
    mNil j0 fun (a11 : Addr) =>
    mLdL (a11.add 6) fun (x18 : Sl) =>
    mNil j0 fun (a16 : Addr) =>
    mLdI .i64 (a16.add 7) fun (x22 : Int) =>
    mIdx x18 x22 3 fun (x23 : Addr) =>
    mLdI .i64 x23 fun (x24_0 : Int) =>
    mLdI .i64 (x23.add 1) fun (x24_1 : Int) =>
    mLdI .i64 (x23.add 2) fun (x24_2 : Int) =>
    mSt x2 (.int .i64 x24_0) <|
    mSt (x2.add 1) (.int .i64 x24_1) <|
    mSt (x2.add 2) (.int .i64 x24_2) <|
    mLdI .i64 x2 fun (q22_0 : Int) =>
    mLdI .i64 (x2.add 1) fun (q22_1 : Int) =>
    mLdI .i64 (x2.add 2) fun (q22_2 : Int) =>
    mRet (.tuple #[.agg #[.int .i64 q22_0, .int .i64 q22_1, .int .i64 q22_2], .bool true]))
theorem E_job_Job_Op (j0 : Option Addr) : ev Try.prog 33 Try.f33.results.toList C_job_Job_Op D_job_Job_Op 400 false [.code (bodyOf Try.f33)] (List.map some [.pointer j0] ++ List.replicate (Try.f33.ntmps - List.length ([.pointer j0] : List Value)) none) = B_job_Job_Op j0 := by kernel_rfl
theorem S_job_Job_Op (j0 : Option Addr) {h : Hp} {Q : Value → Hp → Prop} (hb : B_job_Job_Op j0 h Q) : N_job_Job_Op j0 h Q :=
  Nf.of_ev Try.call33 Try.func33 (c := bodyOf Try.f33) rfl mixed C_job_Job_Op D_job_Job_Op 400 (args := [.pointer j0]) (by rw [E_job_Job_Op]; exact hb)
def C_job_Job_Pushed : List (Nat × List Nat) := []
def D_job_Job_Pushed : List (Nat × List Nat) := []
def B_job_Job_Pushed (j0 : Option Addr) : M Value :=
  mIf j0.isNone (
    mRet (.int .i64 (0 : Int))) (
    mNil j0 fun (a2 : Addr) =>
    mLdI .i64 (a2.add 10) fun (x8 : Int) =>
    mRet (.int .i64 x8))
theorem E_job_Job_Pushed (j0 : Option Addr) : ev Try.prog 34 Try.f34.results.toList C_job_Job_Pushed D_job_Job_Pushed 400 false [.code (bodyOf Try.f34)] (List.map some [.pointer j0] ++ List.replicate (Try.f34.ntmps - List.length ([.pointer j0] : List Value)) none) = B_job_Job_Pushed j0 := by kernel_rfl
theorem S_job_Job_Pushed (j0 : Option Addr) {h : Hp} {Q : Value → Hp → Prop} (hb : B_job_Job_Pushed j0 h Q) : N_job_Job_Pushed j0 h Q :=
  Nf.of_ev Try.call34 Try.func34 (c := bodyOf Try.f34) rfl mixed C_job_Job_Pushed D_job_Job_Pushed 400 (args := [.pointer j0]) (by rw [E_job_Job_Pushed]; exact hb)
def C_job_Job_push : List (Nat × List Nat) := []
def D_job_Job_push : List (Nat × List Nat) := []
def B_job_Job_push (j0 : Option Addr) (n1 : Int) : M Value :=
  mNil j0 fun (a2 : Addr) =>
  mLdI .i64 (a2.add 10) fun (x8 : Int) =>
  mNil j0 fun (a6 : Addr) =>
  mLdI .i64 (a6.add 4) fun (x15 : Int) =>
  mIf (decide ((IntKind.i64.wrap (x8 + n1)) > x15)) (
    mNil j0 fun (a11 : Addr) =>
    mSt (a11.add 13) (.bool true) <|
    mNil j0 fun (a15 : Addr) =>
    mSt (a15.add 8) (.int .i64 (1 : Int)) <|
    mRet (.int .i64 (11 : Int))) (
    mNil j0 fun (a19 : Addr) =>
    mLdI .i64 (a19.add 10) fun (x26 : Int) =>
    mNil j0 fun (a23 : Addr) =>
    mSt (a23.add 10) (.int .i64 (IntKind.i64.wrap (x26 + n1))) <|
    mRet (.int .i64 (0 : Int)))
theorem E_job_Job_push (j0 : Option Addr) (n1 : Int) : ev Try.prog 65 Try.f65.results.toList C_job_Job_push D_job_Job_push 400 false [.code (bodyOf Try.f65)] (List.map some [.pointer j0, .int .i64 n1] ++ List.replicate (Try.f65.ntmps - List.length ([.pointer j0, .int .i64 n1] : List Value)) none) = B_job_Job_push j0 n1 := by kernel_rfl
theorem S_job_Job_push (j0 : Option Addr) (n1 : Int) {h : Hp} {Q : Value → Hp → Prop} (hb : B_job_Job_push j0 n1 h Q) : N_job_Job_push j0 n1 h Q :=
  Nf.of_ev Try.call65 Try.func65 (c := bodyOf Try.f65) rfl mixed C_job_Job_push D_job_Job_push 400 (args := [.pointer j0, .int .i64 n1]) (by rw [E_job_Job_push]; exact hb)
def C_signalboxlaw17_JobParts : List (Nat × List Nat) := [(6, [1, 2, 3, 4, 11, 12])]
def D_signalboxlaw17_JobParts : List (Nat × List Nat) := [(5, [])]
def T_signalboxlaw17_JobParts_6 (cost1 : Int) (a2 : Int) (b3 : Int) (withhold4 : Bool) (x11 : Option Addr) (y12 : Option Addr) : Env := mkEnv [(1, .int .u16 cost1), (2, .int .u16 a2), (3, .int .u16 b3), (4, .bool withhold4), (11, .pointer x11), (12, .pointer y12)] 108 0
def K_signalboxlaw17_JobParts_6 (cost1 : Int) (a2 : Int) (b3 : Int) (withhold4 : Bool) (x11 : Option Addr) (y12 : Option Addr) : M Value := Cut Try.prog 5 (todoOf Try.f5 6) (T_signalboxlaw17_JobParts_6 cost1 a2 b3 withhold4 x11 y12)
def B_signalboxlaw17_JobParts (t0_0 : Int) (t0_1 : Int) (t0_2 : Int) (t0_3 : Int) (t0_4 : Int) (t0_5 : Int) (t0_6 : Sl) (cost1 : Int) (a2 : Int) (b3 : Int) (withhold4 : Bool) : M Value :=
  mNew #[.int .i64 t0_0, .int .i64 t0_1, .int .i64 t0_2, .int .i64 t0_3, .int .i64 t0_4, .int .i64 t0_5, .slice t0_6.p t0_6.n t0_6.c] 40 fun (x5 : Addr) =>
  mBind (N_signalboxlaw17_fixed) fun r19 =>
  unB r19 fun (x19 : Bool) =>
  mIf (!x19) (
    mRet (.bool false)) (
    mLdI .i64 x5 fun (x21_0 : Int) =>
    mLdI .i64 (x5.add 1) fun (x21_1 : Int) =>
    mLdI .i64 (x5.add 2) fun (x21_2 : Int) =>
    mLdI .i64 (x5.add 3) fun (x21_3 : Int) =>
    mLdI .i64 (x5.add 4) fun (x21_4 : Int) =>
    mLdI .i64 (x5.add 5) fun (x21_5 : Int) =>
    mLdL (x5.add 6) fun (x21_6 : Sl) =>
    mBind (N_signalboxlaw17_few x21_0 x21_1 x21_2 x21_3 x21_4 x21_5 x21_6 (Sl.mk none 0 0)) fun r22 =>
    unB r22 fun (x22 : Bool) =>
    mIf (!x22) (
      mRet (.bool true)) (
      mAnd (
        mLdI .i64 x5 fun (x24_9_0 : Int) =>
        mLdI .i64 (x5.add 1) fun (x24_9_1 : Int) =>
        mLdI .i64 (x5.add 2) fun (x24_9_2 : Int) =>
        mLdI .i64 (x5.add 3) fun (x24_9_3 : Int) =>
        mLdI .i64 (x5.add 4) fun (x24_9_4 : Int) =>
        mLdI .i64 (x5.add 5) fun (x24_9_5 : Int) =>
        mLdL (x5.add 6) fun (x24_9_6 : Sl) =>
        mAnd (
          mBind (N_job_New x24_9_0 x24_9_1 x24_9_2 x24_9_3 x24_9_4 x24_9_5 x24_9_6) fun r25_13 =>
          unP r25_13 fun (x25_13 : Option Addr) =>
          mLdI .i64 x5 fun (x26_14_0 : Int) =>
          mLdI .i64 (x5.add 1) fun (x26_14_1 : Int) =>
          mLdI .i64 (x5.add 2) fun (x26_14_2 : Int) =>
          mLdI .i64 (x5.add 3) fun (x26_14_3 : Int) =>
          mLdI .i64 (x5.add 4) fun (x26_14_4 : Int) =>
          mLdI .i64 (x5.add 5) fun (x26_14_5 : Int) =>
          mLdL (x5.add 6) fun (x26_14_6 : Sl) =>
          mBind (N_job_New x26_14_0 x26_14_1 x26_14_2 x26_14_3 x26_14_4 x26_14_5 x26_14_6) fun r27_15 =>
          unP r27_15 fun (x27_15 : Option Addr) =>
          K_signalboxlaw17_JobParts_6 cost1 a2 b3 withhold4 x25_13 x27_15) (
          mLdI .i64 x5 fun (x26_10_0 : Int) =>
          mLdI .i64 (x5.add 1) fun (x26_10_1 : Int) =>
          mLdI .i64 (x5.add 2) fun (x26_10_2 : Int) =>
          mLdI .i64 (x5.add 3) fun (x26_10_3 : Int) =>
          mLdI .i64 (x5.add 4) fun (x26_10_4 : Int) =>
          mLdI .i64 (x5.add 5) fun (x26_10_5 : Int) =>
          mLdL (x5.add 6) fun (x26_10_6 : Sl) =>
          mBind (N_job_New x24_9_0 x24_9_1 x24_9_2 x24_9_3 x24_9_4 x24_9_5 x24_9_6) fun r25_11 =>
          unP r25_11 fun (x25_11 : Option Addr) =>
          mBind (N_job_New x26_10_0 x26_10_1 x26_10_2 x26_10_3 x26_10_4 x26_10_5 x26_10_6) fun r27_12 =>
          unP r27_12 fun (x27_12 : Option Addr) =>
          K_signalboxlaw17_JobParts_6 cost1 a2 b3 withhold4 x25_11 x27_12)) (
        mLdI .i64 x5 fun (x26_0 : Int) =>
        mLdI .i64 (x5.add 1) fun (x26_1 : Int) =>
        mLdI .i64 (x5.add 2) fun (x26_2 : Int) =>
        mLdI .i64 (x5.add 3) fun (x26_3 : Int) =>
        mLdI .i64 (x5.add 4) fun (x26_4 : Int) =>
        mLdI .i64 (x5.add 5) fun (x26_5 : Int) =>
        mLdL (x5.add 6) fun (x26_6 : Sl) =>
        mLdI .i64 x5 fun (x24_0 : Int) =>
        mLdI .i64 (x5.add 1) fun (x24_1 : Int) =>
        mLdI .i64 (x5.add 2) fun (x24_2 : Int) =>
        mLdI .i64 (x5.add 3) fun (x24_3 : Int) =>
        mLdI .i64 (x5.add 4) fun (x24_4 : Int) =>
        mLdI .i64 (x5.add 5) fun (x24_5 : Int) =>
        mLdL (x5.add 6) fun (x24_6 : Sl) =>
        mBind (N_job_New x24_0 x24_1 x24_2 x24_3 x24_4 x24_5 x24_6) fun r25 =>
        unP r25 fun (x25 : Option Addr) =>
        mBind (N_job_New x26_0 x26_1 x26_2 x26_3 x26_4 x26_5 x26_6) fun r27 =>
        unP r27 fun (x27 : Option Addr) =>
        K_signalboxlaw17_JobParts_6 cost1 a2 b3 withhold4 x25 x27)))
def B_signalboxlaw17_JobParts_6 (cost1 : Int) (a2 : Int) (b3 : Int) (withhold4 : Bool) (x11 : Option Addr) (y12 : Option Addr) : M Value :=
  mBind (N_job_Job_Begin x11 (IntKind.i64.wrap cost1)) fun r31 =>
  unI .i64 r31 fun (x31 : Int) =>
  mBind (N_job_Job_Begin y12 (IntKind.i64.wrap cost1)) fun r35 =>
  unI .i64 r35 fun (x35 : Int) =>
  mBind (mIf (x31 != x35) (mRet true) (mBind (mIf withhold4 (mBind (N_job_Job_Withhold x11) fun r41 =>
    unB r41 fun (x41 : Bool) =>
    mBind (N_job_Job_Withhold y12) fun r43 =>
    unB r43 fun (x43 : Bool) =>
    mRet (!(x41 == x43))) (mRet false)) fun (b20 : Bool) =>
    mRet b20)) fun (b21 : Bool) =>
  mIf b21 (
    mRet (.bool false)) (
    mBind (N_job_Job_Burn x11 (IntKind.i64.wrap a2)) fun r50 =>
    unI .i64 r50 fun (x50 : Int) =>
    mBind (N_job_Job_Burn x11 (IntKind.i64.wrap b3)) fun r55 =>
    unI .i64 r55 fun (x55 : Int) =>
    mBind (N_job_Job_Burn y12 (IntKind.i64.wrap ((IntKind.i64.wrap a2) + (IntKind.i64.wrap b3)))) fun r63 =>
    unI .i64 r63 fun (x63 : Int) =>
    mBind (N_job_Job_Left x11) fun r66 =>
    un2 (unI .i64) unB r66 fun (x66_0 : Int) (x66_1 : Bool) =>
    mBind (N_job_Job_Left y12) fun r71 =>
    un2 (unI .i64) unB r71 fun (x71_0 : Int) (x71_1 : Bool) =>
    mBind (mIf ((IntKind.i64.wrap (x50 + x55)) == x63) (mBind (N_job_Job_Rest x11) fun r79 =>
      unI .i64 r79 fun (x79 : Int) =>
      mBind (N_job_Job_Rest y12) fun r81 =>
      unI .i64 r81 fun (x81 : Int) =>
      mRet (x79 == x81)) (mRet false)) fun (b29 : Bool) =>
    mBind (mIf b29 (mBind (N_job_Job_At x11) fun r86 =>
      unI .i64 r86 fun (x86 : Int) =>
      mBind (N_job_Job_At y12) fun r88 =>
      unI .i64 r88 fun (x88 : Int) =>
      mRet (x86 == x88)) (mRet false)) fun (b32 : Bool) =>
    mBind (mIf b32 (mBind (N_job_Job_Over x11) fun r93 =>
      unB r93 fun (x93 : Bool) =>
      mBind (N_job_Job_Over y12) fun r95 =>
      unB r95 fun (x95 : Bool) =>
      mRet (x93 == x95)) (mRet false)) fun (b35 : Bool) =>
    mRet (.bool ((b35 && (x66_0 == x71_0)) && (x66_1 == x71_1))))
theorem E_signalboxlaw17_JobParts (t0_0 : Int) (t0_1 : Int) (t0_2 : Int) (t0_3 : Int) (t0_4 : Int) (t0_5 : Int) (t0_6 : Sl) (cost1 : Int) (a2 : Int) (b3 : Int) (withhold4 : Bool) : ev Try.prog 5 Try.f5.results.toList C_signalboxlaw17_JobParts D_signalboxlaw17_JobParts 400 false [.code (bodyOf Try.f5)] (List.map some [.agg #[.int .i64 t0_0, .int .i64 t0_1, .int .i64 t0_2, .int .i64 t0_3, .int .i64 t0_4, .int .i64 t0_5, .slice t0_6.p t0_6.n t0_6.c], .int .u16 cost1, .int .u16 a2, .int .u16 b3, .bool withhold4] ++ List.replicate (Try.f5.ntmps - List.length ([.agg #[.int .i64 t0_0, .int .i64 t0_1, .int .i64 t0_2, .int .i64 t0_3, .int .i64 t0_4, .int .i64 t0_5, .slice t0_6.p t0_6.n t0_6.c], .int .u16 cost1, .int .u16 a2, .int .u16 b3, .bool withhold4] : List Value)) none) = B_signalboxlaw17_JobParts t0_0 t0_1 t0_2 t0_3 t0_4 t0_5 t0_6 cost1 a2 b3 withhold4 := by kernel_rfl
theorem S_signalboxlaw17_JobParts (t0_0 : Int) (t0_1 : Int) (t0_2 : Int) (t0_3 : Int) (t0_4 : Int) (t0_5 : Int) (t0_6 : Sl) (cost1 : Int) (a2 : Int) (b3 : Int) (withhold4 : Bool) {h : Hp} {Q : Value → Hp → Prop} (hb : B_signalboxlaw17_JobParts t0_0 t0_1 t0_2 t0_3 t0_4 t0_5 t0_6 cost1 a2 b3 withhold4 h Q) : N_signalboxlaw17_JobParts t0_0 t0_1 t0_2 t0_3 t0_4 t0_5 t0_6 cost1 a2 b3 withhold4 h Q :=
  Nf.of_ev Try.call5 Try.func5 (c := bodyOf Try.f5) rfl mixed C_signalboxlaw17_JobParts D_signalboxlaw17_JobParts 400 (args := [.agg #[.int .i64 t0_0, .int .i64 t0_1, .int .i64 t0_2, .int .i64 t0_3, .int .i64 t0_4, .int .i64 t0_5, .slice t0_6.p t0_6.n t0_6.c], .int .u16 cost1, .int .u16 a2, .int .u16 b3, .bool withhold4]) (by rw [E_signalboxlaw17_JobParts]; exact hb)
theorem E_signalboxlaw17_JobParts_6 (cost1 : Int) (a2 : Int) (b3 : Int) (withhold4 : Bool) (x11 : Option Addr) (y12 : Option Addr) : ev Try.prog 5 Try.f5.results.toList C_signalboxlaw17_JobParts D_signalboxlaw17_JobParts 400 true (todoOf Try.f5 6) (T_signalboxlaw17_JobParts_6 cost1 a2 b3 withhold4 x11 y12) = B_signalboxlaw17_JobParts_6 cost1 a2 b3 withhold4 x11 y12 := by kernel_rfl
theorem S_signalboxlaw17_JobParts_6 (cost1 : Int) (a2 : Int) (b3 : Int) (withhold4 : Bool) (x11 : Option Addr) (y12 : Option Addr) {h : Hp} {Q : Value → Hp → Prop} (hb : B_signalboxlaw17_JobParts_6 cost1 a2 b3 withhold4 x11 y12 h Q) : K_signalboxlaw17_JobParts_6 cost1 a2 b3 withhold4 x11 y12 h Q :=
  Cut.of_ev Try.func5 mixed C_signalboxlaw17_JobParts D_signalboxlaw17_JobParts 400 (by rw [E_signalboxlaw17_JobParts_6]; exact hb)
def C_signalboxlaw17_JobRuns : List (Nat × List Nat) := [(7, [1, 2, 5, 18, 19, 20]), (18, [1, 5, 8, 41, 42]), (26, [1, 5, 8, 9, 10, 11, 41, 42])]
def D_signalboxlaw17_JobRuns : List (Nat × List Nat) := []
def T_signalboxlaw17_JobRuns_7 (costs1 : Sl) (t2 : Addr) (open5 : Int) (t18 : Sl) (t19 : Int) (t20 : Int) : Env := mkEnv [(1, .slice costs1.p costs1.n costs1.c), (2, .pointer (some t2)), (5, .int .i64 open5), (18, .slice t18.p t18.n t18.c), (19, .int .i64 t19), (20, .int .i64 t20)] 103 0
def K_signalboxlaw17_JobRuns_7 (costs1 : Sl) (t2 : Addr) (open5 : Int) (t18 : Sl) (t19 : Int) (t20 : Int) : M Value := Cut Try.prog 6 (todoOf Try.f6 7) (T_signalboxlaw17_JobRuns_7 costs1 t2 open5 t18 t19 t20)
def T_signalboxlaw17_JobRuns_18 (costs1 : Sl) (open5 : Int) (j8 : Option Addr) (t41 : Int) (t42 : Int) : Env := mkEnv [(1, .slice costs1.p costs1.n costs1.c), (5, .int .i64 open5), (8, .pointer j8), (41, .int .i64 t41), (42, .int .i64 t42)] 103 0
def K_signalboxlaw17_JobRuns_18 (costs1 : Sl) (open5 : Int) (j8 : Option Addr) (t41 : Int) (t42 : Int) : M Value := Cut Try.prog 6 (todoOf Try.f6 18) (T_signalboxlaw17_JobRuns_18 costs1 open5 j8 t41 t42)
def T_signalboxlaw17_JobRuns_26 (costs1 : Sl) (open5 : Int) (j8 : Option Addr) (i9 : Int) (cost10 : Int) (e11 : Int) (t41 : Int) (t42 : Int) : Env := mkEnv [(1, .slice costs1.p costs1.n costs1.c), (5, .int .i64 open5), (8, .pointer j8), (9, .int .i64 i9), (10, .int .i64 cost10), (11, .int .i64 e11), (41, .int .i64 t41), (42, .int .i64 t42)] 103 0
def K_signalboxlaw17_JobRuns_26 (costs1 : Sl) (open5 : Int) (j8 : Option Addr) (i9 : Int) (cost10 : Int) (e11 : Int) (t41 : Int) (t42 : Int) : M Value := Cut Try.prog 6 (todoOf Try.f6 26) (T_signalboxlaw17_JobRuns_26 costs1 open5 j8 i9 cost10 e11 t41 t42)
def B_signalboxlaw17_JobRuns (t0_0 : Int) (t0_1 : Int) (t0_2 : Int) (t0_3 : Int) (t0_4 : Int) (t0_5 : Int) (t0_6 : Sl) (costs1 : Sl) : M Value :=
  mNew #[.int .i64 t0_0, .int .i64 t0_1, .int .i64 t0_2, .int .i64 t0_3, .int .i64 t0_4, .int .i64 t0_5, .slice t0_6.p t0_6.n t0_6.c] 40 fun (x2 : Addr) =>
  mBind (N_signalboxlaw17_fixed) fun r12 =>
  unB r12 fun (x12 : Bool) =>
  mIf (!x12) (
    mRet (.bool false)) (
    mLdI .i64 x2 fun (x14_0 : Int) =>
    mLdI .i64 (x2.add 1) fun (x14_1 : Int) =>
    mLdI .i64 (x2.add 2) fun (x14_2 : Int) =>
    mLdI .i64 (x2.add 3) fun (x14_3 : Int) =>
    mLdI .i64 (x2.add 4) fun (x14_4 : Int) =>
    mLdI .i64 (x2.add 5) fun (x14_5 : Int) =>
    mLdL (x2.add 6) fun (x14_6 : Sl) =>
    mBind (N_signalboxlaw17_few x14_0 x14_1 x14_2 x14_3 x14_4 x14_5 x14_6 (Sl.mk none 0 0)) fun r15 =>
    unB r15 fun (x15 : Bool) =>
    mIf (!x15) (
      mRet (.bool true)) (
      mLdL (x2.add 6) fun (x18 : Sl) =>
      K_signalboxlaw17_JobRuns_7 costs1 x2 (0 : Int) x18 (x18.n : Int) (0 : Int)))
def B_signalboxlaw17_JobRuns_7 (costs1 : Sl) (t2 : Addr) (open5 : Int) (t18 : Sl) (t19 : Int) (t20 : Int) : M Value :=
  mIf (decide (t20 < t19)) (
    mIdx t18 t20 3 fun (x22 : Addr) =>
    mLdI .i64 x22 fun (x23_0 : Int) =>
    mLdI .i64 (x22.add 1) fun (x23_1 : Int) =>
    mLdI .i64 (x22.add 2) fun (x23_2 : Int) =>
    mNew #[.int .i64 (0 : Int), .int .i64 (0 : Int), .int .i64 (0 : Int)] 52 fun (x7 : Addr) =>
    mSt x7 (.int .i64 x23_0) <|
    mSt (x7.add 1) (.int .i64 x23_1) <|
    mSt (x7.add 2) (.int .i64 x23_2) <|
    mLdI .i64 x7 fun (x25 : Int) =>
    mIf (x25 == (3 : Int)) (
      mLdI .i64 x7 fun (x30 : Int) =>
      mIf (x30 == (4 : Int)) (
        mIf (decide ((IntKind.i64.wrap ((IntKind.i64.wrap (open5 + (1 : Int))) - (1 : Int))) < (0 : Int))) (
          mRet (.bool true)) (
          K_signalboxlaw17_JobRuns_7 costs1 t2 (IntKind.i64.wrap ((IntKind.i64.wrap (open5 + (1 : Int))) - (1 : Int))) t18 t19 (IntKind.i64.wrap (t20 + (1 : Int))))) (
        mIf (decide ((IntKind.i64.wrap (open5 + (1 : Int))) < (0 : Int))) (
          mRet (.bool true)) (
          K_signalboxlaw17_JobRuns_7 costs1 t2 (IntKind.i64.wrap (open5 + (1 : Int))) t18 t19 (IntKind.i64.wrap (t20 + (1 : Int)))))) (
      mLdI .i64 x7 fun (x30_16 : Int) =>
      mIf (x30_16 == (4 : Int)) (
        mIf (decide ((IntKind.i64.wrap (open5 - (1 : Int))) < (0 : Int))) (
          mRet (.bool true)) (
          K_signalboxlaw17_JobRuns_7 costs1 t2 (IntKind.i64.wrap (open5 - (1 : Int))) t18 t19 (IntKind.i64.wrap (t20 + (1 : Int))))) (
        mIf (decide (open5 < (0 : Int))) (
          mRet (.bool true)) (
          K_signalboxlaw17_JobRuns_7 costs1 t2 open5 t18 t19 (IntKind.i64.wrap (t20 + (1 : Int))))))) (
    mLdI .i64 t2 fun (x37_0 : Int) =>
    mLdI .i64 (t2.add 1) fun (x37_1 : Int) =>
    mLdI .i64 (t2.add 2) fun (x37_2 : Int) =>
    mLdI .i64 (t2.add 3) fun (x37_3 : Int) =>
    mLdI .i64 (t2.add 4) fun (x37_4 : Int) =>
    mLdI .i64 (t2.add 5) fun (x37_5 : Int) =>
    mLdL (t2.add 6) fun (x37_6 : Sl) =>
    mBind (N_job_New x37_0 x37_1 x37_2 x37_3 x37_4 x37_5 x37_6) fun r38 =>
    unP r38 fun (x38 : Option Addr) =>
    mLdL (t2.add 6) fun (x40 : Sl) =>
    K_signalboxlaw17_JobRuns_18 costs1 open5 x38 (x40.n : Int) (0 : Int))
def B_signalboxlaw17_JobRuns_18 (costs1 : Sl) (open5 : Int) (j8 : Option Addr) (t41 : Int) (t42 : Int) : M Value :=
  mIf (decide (t42 < t41)) (
    mIf (decide (t42 < (costs1.n : Int))) (
      mIdx costs1 t42 1 fun (x51 : Addr) =>
      mLdI .u8 x51 fun (x52 : Int) =>
      mBind (N_job_Job_Begin j8 (if (1 : Int) > (IntKind.i64.wrap x52) then (1 : Int) else (IntKind.i64.wrap x52))) fun r57 =>
      unI .i64 r57 fun (x57 : Int) =>
      mIf (x57 == (11 : Int)) (
        K_signalboxlaw17_JobRuns_26 costs1 open5 j8 t42 (1 : Int) x57 t41 t42) (
        K_signalboxlaw17_JobRuns_26 costs1 open5 j8 t42 (if (1 : Int) > (IntKind.i64.wrap x52) then (1 : Int) else (IntKind.i64.wrap x52)) x57 t41 t42)) (
      mBind (N_job_Job_Begin j8 (1 : Int)) fun r57_24 =>
      unI .i64 r57_24 fun (x57_24 : Int) =>
      mIf (x57_24 == (11 : Int)) (
        K_signalboxlaw17_JobRuns_26 costs1 open5 j8 t42 (1 : Int) x57_24 t41 t42) (
        K_signalboxlaw17_JobRuns_26 costs1 open5 j8 t42 (1 : Int) x57_24 t41 t42))) (
    mBind (N_job_Job_Over j8) fun r90 =>
    unB r90 fun (x90 : Bool) =>
    mBind (mIf x90 (mBind (N_job_Job_Fault j8) fun r93 =>
      unB r93 fun (x93 : Bool) =>
      mRet (!x93)) (mRet false)) fun (b27 : Bool) =>
    mBind (mIf b27 (mBind (N_job_Job_Open j8) fun r98 =>
      unB r98 fun (x98 : Bool) =>
      mRet (x98 == (decide (open5 > (0 : Int))))) (mRet false)) fun (b29 : Bool) =>
    mRet (.bool b29))
def B_signalboxlaw17_JobRuns_26 (costs1 : Sl) (open5 : Int) (j8 : Option Addr) (i9 : Int) (cost10 : Int) (e11 : Int) (t41 : Int) (t42 : Int) : M Value :=
  mBind (N_job_Job_Rest j8) fun r61 =>
  unI .i64 r61 fun (x61 : Int) =>
  mBind (mIf (x61 != cost10) (mRet true) (mBind (N_job_Job_Burn j8 cost10) fun r67 =>
    unI .i64 r67 fun (x67 : Int) =>
    mRet (x67 != cost10))) fun (b32 : Bool) =>
  mIf b32 (
    mRet (.bool false)) (
    mIf (e11 != (0 : Int)) (
      mBind (mIf (e11 == (11 : Int)) (mBind (N_job_Job_Over j8) fun r77 =>
        unB r77 fun (x77 : Bool) =>
        mRet x77) (mRet false)) fun (b34 : Bool) =>
      mBind (mIf b34 (mBind (N_job_Job_Fault j8) fun r81 =>
        unB r81 fun (x81 : Bool) =>
        mRet x81) (mRet false)) fun (b36 : Bool) =>
      mRet (.bool b36)) (
      mBind (N_job_Job_At j8) fun r84 =>
      unI .i64 r84 fun (x84 : Int) =>
      mIf (x84 != (IntKind.i64.wrap (i9 + (1 : Int)))) (
        mRet (.bool false)) (
        K_signalboxlaw17_JobRuns_18 costs1 open5 j8 t41 (IntKind.i64.wrap (t42 + (1 : Int))))))
theorem E_signalboxlaw17_JobRuns (t0_0 : Int) (t0_1 : Int) (t0_2 : Int) (t0_3 : Int) (t0_4 : Int) (t0_5 : Int) (t0_6 : Sl) (costs1 : Sl) : ev Try.prog 6 Try.f6.results.toList C_signalboxlaw17_JobRuns D_signalboxlaw17_JobRuns 400 false [.code (bodyOf Try.f6)] (List.map some [.agg #[.int .i64 t0_0, .int .i64 t0_1, .int .i64 t0_2, .int .i64 t0_3, .int .i64 t0_4, .int .i64 t0_5, .slice t0_6.p t0_6.n t0_6.c], .slice costs1.p costs1.n costs1.c] ++ List.replicate (Try.f6.ntmps - List.length ([.agg #[.int .i64 t0_0, .int .i64 t0_1, .int .i64 t0_2, .int .i64 t0_3, .int .i64 t0_4, .int .i64 t0_5, .slice t0_6.p t0_6.n t0_6.c], .slice costs1.p costs1.n costs1.c] : List Value)) none) = B_signalboxlaw17_JobRuns t0_0 t0_1 t0_2 t0_3 t0_4 t0_5 t0_6 costs1 := by kernel_rfl
theorem S_signalboxlaw17_JobRuns (t0_0 : Int) (t0_1 : Int) (t0_2 : Int) (t0_3 : Int) (t0_4 : Int) (t0_5 : Int) (t0_6 : Sl) (costs1 : Sl) {h : Hp} {Q : Value → Hp → Prop} (hb : B_signalboxlaw17_JobRuns t0_0 t0_1 t0_2 t0_3 t0_4 t0_5 t0_6 costs1 h Q) : N_signalboxlaw17_JobRuns t0_0 t0_1 t0_2 t0_3 t0_4 t0_5 t0_6 costs1 h Q :=
  Nf.of_ev Try.call6 Try.func6 (c := bodyOf Try.f6) rfl mixed C_signalboxlaw17_JobRuns D_signalboxlaw17_JobRuns 400 (args := [.agg #[.int .i64 t0_0, .int .i64 t0_1, .int .i64 t0_2, .int .i64 t0_3, .int .i64 t0_4, .int .i64 t0_5, .slice t0_6.p t0_6.n t0_6.c], .slice costs1.p costs1.n costs1.c]) (by rw [E_signalboxlaw17_JobRuns]; exact hb)
theorem E_signalboxlaw17_JobRuns_7 (costs1 : Sl) (t2 : Addr) (open5 : Int) (t18 : Sl) (t19 : Int) (t20 : Int) : ev Try.prog 6 Try.f6.results.toList C_signalboxlaw17_JobRuns D_signalboxlaw17_JobRuns 400 true (todoOf Try.f6 7) (T_signalboxlaw17_JobRuns_7 costs1 t2 open5 t18 t19 t20) = B_signalboxlaw17_JobRuns_7 costs1 t2 open5 t18 t19 t20 := by kernel_rfl
theorem S_signalboxlaw17_JobRuns_7 (costs1 : Sl) (t2 : Addr) (open5 : Int) (t18 : Sl) (t19 : Int) (t20 : Int) {h : Hp} {Q : Value → Hp → Prop} (hb : B_signalboxlaw17_JobRuns_7 costs1 t2 open5 t18 t19 t20 h Q) : K_signalboxlaw17_JobRuns_7 costs1 t2 open5 t18 t19 t20 h Q :=
  Cut.of_ev Try.func6 mixed C_signalboxlaw17_JobRuns D_signalboxlaw17_JobRuns 400 (by rw [E_signalboxlaw17_JobRuns_7]; exact hb)
theorem E_signalboxlaw17_JobRuns_18 (costs1 : Sl) (open5 : Int) (j8 : Option Addr) (t41 : Int) (t42 : Int) : ev Try.prog 6 Try.f6.results.toList C_signalboxlaw17_JobRuns D_signalboxlaw17_JobRuns 400 true (todoOf Try.f6 18) (T_signalboxlaw17_JobRuns_18 costs1 open5 j8 t41 t42) = B_signalboxlaw17_JobRuns_18 costs1 open5 j8 t41 t42 := by kernel_rfl
theorem S_signalboxlaw17_JobRuns_18 (costs1 : Sl) (open5 : Int) (j8 : Option Addr) (t41 : Int) (t42 : Int) {h : Hp} {Q : Value → Hp → Prop} (hb : B_signalboxlaw17_JobRuns_18 costs1 open5 j8 t41 t42 h Q) : K_signalboxlaw17_JobRuns_18 costs1 open5 j8 t41 t42 h Q :=
  Cut.of_ev Try.func6 mixed C_signalboxlaw17_JobRuns D_signalboxlaw17_JobRuns 400 (by rw [E_signalboxlaw17_JobRuns_18]; exact hb)
theorem E_signalboxlaw17_JobRuns_26 (costs1 : Sl) (open5 : Int) (j8 : Option Addr) (i9 : Int) (cost10 : Int) (e11 : Int) (t41 : Int) (t42 : Int) : ev Try.prog 6 Try.f6.results.toList C_signalboxlaw17_JobRuns D_signalboxlaw17_JobRuns 400 true (todoOf Try.f6 26) (T_signalboxlaw17_JobRuns_26 costs1 open5 j8 i9 cost10 e11 t41 t42) = B_signalboxlaw17_JobRuns_26 costs1 open5 j8 i9 cost10 e11 t41 t42 := by kernel_rfl
theorem S_signalboxlaw17_JobRuns_26 (costs1 : Sl) (open5 : Int) (j8 : Option Addr) (i9 : Int) (cost10 : Int) (e11 : Int) (t41 : Int) (t42 : Int) {h : Hp} {Q : Value → Hp → Prop} (hb : B_signalboxlaw17_JobRuns_26 costs1 open5 j8 i9 cost10 e11 t41 t42 h Q) : K_signalboxlaw17_JobRuns_26 costs1 open5 j8 i9 cost10 e11 t41 t42 h Q :=
  Cut.of_ev Try.func6 mixed C_signalboxlaw17_JobRuns D_signalboxlaw17_JobRuns 400 (by rw [E_signalboxlaw17_JobRuns_26]; exact hb)
def C_signalboxlaw17_JobNone : List (Nat × List Nat) := []
def D_signalboxlaw17_JobNone : List (Nat × List Nat) := []
def B_signalboxlaw17_JobNone (n0 : Int) : M Value :=
  mBind (N_signalboxlaw17_fixed) fun r8 =>
  unB r8 fun (x8 : Bool) =>
  mIf (!x8) (
    mRet (.bool false)) (
    mBind (N_job_Job_Op none) fun r12 =>
    unT r12 fun x12l =>
    unC x12l fun x12v0 x12l0 =>
    unA x12v0 fun x12_0l =>
    unC x12_0l fun x12_0v0 x12_0l0 =>
    unI .i64 x12_0v0 fun (x12_0_0 : Int) =>
    unC x12_0l0 fun x12_0v1 x12_0l1 =>
    unI .i64 x12_0v1 fun (x12_0_1 : Int) =>
    unC x12_0l1 fun x12_0v2 x12_0l2 =>
    unI .i64 x12_0v2 fun (x12_0_2 : Int) =>
    unE x12_0l2 <|
    unC x12l0 fun x12v1 x12l1 =>
    unB x12v1 fun (x12_1 : Bool) =>
    unE x12l1 <|
    mNew #[.int .i64 (0 : Int), .int .i64 (0 : Int), .int .i64 (0 : Int)] 52 fun (x4 : Addr) =>
    mSt x4 (.int .i64 x12_0_0) <|
    mSt (x4.add 1) (.int .i64 x12_0_1) <|
    mSt (x4.add 2) (.int .i64 x12_0_2) <|
    mBind (N_job_Job_Left none) fun r17 =>
    un2 (unI .i64) unB r17 fun (x17_0 : Int) (x17_1 : Bool) =>
    mBind (N_job_Job_Over none) fun r21 =>
    unB r21 fun (x21 : Bool) =>
    mBind (mIf (x21 && (!x12_1)) (mBind (N_job_Job_Begin none n0) fun r29 =>
      unI .i64 r29 fun (x29 : Int) =>
      mRet (x29 == (1 : Int))) (mRet false)) fun (b8 : Bool) =>
    mBind (mIf b8 (mBind (N_job_Job_Burn none n0) fun r35 =>
      unI .i64 r35 fun (x35 : Int) =>
      mBind (N_job_Job_Rest none) fun r37 =>
      unI .i64 r37 fun (x37 : Int) =>
      mBind (N_job_Job_Pushed none) fun r40 =>
      unI .i64 r40 fun (x40 : Int) =>
      mBind (N_job_Job_At none) fun r43 =>
      unI .i64 r43 fun (x43 : Int) =>
      mRet ((IntKind.i64.wrap ((IntKind.i64.wrap ((IntKind.i64.wrap ((IntKind.i64.wrap (x35 + x37)) + x40)) + x43)) + x17_0)) == (0 : Int))) (mRet false)) fun (b13 : Bool) =>
    mBind (mIf b13 (mBind (N_job_Job_Open none) fun r51 =>
      unB r51 fun (x51 : Bool) =>
      mRet (!x51)) (mRet false)) fun (b15 : Bool) =>
    mBind (mIf b15 (mBind (N_job_Job_Fault none) fun r56 =>
      unB r56 fun (x56 : Bool) =>
      mRet (!x56)) (mRet false)) fun (b17 : Bool) =>
    mBind (mIf b17 (mBind (N_job_Job_Withhold none) fun r61 =>
      unB r61 fun (x61 : Bool) =>
      mRet (!x61)) (mRet false)) fun (b19 : Bool) =>
    mRet (.bool (b19 && (!x17_1))))
theorem E_signalboxlaw17_JobNone (n0 : Int) : ev Try.prog 7 Try.f7.results.toList C_signalboxlaw17_JobNone D_signalboxlaw17_JobNone 400 false [.code (bodyOf Try.f7)] (List.map some [.int .i64 n0] ++ List.replicate (Try.f7.ntmps - List.length ([.int .i64 n0] : List Value)) none) = B_signalboxlaw17_JobNone n0 := by kernel_rfl
theorem S_signalboxlaw17_JobNone (n0 : Int) {h : Hp} {Q : Value → Hp → Prop} (hb : B_signalboxlaw17_JobNone n0 h Q) : N_signalboxlaw17_JobNone n0 h Q :=
  Nf.of_ev Try.call7 Try.func7 (c := bodyOf Try.f7) rfl mixed C_signalboxlaw17_JobNone D_signalboxlaw17_JobNone 400 (args := [.int .i64 n0]) (by rw [E_signalboxlaw17_JobNone]; exact hb)
end Go.Proofs.Ytjifoicncenfpaa
