/- What the functions of this layer come to, as forms of the small logic; written by program. Conditions: none. -/
import Derived.Test.YtimpaammdmeocaaDoorSbU
import Derived.Test.YtimpaammdmeocaaDoorChecked
import Derived.KernelRfl
set_option maxRecDepth 100000
namespace Go.Proofs.YtimpaammdmeocaaDoor
open Go Go.Sb
theorem mixed : Tryd.prog.follows .mixedOrders = true := by kernel_rfl
def N_signalboxlaw39_WaitsStuck (l0 : Sl) : M Value := Nf Tryd.prog 3 #[.slice l0.p l0.n l0.c]
def N_signalboxlaw39_WaitsRing (l0 : Sl) : M Value := Nf Tryd.prog 4 #[.slice l0.p l0.n l0.c]
def N_signalboxlaw39_WaitsReach (l0 : Sl) (a1 : Int) : M Value := Nf Tryd.prog 5 #[.slice l0.p l0.n l0.c, .int .i64 a1]
def N_signalboxlaw39_fixed : M Value := Nf Tryd.prog 6 #[]
def N_signalboxlaw39_made (l0 : Sl) : M Value := Nf Tryd.prog 7 #[.slice l0.p l0.n l0.c]
def N_signalboxref39_Graph_Reach (g0 : Option Addr) (a1 : Int) : M Value := Nf Tryd.prog 8 #[.pointer g0, .int .i64 a1]
def N_waits_Graph_Stuck (g0 : Option Addr) : M Value := Nf Tryd.prog 9 #[.pointer g0]
def N_waits_Graph_Ring (g0 : Option Addr) : M Value := Nf Tryd.prog 10 #[.pointer g0]
def N_signalboxref39_Graph_Ring (g0 : Option Addr) : M Value := Nf Tryd.prog 11 #[.pointer g0]
def N_waits_Graph_Reach (g0 : Option Addr) (a1 : Int) : M Value := Nf Tryd.prog 12 #[.pointer g0, .int .i64 a1]
def N_waits_Graph_Waits (g0 : Option Addr) (a1 : Int) : M Value := Nf Tryd.prog 13 #[.pointer g0, .int .i64 a1]
def N_waits_Graph_Order (g0 : Option Addr) : M Value := Nf Tryd.prog 14 #[.pointer g0]
def N_signalboxref39_Graph_Order (g0 : Option Addr) : M Value := Nf Tryd.prog 15 #[.pointer g0]
def N_waits_New : M Value := Nf Tryd.prog 16 #[]
def N_waits_Graph_Wait (g0 : Option Addr) (a1 : Int) (b2 : Int) : M Value := Nf Tryd.prog 17 #[.pointer g0, .int .i64 a1, .int .i64 b2]
def N_waits_Graph_Stop (g0 : Option Addr) (a1 : Int) (b2 : Int) : M Value := Nf Tryd.prog 18 #[.pointer g0, .int .i64 a1, .int .i64 b2]
def N_waits_Graph_reach (g0 : Option Addr) (a1 : Int) : M Value := Nf Tryd.prog 19 #[.pointer g0, .int .i64 a1]
def N_waits_bit (a0 : Int) : M Value := Nf Tryd.prog 20 #[.int .i64 a0]
def N_waits_Graph_ring (g0 : Option Addr) (a1 : Int) (steps2 : Int) : M Value := Nf Tryd.prog 21 #[.pointer g0, .int .i64 a1, .int .i64 steps2]
def N_signalboxref39_Graph_path (g0 : Option Addr) (from1 : Int) (to2 : Int) (low3 : Int) (steps4 : Int) : M Value := Nf Tryd.prog 22 #[.pointer g0, .int .i64 from1, .int .i64 to2, .int .i64 low3, .int .i64 steps4]
def N_waits_is (a0 : Int) : M Value := Nf Tryd.prog 23 #[.int .i64 a0]
def N_waits_list (w0 : Int) : M Value := Nf Tryd.prog 24 #[.int .u64 w0]
def N_waits_Graph_step (g0 : Option Addr) (w1 : Int) : M Value := Nf Tryd.prog 25 #[.pointer g0, .int .u64 w1]
def N_waits_Graph_back (g0 : Option Addr) (to1 : Int) (most2 : Int) : M Value := Nf Tryd.prog 26 #[.pointer g0, .int .i64 to1, .int .i64 most2]
def N_math_bits_TrailingZeros64 (x0 : Int) : M Value := Nf Tryd.prog 27 #[.int .u64 x0]
def C_signalboxlaw39_WaitsStuck : List (Nat × List Nat) := [(10, [3, 4, 6, 27]), (17, [4, 6, 8, 9, 40]), (21, [4, 6, 8, 9, 10, 11, 40, 48, 49])]
def D_signalboxlaw39_WaitsStuck : List (Nat × List Nat) := []
def T_signalboxlaw39_WaitsStuck_10 (g3 : Option Addr) (r4 : Option Addr) (ring6 : Addr) (t27 : Int) : Env := mkEnv [(3, .pointer g3), (4, .pointer r4), (6, .pointer (some ring6)), (27, .int .i64 t27)] 83 0
def K_signalboxlaw39_WaitsStuck_10 (g3 : Option Addr) (r4 : Option Addr) (ring6 : Addr) (t27 : Int) : M Value := Cut Tryd.prog 3 (todoOf Tryd.f3 10) (T_signalboxlaw39_WaitsStuck_10 g3 r4 ring6 t27)
def T_signalboxlaw39_WaitsStuck_17 (r4 : Option Addr) (ring6 : Addr) (got8 : Sl) (at9 : Int) (t40 : Int) : Env := mkEnv [(4, .pointer r4), (6, .pointer (some ring6)), (8, .slice got8.p got8.n got8.c), (9, .int .i64 at9), (40, .int .i64 t40)] 83 0
def K_signalboxlaw39_WaitsStuck_17 (r4 : Option Addr) (ring6 : Addr) (got8 : Sl) (at9 : Int) (t40 : Int) : M Value := Cut Tryd.prog 3 (todoOf Tryd.f3 17) (T_signalboxlaw39_WaitsStuck_17 r4 ring6 got8 at9 t40)
def T_signalboxlaw39_WaitsStuck_21 (r4 : Option Addr) (ring6 : Addr) (got8 : Sl) (at9 : Int) (a10 : Int) (stuck11 : Bool) (t40 : Int) (t48 : List Value) (t49 : Int) : Env := mkEnv [(4, .pointer r4), (6, .pointer (some ring6)), (8, .slice got8.p got8.n got8.c), (9, .int .i64 at9), (10, .int .i64 a10), (11, .bool stuck11), (40, .int .i64 t40), (48, .agg t48.toArray), (49, .int .i64 t49)] 83 0
def K_signalboxlaw39_WaitsStuck_21 (r4 : Option Addr) (ring6 : Addr) (got8 : Sl) (at9 : Int) (a10 : Int) (stuck11 : Bool) (t40 : Int) (t48 : List Value) (t49 : Int) : M Value := Cut Tryd.prog 3 (todoOf Tryd.f3 21) (T_signalboxlaw39_WaitsStuck_21 r4 ring6 got8 at9 a10 stuck11 t40 t48 t49)
def B_signalboxlaw39_WaitsStuck (l0 : Sl) : M Value :=
  mBind (N_signalboxlaw39_fixed) fun r14 =>
  unB r14 fun (x14 : Bool) =>
  mIf (!x14) (
    mRet (.bool false)) (
    mIf (decide ((l0.n : Int) > (60 : Int))) (
      mRet (.bool true)) (
      mBind (N_signalboxlaw39_made l0) fun r21 =>
      un3 unP unP unB r21 fun (x21_0 : Option Addr) (x21_1 : Option Addr) (x21_2 : Bool) =>
      mIf (!x21_2) (
        mRet (.bool false)) (
        mNew #[.bool false, .bool false, .bool false, .bool false, .bool false, .bool false, .bool false, .bool false, .bool false, .bool false, .bool false, .bool false, .bool false, .bool false, .bool false, .bool false, .bool false, .bool false, .bool false, .bool false, .bool false, .bool false, .bool false, .bool false, .bool false, .bool false, .bool false, .bool false, .bool false, .bool false, .bool false, .bool false, .bool false, .bool false, .bool false, .bool false, .bool false, .bool false, .bool false, .bool false, .bool false, .bool false, .bool false, .bool false, .bool false, .bool false, .bool false, .bool false, .bool false, .bool false, .bool false, .bool false, .bool false, .bool false, .bool false, .bool false, .bool false, .bool false, .bool false, .bool false, .bool false, .bool false, .bool false, .bool false] 28 fun (x6 : Addr) =>
        K_signalboxlaw39_WaitsStuck_10 x21_0 x21_1 x6 (0 : Int))))
def B_signalboxlaw39_WaitsStuck_10 (g3 : Option Addr) (r4 : Option Addr) (ring6 : Addr) (t27 : Int) : M Value :=
  mIf (decide (t27 < (64 : Int))) (
    mBind (N_signalboxref39_Graph_Reach r4 t27) fun r33 =>
    unA r33 fun (x33 : List Value) =>
    mGuard (x33.length = 64) <|
    mIdxA x33 t27 fun x35v =>
    unB x35v fun (x35 : Bool) =>
    mIdx ⟨(some ring6), 64, 64⟩ t27 1 fun (x36 : Addr) =>
    mSt x36 (.bool x35) <|
    K_signalboxlaw39_WaitsStuck_10 g3 r4 ring6 (IntKind.i64.wrap (t27 + (1 : Int)))) (
    mBind (N_waits_Graph_Stuck g3) fun r39 =>
    unL r39 fun (x39 : Sl) =>
    K_signalboxlaw39_WaitsStuck_17 r4 ring6 x39 (0 : Int) (0 : Int))
def B_signalboxlaw39_WaitsStuck_17 (r4 : Option Addr) (ring6 : Addr) (got8 : Sl) (at9 : Int) (t40 : Int) : M Value :=
  mIf (decide (t40 < (64 : Int))) (
    mIdx ⟨(some ring6), 64, 64⟩ t40 1 fun (x44 : Addr) =>
    mLdB x44 fun (x45 : Bool) =>
    mBind (N_signalboxref39_Graph_Reach r4 t40) fun r48 =>
    unA r48 fun (x48 : List Value) =>
    K_signalboxlaw39_WaitsStuck_21 r4 ring6 got8 at9 t40 x45 t40 x48 (0 : Int)) (
    mRet (.bool (at9 == (got8.n : Int))))
def B_signalboxlaw39_WaitsStuck_21 (r4 : Option Addr) (ring6 : Addr) (got8 : Sl) (at9 : Int) (a10 : Int) (stuck11 : Bool) (t40 : Int) (t48 : List Value) (t49 : Int) : M Value :=
  mIf (decide (t49 < (64 : Int))) (
    mGuard (t48.length = 64) <|
    mIdxA t48 t49 fun x52v =>
    unB x52v fun (x52 : Bool) =>
    mBind (mIf stuck11 (mRet true) (mBind (mIf x52 (mIdx ⟨(some ring6), 64, 64⟩ t49 1 fun (x58 : Addr) =>
      mLdB x58 fun (x59 : Bool) =>
      mRet x59) (mRet false)) fun (b15 : Bool) =>
      mRet b15)) fun (b16 : Bool) =>
    K_signalboxlaw39_WaitsStuck_21 r4 ring6 got8 at9 a10 b16 t40 t48 (IntKind.i64.wrap (t49 + (1 : Int)))) (
    mIf stuck11 (
      mBind (mIf (decide (at9 ≥ (got8.n : Int))) (mRet true) (mIdx got8 at9 1 fun (x71 : Addr) =>
        mLdI .i64 x71 fun (x72 : Int) =>
        mRet (x72 != a10))) fun (b19 : Bool) =>
      mIf b19 (
        mRet (.bool false)) (
        K_signalboxlaw39_WaitsStuck_17 r4 ring6 got8 (IntKind.i64.wrap (at9 + (1 : Int))) (IntKind.i64.wrap (t40 + (1 : Int))))) (
      K_signalboxlaw39_WaitsStuck_17 r4 ring6 got8 at9 (IntKind.i64.wrap (t40 + (1 : Int)))))
theorem E_signalboxlaw39_WaitsStuck (l0 : Sl) : ev Tryd.prog 3 Tryd.f3.results.toList C_signalboxlaw39_WaitsStuck D_signalboxlaw39_WaitsStuck 400 false [.code (bodyOf Tryd.f3)] (List.map some [.slice l0.p l0.n l0.c] ++ List.replicate (Tryd.f3.ntmps - List.length ([.slice l0.p l0.n l0.c] : List Value)) none) = B_signalboxlaw39_WaitsStuck l0 := by kernel_rfl
theorem S_signalboxlaw39_WaitsStuck (l0 : Sl) {h : Hp} {Q : Value → Hp → Prop} (hb : B_signalboxlaw39_WaitsStuck l0 h Q) : N_signalboxlaw39_WaitsStuck l0 h Q :=
  Nf.of_ev Tryd.call3 Tryd.func3 (c := bodyOf Tryd.f3) rfl mixed C_signalboxlaw39_WaitsStuck D_signalboxlaw39_WaitsStuck 400 (args := [.slice l0.p l0.n l0.c]) (by rw [E_signalboxlaw39_WaitsStuck]; exact hb)
theorem E_signalboxlaw39_WaitsStuck_10 (g3 : Option Addr) (r4 : Option Addr) (ring6 : Addr) (t27 : Int) : ev Tryd.prog 3 Tryd.f3.results.toList C_signalboxlaw39_WaitsStuck D_signalboxlaw39_WaitsStuck 400 true (todoOf Tryd.f3 10) (T_signalboxlaw39_WaitsStuck_10 g3 r4 ring6 t27) = B_signalboxlaw39_WaitsStuck_10 g3 r4 ring6 t27 := by kernel_rfl
theorem S_signalboxlaw39_WaitsStuck_10 (g3 : Option Addr) (r4 : Option Addr) (ring6 : Addr) (t27 : Int) {h : Hp} {Q : Value → Hp → Prop} (hb : B_signalboxlaw39_WaitsStuck_10 g3 r4 ring6 t27 h Q) : K_signalboxlaw39_WaitsStuck_10 g3 r4 ring6 t27 h Q :=
  Cut.of_ev Tryd.func3 mixed C_signalboxlaw39_WaitsStuck D_signalboxlaw39_WaitsStuck 400 (by rw [E_signalboxlaw39_WaitsStuck_10]; exact hb)
theorem E_signalboxlaw39_WaitsStuck_17 (r4 : Option Addr) (ring6 : Addr) (got8 : Sl) (at9 : Int) (t40 : Int) : ev Tryd.prog 3 Tryd.f3.results.toList C_signalboxlaw39_WaitsStuck D_signalboxlaw39_WaitsStuck 400 true (todoOf Tryd.f3 17) (T_signalboxlaw39_WaitsStuck_17 r4 ring6 got8 at9 t40) = B_signalboxlaw39_WaitsStuck_17 r4 ring6 got8 at9 t40 := by kernel_rfl
theorem S_signalboxlaw39_WaitsStuck_17 (r4 : Option Addr) (ring6 : Addr) (got8 : Sl) (at9 : Int) (t40 : Int) {h : Hp} {Q : Value → Hp → Prop} (hb : B_signalboxlaw39_WaitsStuck_17 r4 ring6 got8 at9 t40 h Q) : K_signalboxlaw39_WaitsStuck_17 r4 ring6 got8 at9 t40 h Q :=
  Cut.of_ev Tryd.func3 mixed C_signalboxlaw39_WaitsStuck D_signalboxlaw39_WaitsStuck 400 (by rw [E_signalboxlaw39_WaitsStuck_17]; exact hb)
theorem E_signalboxlaw39_WaitsStuck_21 (r4 : Option Addr) (ring6 : Addr) (got8 : Sl) (at9 : Int) (a10 : Int) (stuck11 : Bool) (t40 : Int) (t48 : List Value) (t49 : Int) : ev Tryd.prog 3 Tryd.f3.results.toList C_signalboxlaw39_WaitsStuck D_signalboxlaw39_WaitsStuck 400 true (todoOf Tryd.f3 21) (T_signalboxlaw39_WaitsStuck_21 r4 ring6 got8 at9 a10 stuck11 t40 t48 t49) = B_signalboxlaw39_WaitsStuck_21 r4 ring6 got8 at9 a10 stuck11 t40 t48 t49 := by kernel_rfl
theorem S_signalboxlaw39_WaitsStuck_21 (r4 : Option Addr) (ring6 : Addr) (got8 : Sl) (at9 : Int) (a10 : Int) (stuck11 : Bool) (t40 : Int) (t48 : List Value) (t49 : Int) {h : Hp} {Q : Value → Hp → Prop} (hb : B_signalboxlaw39_WaitsStuck_21 r4 ring6 got8 at9 a10 stuck11 t40 t48 t49 h Q) : K_signalboxlaw39_WaitsStuck_21 r4 ring6 got8 at9 a10 stuck11 t40 t48 t49 h Q :=
  Cut.of_ev Tryd.func3 mixed C_signalboxlaw39_WaitsStuck D_signalboxlaw39_WaitsStuck 400 (by rw [E_signalboxlaw39_WaitsStuck_21]; exact hb)
def C_signalboxlaw39_WaitsRing : List (Nat × List Nat) := [(12, [4, 6, 7, 32, 33])]
def D_signalboxlaw39_WaitsRing : List (Nat × List Nat) := []
def T_signalboxlaw39_WaitsRing_12 (r4 : Option Addr) (got6 : Sl) (want7 : Sl) (t32 : Int) (t33 : Int) : Env := mkEnv [(4, .pointer r4), (6, .slice got6.p got6.n got6.c), (7, .slice want7.p want7.n want7.c), (32, .int .i64 t32), (33, .int .i64 t33)] 66 0
def K_signalboxlaw39_WaitsRing_12 (r4 : Option Addr) (got6 : Sl) (want7 : Sl) (t32 : Int) (t33 : Int) : M Value := Cut Tryd.prog 4 (todoOf Tryd.f4 12) (T_signalboxlaw39_WaitsRing_12 r4 got6 want7 t32 t33)
def B_signalboxlaw39_WaitsRing (l0 : Sl) : M Value :=
  mBind (N_signalboxlaw39_fixed) fun r9 =>
  unB r9 fun (x9 : Bool) =>
  mIf (!x9) (
    mRet (.bool false)) (
    mIf (decide ((l0.n : Int) > (9 : Int))) (
      mRet (.bool true)) (
      mBind (N_signalboxlaw39_made l0) fun r16 =>
      un3 unP unP unB r16 fun (x16_0 : Option Addr) (x16_1 : Option Addr) (x16_2 : Bool) =>
      mIf (!x16_2) (
        mRet (.bool false)) (
        mBind (N_waits_Graph_Ring x16_0) fun r23 =>
        unL r23 fun (x23 : Sl) =>
        mBind (N_signalboxref39_Graph_Ring x16_1) fun r25 =>
        unL r25 fun (x25 : Sl) =>
        mIf ((x23.n : Int) != (x25.n : Int)) (
          mRet (.bool false)) (
          K_signalboxlaw39_WaitsRing_12 x16_1 x23 x25 (x23.n : Int) (0 : Int)))))
def B_signalboxlaw39_WaitsRing_12 (r4 : Option Addr) (got6 : Sl) (want7 : Sl) (t32 : Int) (t33 : Int) : M Value :=
  mIf (decide (t33 < t32)) (
    mIdx got6 t33 1 fun (x38 : Addr) =>
    mLdI .i64 x38 fun (x39 : Int) =>
    mIdx want7 t33 1 fun (x42 : Addr) =>
    mLdI .i64 x42 fun (x43 : Int) =>
    mBind (mIf (x39 != x43) (mRet true) (mIdx got6 t33 1 fun (x49 : Addr) =>
      mLdI .i64 x49 fun (x50 : Int) =>
      mGuard ((got6.n : Int) ≠ 0) <|
      mIdx got6 (Int.tmod (IntKind.i64.wrap (t33 + (1 : Int))) (got6.n : Int)) 1 fun (x57 : Addr) =>
      mLdI .i64 x57 fun (x58 : Int) =>
      mNil r4 fun (a15 : Addr) =>
      mIdx ⟨(some a15), 64, 64⟩ x50 64 fun (x60 : Addr) =>
      mIdx ⟨(some x60), 64, 64⟩ x58 1 fun (x61 : Addr) =>
      mLdB x61 fun (x62 : Bool) =>
      mRet (!x62))) fun (b19 : Bool) =>
    mIf b19 (
      mRet (.bool false)) (
      K_signalboxlaw39_WaitsRing_12 r4 got6 want7 t32 (IntKind.i64.wrap (t33 + (1 : Int))))) (
    mRet (.bool true))
theorem E_signalboxlaw39_WaitsRing (l0 : Sl) : ev Tryd.prog 4 Tryd.f4.results.toList C_signalboxlaw39_WaitsRing D_signalboxlaw39_WaitsRing 400 false [.code (bodyOf Tryd.f4)] (List.map some [.slice l0.p l0.n l0.c] ++ List.replicate (Tryd.f4.ntmps - List.length ([.slice l0.p l0.n l0.c] : List Value)) none) = B_signalboxlaw39_WaitsRing l0 := by kernel_rfl
theorem S_signalboxlaw39_WaitsRing (l0 : Sl) {h : Hp} {Q : Value → Hp → Prop} (hb : B_signalboxlaw39_WaitsRing l0 h Q) : N_signalboxlaw39_WaitsRing l0 h Q :=
  Nf.of_ev Tryd.call4 Tryd.func4 (c := bodyOf Tryd.f4) rfl mixed C_signalboxlaw39_WaitsRing D_signalboxlaw39_WaitsRing 400 (args := [.slice l0.p l0.n l0.c]) (by rw [E_signalboxlaw39_WaitsRing]; exact hb)
theorem E_signalboxlaw39_WaitsRing_12 (r4 : Option Addr) (got6 : Sl) (want7 : Sl) (t32 : Int) (t33 : Int) : ev Tryd.prog 4 Tryd.f4.results.toList C_signalboxlaw39_WaitsRing D_signalboxlaw39_WaitsRing 400 true (todoOf Tryd.f4 12) (T_signalboxlaw39_WaitsRing_12 r4 got6 want7 t32 t33) = B_signalboxlaw39_WaitsRing_12 r4 got6 want7 t32 t33 := by kernel_rfl
theorem S_signalboxlaw39_WaitsRing_12 (r4 : Option Addr) (got6 : Sl) (want7 : Sl) (t32 : Int) (t33 : Int) {h : Hp} {Q : Value → Hp → Prop} (hb : B_signalboxlaw39_WaitsRing_12 r4 got6 want7 t32 t33 h Q) : K_signalboxlaw39_WaitsRing_12 r4 got6 want7 t32 t33 h Q :=
  Cut.of_ev Tryd.func4 mixed C_signalboxlaw39_WaitsRing D_signalboxlaw39_WaitsRing 400 (by rw [E_signalboxlaw39_WaitsRing_12]; exact hb)
def C_signalboxlaw39_WaitsReach : List (Nat × List Nat) := [(14, [1, 5, 6, 8, 9, 10, 11, 12, 57]), (20, [1, 5, 6, 8, 9, 10, 11, 12, 13, 57]), (30, [14, 16, 132, 133])]
def D_signalboxlaw39_WaitsReach : List (Nat × List Nat) := []
def T_signalboxlaw39_WaitsReach_14 (a1 : Int) (g5 : Option Addr) (r6 : Option Addr) (reach8 : Sl) (waits9 : Sl) (all10 : Addr) (m11 : Int) (n12 : Int) (t57 : Int) : Env := mkEnv [(1, .int .i64 a1), (5, .pointer g5), (6, .pointer r6), (8, .slice reach8.p reach8.n reach8.c), (9, .slice waits9.p waits9.n waits9.c), (10, .pointer (some all10)), (11, .int .i64 m11), (12, .int .i64 n12), (57, .int .i64 t57)] 146 0
def K_signalboxlaw39_WaitsReach_14 (a1 : Int) (g5 : Option Addr) (r6 : Option Addr) (reach8 : Sl) (waits9 : Sl) (all10 : Addr) (m11 : Int) (n12 : Int) (t57 : Int) : M Value := Cut Tryd.prog 5 (todoOf Tryd.f5 14) (T_signalboxlaw39_WaitsReach_14 a1 g5 r6 reach8 waits9 all10 m11 n12 t57)
def T_signalboxlaw39_WaitsReach_20 (a1 : Int) (g5 : Option Addr) (r6 : Option Addr) (reach8 : Sl) (waits9 : Sl) (all10 : Addr) (m11 : Int) (n12 : Int) (b13 : Int) (t57 : Int) : Env := mkEnv [(1, .int .i64 a1), (5, .pointer g5), (6, .pointer r6), (8, .slice reach8.p reach8.n reach8.c), (9, .slice waits9.p waits9.n waits9.c), (10, .pointer (some all10)), (11, .int .i64 m11), (12, .int .i64 n12), (13, .int .i64 b13), (57, .int .i64 t57)] 146 0
def K_signalboxlaw39_WaitsReach_20 (a1 : Int) (g5 : Option Addr) (r6 : Option Addr) (reach8 : Sl) (waits9 : Sl) (all10 : Addr) (m11 : Int) (n12 : Int) (b13 : Int) (t57 : Int) : M Value := Cut Tryd.prog 5 (todoOf Tryd.f5 20) (T_signalboxlaw39_WaitsReach_20 a1 g5 r6 reach8 waits9 all10 m11 n12 b13 t57)
def T_signalboxlaw39_WaitsReach_30 (x14 : Sl) (y16 : Sl) (t132 : Int) (t133 : Int) : Env := mkEnv [(14, .slice x14.p x14.n x14.c), (16, .slice y16.p y16.n y16.c), (132, .int .i64 t132), (133, .int .i64 t133)] 146 0
def K_signalboxlaw39_WaitsReach_30 (x14 : Sl) (y16 : Sl) (t132 : Int) (t133 : Int) : M Value := Cut Tryd.prog 5 (todoOf Tryd.f5 30) (T_signalboxlaw39_WaitsReach_30 x14 y16 t132 t133)
def B_signalboxlaw39_WaitsReach (l0 : Sl) (a1 : Int) : M Value :=
  mBind (N_signalboxlaw39_fixed) fun r19 =>
  unB r19 fun (x19 : Bool) =>
  mIf (!x19) (
    mRet (.bool false)) (
    mIf (decide ((l0.n : Int) > (60 : Int))) (
      mRet (.bool true)) (
      mBind (N_signalboxlaw39_made l0) fun r26 =>
      un3 unP unP unB r26 fun (x26_0 : Option Addr) (x26_1 : Option Addr) (x26_2 : Bool) =>
      mIf (!x26_2) (
        mRet (.bool false)) (
        mIf ((decide (a1 < (0 : Int))) || (decide (a1 > (63 : Int)))) (
          mBind (N_waits_Graph_Reach x26_0 a1) fun r40 =>
          unL r40 fun (x40 : Sl) =>
          mBind (N_waits_Graph_Waits x26_0 a1) fun r44 =>
          unL r44 fun (x44 : Sl) =>
          mRet (.bool ((IntKind.i64.wrap ((x40.n : Int) + (x44.n : Int))) == (0 : Int)))) (
          mBind (N_waits_Graph_Reach x26_0 a1) fun r50 =>
          unL r50 fun (x50 : Sl) =>
          mBind (N_waits_Graph_Waits x26_0 a1) fun r53 =>
          unL r53 fun (x53 : Sl) =>
          mBind (N_signalboxref39_Graph_Reach x26_1 a1) fun r56 =>
          unA r56 fun (x56 : List Value) =>
          mNew #[.bool false, .bool false, .bool false, .bool false, .bool false, .bool false, .bool false, .bool false, .bool false, .bool false, .bool false, .bool false, .bool false, .bool false, .bool false, .bool false, .bool false, .bool false, .bool false, .bool false, .bool false, .bool false, .bool false, .bool false, .bool false, .bool false, .bool false, .bool false, .bool false, .bool false, .bool false, .bool false, .bool false, .bool false, .bool false, .bool false, .bool false, .bool false, .bool false, .bool false, .bool false, .bool false, .bool false, .bool false, .bool false, .bool false, .bool false, .bool false, .bool false, .bool false, .bool false, .bool false, .bool false, .bool false, .bool false, .bool false, .bool false, .bool false, .bool false, .bool false, .bool false, .bool false, .bool false, .bool false] 28 fun (x10 : Addr) =>
          mGuard (x56.length = 64) <|
          mStN x10 x56 <|
          K_signalboxlaw39_WaitsReach_14 a1 x26_0 x26_1 x50 x53 x10 (0 : Int) (0 : Int) (0 : Int)))))
def B_signalboxlaw39_WaitsReach_14 (a1 : Int) (g5 : Option Addr) (r6 : Option Addr) (reach8 : Sl) (waits9 : Sl) (all10 : Addr) (m11 : Int) (n12 : Int) (t57 : Int) : M Value :=
  mIf (decide (t57 < (64 : Int))) (
    mIdx ⟨(some all10), 64, 64⟩ t57 1 fun (x61 : Addr) =>
    mLdB x61 fun (x62 : Bool) =>
    mIf x62 (
      mBind (mIf (decide (m11 ≥ (reach8.n : Int))) (mRet true) (mIdx reach8 m11 1 fun (x70 : Addr) =>
        mLdI .i64 x70 fun (x71 : Int) =>
        mRet (x71 != t57))) fun (b14 : Bool) =>
      mIf b14 (
        mRet (.bool false)) (
        K_signalboxlaw39_WaitsReach_20 a1 g5 r6 reach8 waits9 all10 (IntKind.i64.wrap (m11 + (1 : Int))) n12 t57 t57)) (
      K_signalboxlaw39_WaitsReach_20 a1 g5 r6 reach8 waits9 all10 m11 n12 t57 t57)) (
    mBind (N_waits_Graph_Order g5) fun r101 =>
    un2 unL unB r101 fun (x101_0 : Sl) (x101_1 : Bool) =>
    mBind (N_signalboxref39_Graph_Order r6) fun r106 =>
    un2 unL unB r106 fun (x106_0 : Sl) (x106_1 : Bool) =>
    mIf ((((m11 != (reach8.n : Int)) || (n12 != (waits9.n : Int))) || (!(x101_1 == x106_1))) || ((x101_0.n : Int) != (x106_0.n : Int))) (
      mRet (.bool false)) (
      K_signalboxlaw39_WaitsReach_30 x101_0 x106_0 (x101_0.n : Int) (0 : Int)))
def B_signalboxlaw39_WaitsReach_20 (a1 : Int) (g5 : Option Addr) (r6 : Option Addr) (reach8 : Sl) (waits9 : Sl) (all10 : Addr) (m11 : Int) (n12 : Int) (b13 : Int) (t57 : Int) : M Value :=
  mNil r6 fun (a18 : Addr) =>
  mIdx ⟨(some a18), 64, 64⟩ a1 64 fun (x81 : Addr) =>
  mIdx ⟨(some x81), 64, 64⟩ b13 1 fun (x82 : Addr) =>
  mLdB x82 fun (x83 : Bool) =>
  mIf x83 (
    mBind (mIf (decide (n12 ≥ (waits9.n : Int))) (mRet true) (mIdx waits9 n12 1 fun (x91 : Addr) =>
      mLdI .i64 x91 fun (x92 : Int) =>
      mRet (x92 != b13))) fun (b24 : Bool) =>
    mIf b24 (
      mRet (.bool false)) (
      K_signalboxlaw39_WaitsReach_14 a1 g5 r6 reach8 waits9 all10 m11 (IntKind.i64.wrap (n12 + (1 : Int))) (IntKind.i64.wrap (t57 + (1 : Int))))) (
    K_signalboxlaw39_WaitsReach_14 a1 g5 r6 reach8 waits9 all10 m11 n12 (IntKind.i64.wrap (t57 + (1 : Int))))
def B_signalboxlaw39_WaitsReach_30 (x14 : Sl) (y16 : Sl) (t132 : Int) (t133 : Int) : M Value :=
  mIf (decide (t133 < t132)) (
    mIdx x14 t133 1 fun (x138 : Addr) =>
    mLdI .i64 x138 fun (x139 : Int) =>
    mIdx y16 t133 1 fun (x142 : Addr) =>
    mLdI .i64 x142 fun (x143 : Int) =>
    mIf (x139 != x143) (
      mRet (.bool false)) (
      K_signalboxlaw39_WaitsReach_30 x14 y16 t132 (IntKind.i64.wrap (t133 + (1 : Int))))) (
    mRet (.bool true))
theorem E_signalboxlaw39_WaitsReach (l0 : Sl) (a1 : Int) : ev Tryd.prog 5 Tryd.f5.results.toList C_signalboxlaw39_WaitsReach D_signalboxlaw39_WaitsReach 400 false [.code (bodyOf Tryd.f5)] (List.map some [.slice l0.p l0.n l0.c, .int .i64 a1] ++ List.replicate (Tryd.f5.ntmps - List.length ([.slice l0.p l0.n l0.c, .int .i64 a1] : List Value)) none) = B_signalboxlaw39_WaitsReach l0 a1 := by kernel_rfl
theorem S_signalboxlaw39_WaitsReach (l0 : Sl) (a1 : Int) {h : Hp} {Q : Value → Hp → Prop} (hb : B_signalboxlaw39_WaitsReach l0 a1 h Q) : N_signalboxlaw39_WaitsReach l0 a1 h Q :=
  Nf.of_ev Tryd.call5 Tryd.func5 (c := bodyOf Tryd.f5) rfl mixed C_signalboxlaw39_WaitsReach D_signalboxlaw39_WaitsReach 400 (args := [.slice l0.p l0.n l0.c, .int .i64 a1]) (by rw [E_signalboxlaw39_WaitsReach]; exact hb)
theorem E_signalboxlaw39_WaitsReach_14 (a1 : Int) (g5 : Option Addr) (r6 : Option Addr) (reach8 : Sl) (waits9 : Sl) (all10 : Addr) (m11 : Int) (n12 : Int) (t57 : Int) : ev Tryd.prog 5 Tryd.f5.results.toList C_signalboxlaw39_WaitsReach D_signalboxlaw39_WaitsReach 400 true (todoOf Tryd.f5 14) (T_signalboxlaw39_WaitsReach_14 a1 g5 r6 reach8 waits9 all10 m11 n12 t57) = B_signalboxlaw39_WaitsReach_14 a1 g5 r6 reach8 waits9 all10 m11 n12 t57 := by kernel_rfl
theorem S_signalboxlaw39_WaitsReach_14 (a1 : Int) (g5 : Option Addr) (r6 : Option Addr) (reach8 : Sl) (waits9 : Sl) (all10 : Addr) (m11 : Int) (n12 : Int) (t57 : Int) {h : Hp} {Q : Value → Hp → Prop} (hb : B_signalboxlaw39_WaitsReach_14 a1 g5 r6 reach8 waits9 all10 m11 n12 t57 h Q) : K_signalboxlaw39_WaitsReach_14 a1 g5 r6 reach8 waits9 all10 m11 n12 t57 h Q :=
  Cut.of_ev Tryd.func5 mixed C_signalboxlaw39_WaitsReach D_signalboxlaw39_WaitsReach 400 (by rw [E_signalboxlaw39_WaitsReach_14]; exact hb)
theorem E_signalboxlaw39_WaitsReach_20 (a1 : Int) (g5 : Option Addr) (r6 : Option Addr) (reach8 : Sl) (waits9 : Sl) (all10 : Addr) (m11 : Int) (n12 : Int) (b13 : Int) (t57 : Int) : ev Tryd.prog 5 Tryd.f5.results.toList C_signalboxlaw39_WaitsReach D_signalboxlaw39_WaitsReach 400 true (todoOf Tryd.f5 20) (T_signalboxlaw39_WaitsReach_20 a1 g5 r6 reach8 waits9 all10 m11 n12 b13 t57) = B_signalboxlaw39_WaitsReach_20 a1 g5 r6 reach8 waits9 all10 m11 n12 b13 t57 := by kernel_rfl
theorem S_signalboxlaw39_WaitsReach_20 (a1 : Int) (g5 : Option Addr) (r6 : Option Addr) (reach8 : Sl) (waits9 : Sl) (all10 : Addr) (m11 : Int) (n12 : Int) (b13 : Int) (t57 : Int) {h : Hp} {Q : Value → Hp → Prop} (hb : B_signalboxlaw39_WaitsReach_20 a1 g5 r6 reach8 waits9 all10 m11 n12 b13 t57 h Q) : K_signalboxlaw39_WaitsReach_20 a1 g5 r6 reach8 waits9 all10 m11 n12 b13 t57 h Q :=
  Cut.of_ev Tryd.func5 mixed C_signalboxlaw39_WaitsReach D_signalboxlaw39_WaitsReach 400 (by rw [E_signalboxlaw39_WaitsReach_20]; exact hb)
theorem E_signalboxlaw39_WaitsReach_30 (x14 : Sl) (y16 : Sl) (t132 : Int) (t133 : Int) : ev Tryd.prog 5 Tryd.f5.results.toList C_signalboxlaw39_WaitsReach D_signalboxlaw39_WaitsReach 400 true (todoOf Tryd.f5 30) (T_signalboxlaw39_WaitsReach_30 x14 y16 t132 t133) = B_signalboxlaw39_WaitsReach_30 x14 y16 t132 t133 := by kernel_rfl
theorem S_signalboxlaw39_WaitsReach_30 (x14 : Sl) (y16 : Sl) (t132 : Int) (t133 : Int) {h : Hp} {Q : Value → Hp → Prop} (hb : B_signalboxlaw39_WaitsReach_30 x14 y16 t132 t133 h Q) : K_signalboxlaw39_WaitsReach_30 x14 y16 t132 t133 h Q :=
  Cut.of_ev Tryd.func5 mixed C_signalboxlaw39_WaitsReach D_signalboxlaw39_WaitsReach 400 (by rw [E_signalboxlaw39_WaitsReach_30]; exact hb)
def C_signalboxlaw39_fixed : List (Nat × List Nat) := []
def D_signalboxlaw39_fixed : List (Nat × List Nat) := []
def B_signalboxlaw39_fixed : M Value :=
  mBind (N_waits_New) fun r10 =>
  unP r10 fun (x10 : Option Addr) =>
  mBind (N_waits_Graph_Wait x10 (1 : Int) (2 : Int)) fun r12 =>
  unI .i64 r12 fun (x12 : Int) =>
  mBind (N_waits_Graph_Wait x10 (2 : Int) (1 : Int)) fun r14 =>
  unI .i64 r14 fun (x14 : Int) =>
  mBind (N_waits_Graph_Wait x10 (5 : Int) (1 : Int)) fun r16 =>
  unI .i64 r16 fun (_x16 : Int) =>
  mBind (N_waits_Graph_Ring x10) fun r18 =>
  unL r18 fun (x18 : Sl) =>
  mBind (N_waits_Graph_Stuck x10) fun r20 =>
  unL r20 fun (x20 : Sl) =>
  mBind (N_waits_Graph_Order x10) fun r23 =>
  un2 unL unB r23 fun (_x23_0 : Sl) (x23_1 : Bool) =>
  mBind (N_waits_Graph_Stop x10 (2 : Int) (1 : Int)) fun r27 =>
  unB r27 fun (_x27 : Bool) =>
  mBind (N_waits_Graph_Order x10) fun r30 =>
  un2 unL unB r30 fun (x30_0 : Sl) (x30_1 : Bool) =>
  mBind (mIf (((x12 == (0 : Int)) && (x14 == (0 : Int))) && ((x18.n : Int) == (2 : Int))) (mIdx x18 (0 : Int) 1 fun (x46 : Addr) =>
    mLdI .i64 x46 fun (x47 : Int) =>
    mRet (x47 == (1 : Int))) (mRet false)) fun (b12 : Bool) =>
  mBind (mIf b12 (mIdx x18 (1 : Int) 1 fun (x52 : Addr) =>
    mLdI .i64 x52 fun (x53 : Int) =>
    mRet (x53 == (2 : Int))) (mRet false)) fun (b15 : Bool) =>
  mBind (mIf (b15 && ((x20.n : Int) == (3 : Int))) (mIdx x20 (2 : Int) 1 fun (x63 : Addr) =>
    mLdI .i64 x63 fun (x64 : Int) =>
    mRet (x64 == (5 : Int))) (mRet false)) fun (b18 : Bool) =>
  mBind (mIf (((b18 && (!x23_1)) && x30_1) && ((x30_0.n : Int) == (3 : Int))) (mIdx x30_0 (0 : Int) 1 fun (x81 : Addr) =>
    mLdI .i64 x81 fun (x82 : Int) =>
    mRet (x82 == (2 : Int))) (mRet false)) fun (b21 : Bool) =>
  mBind (mIf b21 (mIdx x30_0 (1 : Int) 1 fun (x87 : Addr) =>
    mLdI .i64 x87 fun (x88 : Int) =>
    mRet (x88 == (1 : Int))) (mRet false)) fun (b24 : Bool) =>
  mBind (mIf b24 (mBind (N_waits_Graph_Wait x10 (0 : Int) (64 : Int)) fun r93 =>
    unI .i64 r93 fun (x93 : Int) =>
    mRet (x93 == (5 : Int))) (mRet false)) fun (b26 : Bool) =>
  mRet (.bool b26)
theorem E_signalboxlaw39_fixed : ev Tryd.prog 6 Tryd.f6.results.toList C_signalboxlaw39_fixed D_signalboxlaw39_fixed 400 false [.code (bodyOf Tryd.f6)] (List.map some [] ++ List.replicate (Tryd.f6.ntmps - List.length ([] : List Value)) none) = B_signalboxlaw39_fixed := by kernel_rfl
theorem S_signalboxlaw39_fixed {h : Hp} {Q : Value → Hp → Prop} (hb : B_signalboxlaw39_fixed h Q) : N_signalboxlaw39_fixed h Q :=
  Nf.of_ev Tryd.call6 Tryd.func6 (c := bodyOf Tryd.f6) rfl mixed C_signalboxlaw39_fixed D_signalboxlaw39_fixed 400 (args := []) (by rw [E_signalboxlaw39_fixed]; exact hb)
def C_signalboxlaw39_made : List (Nat × List Nat) := [(3, [5, 6, 14, 15, 16]), (8, [5, 6]), (9, [5, 6, 8, 9, 14, 15, 16]), (17, [5, 6, 8, 10, 14, 15, 16])]
def D_signalboxlaw39_made : List (Nat × List Nat) := [(7, []), (10, []), (12, [])]
def T_signalboxlaw39_made_3 (g5 : Option Addr) (r6 : Addr) (t14 : Sl) (t15 : Int) (t16 : Int) : Env := mkEnv [(5, .pointer g5), (6, .pointer (some r6)), (14, .slice t14.p t14.n t14.c), (15, .int .i64 t15), (16, .int .i64 t16)] 104 0
def K_signalboxlaw39_made_3 (g5 : Option Addr) (r6 : Addr) (t14 : Sl) (t15 : Int) (t16 : Int) : M Value := Cut Tryd.prog 7 (todoOf Tryd.f7 3) (T_signalboxlaw39_made_3 g5 r6 t14 t15 t16)
def T_signalboxlaw39_made_8 (g5 : Option Addr) (r6 : Addr) : Env := mkEnv [(5, .pointer g5), (6, .pointer (some r6))] 104 0
def K_signalboxlaw39_made_8 (g5 : Option Addr) (r6 : Addr) : M Value := Cut Tryd.prog 7 (todoOf Tryd.f7 8) (T_signalboxlaw39_made_8 g5 r6)
def T_signalboxlaw39_made_9 (g5 : Option Addr) (r6 : Addr) (p8 : Addr) (in9 : Bool) (t14 : Sl) (t15 : Int) (t16 : Int) : Env := mkEnv [(5, .pointer g5), (6, .pointer (some r6)), (8, .pointer (some p8)), (9, .bool in9), (14, .slice t14.p t14.n t14.c), (15, .int .i64 t15), (16, .int .i64 t16)] 104 0
def K_signalboxlaw39_made_9 (g5 : Option Addr) (r6 : Addr) (p8 : Addr) (in9 : Bool) (t14 : Sl) (t15 : Int) (t16 : Int) : M Value := Cut Tryd.prog 7 (todoOf Tryd.f7 9) (T_signalboxlaw39_made_9 g5 r6 p8 in9 t14 t15 t16)
def T_signalboxlaw39_made_17 (g5 : Option Addr) (r6 : Addr) (p8 : Addr) (want10 : Int) (t14 : Sl) (t15 : Int) (t16 : Int) : Env := mkEnv [(5, .pointer g5), (6, .pointer (some r6)), (8, .pointer (some p8)), (10, .int .i64 want10), (14, .slice t14.p t14.n t14.c), (15, .int .i64 t15), (16, .int .i64 t16)] 104 0
def K_signalboxlaw39_made_17 (g5 : Option Addr) (r6 : Addr) (p8 : Addr) (want10 : Int) (t14 : Sl) (t15 : Int) (t16 : Int) : M Value := Cut Tryd.prog 7 (todoOf Tryd.f7 17) (T_signalboxlaw39_made_17 g5 r6 p8 want10 t14 t15 t16)
def B_signalboxlaw39_made (l0 : Sl) : M Value :=
  mBind (N_waits_New) fun r11 =>
  unP r11 fun (x11 : Option Addr) =>
  mNew (List.replicate 4096 (.bool false)).toArray 42 fun (x13 : Addr) =>
  K_signalboxlaw39_made_3 x11 x13 l0 (l0.n : Int) (0 : Int)
def B_signalboxlaw39_made_3 (g5 : Option Addr) (r6 : Addr) (t14 : Sl) (t15 : Int) (t16 : Int) : M Value :=
  mIf (decide (t16 < t15)) (
    mIdx t14 t16 3 fun (x18 : Addr) =>
    mLdI .i64 x18 fun (x19_0 : Int) =>
    mLdI .i64 (x18.add 1) fun (x19_1 : Int) =>
    mLdB (x18.add 2) fun (x19_2 : Bool) =>
    mNew #[.int .i64 (0 : Int), .int .i64 (0 : Int), .bool false] 44 fun (x8 : Addr) =>
    mSt x8 (.int .i64 x19_0) <|
    mSt (x8.add 1) (.int .i64 x19_1) <|
    mSt (x8.add 2) (.bool x19_2) <|
    mLdI .i64 x8 fun (x21 : Int) =>
    mBind (mIf (decide (x21 ≥ (0 : Int))) (mLdI .i64 x8 fun (x25 : Int) =>
      mRet (decide (x25 < (64 : Int)))) (mRet false)) fun (b11 : Bool) =>
    mBind (mIf b11 (mLdI .i64 (x8.add 1) fun (x30 : Int) =>
      mRet (decide (x30 ≥ (0 : Int)))) (mRet false)) fun (b14 : Bool) =>
    mBind (mIf b14 (mLdI .i64 (x8.add 1) fun (x35 : Int) =>
      mRet (decide (x35 < (64 : Int)))) (mRet false)) fun (b17 : Bool) =>
    mLdB (x8.add 2) fun (x39 : Bool) =>
    mIf x39 (
      mAnd (
        mLdI .i64 x8 fun (x42_40 : Int) =>
        mLdI .i64 (x8.add 1) fun (x44_41 : Int) =>
        mBind (N_waits_Graph_Stop g5 x42_40 x44_41) fun r45_42 =>
        unB r45_42 fun (x45_42 : Bool) =>
        mIf b17 (
          mAnd (
            mLdI .i64 x8 fun (x50_51 : Int) =>
            mIdx ⟨(some r6), 64, 64⟩ x50_51 64 fun (x54_52 : Addr) =>
            mLdI .i64 (x8.add 1) fun (x52_53 : Int) =>
            mIdx ⟨(some x54_52), 64, 64⟩ x52_53 1 fun (x55_54 : Addr) =>
            mLdB x55_54 fun (x56_55 : Bool) =>
            mIf (!(x45_42 == (match true with | true => x56_55 | false => false))) (
              K_signalboxlaw39_made_8 g5 r6) (
              K_signalboxlaw39_made_9 g5 r6 x8 b17 t14 t15 t16)) (
            mLdI .i64 (x8.add 1) fun (x52_46 : Int) =>
            mLdI .i64 x8 fun (x50_47 : Int) =>
            mIdx ⟨(some r6), 64, 64⟩ x50_47 64 fun (x54_48 : Addr) =>
            mIdx ⟨(some x54_48), 64, 64⟩ x52_46 1 fun (x55_49 : Addr) =>
            mLdB x55_49 fun (x56_50 : Bool) =>
            mIf (!(x45_42 == (match true with | true => x56_50 | false => false))) (
              K_signalboxlaw39_made_8 g5 r6) (
              K_signalboxlaw39_made_9 g5 r6 x8 b17 t14 t15 t16))) (
          mAnd (
            mIf (!(x45_42 == false)) (
              K_signalboxlaw39_made_8 g5 r6) (
              K_signalboxlaw39_made_9 g5 r6 x8 b17 t14 t15 t16)) (
            mIf (!(x45_42 == false)) (
              K_signalboxlaw39_made_8 g5 r6) (
              K_signalboxlaw39_made_9 g5 r6 x8 b17 t14 t15 t16)))) (
        mLdI .i64 (x8.add 1) fun (x44 : Int) =>
        mLdI .i64 x8 fun (x42 : Int) =>
        mBind (N_waits_Graph_Stop g5 x42 x44) fun r45 =>
        unB r45 fun (x45 : Bool) =>
        mIf b17 (
          mAnd (
            mLdI .i64 x8 fun (x50_33 : Int) =>
            mIdx ⟨(some r6), 64, 64⟩ x50_33 64 fun (x54_34 : Addr) =>
            mLdI .i64 (x8.add 1) fun (x52_35 : Int) =>
            mIdx ⟨(some x54_34), 64, 64⟩ x52_35 1 fun (x55_36 : Addr) =>
            mLdB x55_36 fun (x56_37 : Bool) =>
            mIf (!(x45 == (match true with | true => x56_37 | false => false))) (
              K_signalboxlaw39_made_8 g5 r6) (
              K_signalboxlaw39_made_9 g5 r6 x8 b17 t14 t15 t16)) (
            mLdI .i64 (x8.add 1) fun (x52 : Int) =>
            mLdI .i64 x8 fun (x50 : Int) =>
            mIdx ⟨(some r6), 64, 64⟩ x50 64 fun (x54 : Addr) =>
            mIdx ⟨(some x54), 64, 64⟩ x52 1 fun (x55 : Addr) =>
            mLdB x55 fun (x56 : Bool) =>
            mIf (!(x45 == (match true with | true => x56 | false => false))) (
              K_signalboxlaw39_made_8 g5 r6) (
              K_signalboxlaw39_made_9 g5 r6 x8 b17 t14 t15 t16))) (
          mAnd (
            mIf (!(x45 == false)) (
              K_signalboxlaw39_made_8 g5 r6) (
              K_signalboxlaw39_made_9 g5 r6 x8 b17 t14 t15 t16)) (
            mIf (!(x45 == false)) (
              K_signalboxlaw39_made_8 g5 r6) (
              K_signalboxlaw39_made_9 g5 r6 x8 b17 t14 t15 t16))))) (
      mIf (!b17) (
        K_signalboxlaw39_made_17 g5 r6 x8 (5 : Int) t14 t15 t16) (
        mLdI .i64 x8 fun (x84 : Int) =>
        mLdI .i64 (x8.add 1) fun (x86 : Int) =>
        mIdx ⟨(some r6), 64, 64⟩ x84 64 fun (x88 : Addr) =>
        mIdx ⟨(some x88), 64, 64⟩ x86 1 fun (x89 : Addr) =>
        mLdB x89 fun (x90 : Bool) =>
        mIf x90 (
          K_signalboxlaw39_made_17 g5 r6 x8 (10 : Int) t14 t15 t16) (
          mAnd (
            mLdI .i64 x8 fun (x72_74 : Int) =>
            mIdx ⟨(some r6), 64, 64⟩ x72_74 64 fun (x76_75 : Addr) =>
            mLdI .i64 (x8.add 1) fun (x74_76 : Int) =>
            mIdx ⟨(some x76_75), 64, 64⟩ x74_76 1 fun (x77_77 : Addr) =>
            mSt x77_77 (.bool true) <|
            K_signalboxlaw39_made_17 g5 r6 x8 (0 : Int) t14 t15 t16) (
            mLdI .i64 (x8.add 1) fun (x74 : Int) =>
            mLdI .i64 x8 fun (x72 : Int) =>
            mIdx ⟨(some r6), 64, 64⟩ x72 64 fun (x76 : Addr) =>
            mIdx ⟨(some x76), 64, 64⟩ x74 1 fun (x77 : Addr) =>
            mSt x77 (.bool true) <|
            K_signalboxlaw39_made_17 g5 r6 x8 (0 : Int) t14 t15 t16))))) (
    mRet (.tuple #[.pointer g5, .pointer (some r6), .bool true]))
def B_signalboxlaw39_made_8 (g5 : Option Addr) (r6 : Addr) : M Value :=
  mRet (.tuple #[.pointer g5, .pointer (some r6), .bool false])
def B_signalboxlaw39_made_9 (g5 : Option Addr) (r6 : Addr) (p8 : Addr) (in9 : Bool) (t14 : Sl) (t15 : Int) (t16 : Int) : M Value :=
  mIf in9 (
    mAnd (
      mLdI .i64 p8 fun (x64_87 : Int) =>
      mIdx ⟨(some r6), 64, 64⟩ x64_87 64 fun (x68_88 : Addr) =>
      mLdI .i64 (p8.add 1) fun (x66_89 : Int) =>
      mIdx ⟨(some x68_88), 64, 64⟩ x66_89 1 fun (x69_90 : Addr) =>
      mSt x69_90 (.bool false) <|
      K_signalboxlaw39_made_3 g5 r6 t14 t15 (IntKind.i64.wrap (t16 + (1 : Int)))) (
      mLdI .i64 (p8.add 1) fun (x66 : Int) =>
      mLdI .i64 p8 fun (x64 : Int) =>
      mIdx ⟨(some r6), 64, 64⟩ x64 64 fun (x68 : Addr) =>
      mIdx ⟨(some x68), 64, 64⟩ x66 1 fun (x69 : Addr) =>
      mSt x69 (.bool false) <|
      K_signalboxlaw39_made_3 g5 r6 t14 t15 (IntKind.i64.wrap (t16 + (1 : Int))))) (
    K_signalboxlaw39_made_3 g5 r6 t14 t15 (IntKind.i64.wrap (t16 + (1 : Int))))
def B_signalboxlaw39_made_17 (g5 : Option Addr) (r6 : Addr) (p8 : Addr) (want10 : Int) (t14 : Sl) (t15 : Int) (t16 : Int) : M Value :=
  mLdI .i64 p8 fun (x93 : Int) =>
  mLdI .i64 (p8.add 1) fun (x95 : Int) =>
  mBind (N_waits_Graph_Wait g5 x93 x95) fun r96 =>
  unI .i64 r96 fun (x96 : Int) =>
  mIf (x96 != want10) (
    mRet (.tuple #[.pointer g5, .pointer (some r6), .bool false])) (
    K_signalboxlaw39_made_3 g5 r6 t14 t15 (IntKind.i64.wrap (t16 + (1 : Int))))
theorem E_signalboxlaw39_made (l0 : Sl) : ev Tryd.prog 7 Tryd.f7.results.toList C_signalboxlaw39_made D_signalboxlaw39_made 400 false [.code (bodyOf Tryd.f7)] (List.map some [.slice l0.p l0.n l0.c] ++ List.replicate (Tryd.f7.ntmps - List.length ([.slice l0.p l0.n l0.c] : List Value)) none) = B_signalboxlaw39_made l0 := by kernel_rfl
theorem S_signalboxlaw39_made (l0 : Sl) {h : Hp} {Q : Value → Hp → Prop} (hb : B_signalboxlaw39_made l0 h Q) : N_signalboxlaw39_made l0 h Q :=
  Nf.of_ev Tryd.call7 Tryd.func7 (c := bodyOf Tryd.f7) rfl mixed C_signalboxlaw39_made D_signalboxlaw39_made 400 (args := [.slice l0.p l0.n l0.c]) (by rw [E_signalboxlaw39_made]; exact hb)
theorem E_signalboxlaw39_made_3 (g5 : Option Addr) (r6 : Addr) (t14 : Sl) (t15 : Int) (t16 : Int) : ev Tryd.prog 7 Tryd.f7.results.toList C_signalboxlaw39_made D_signalboxlaw39_made 400 true (todoOf Tryd.f7 3) (T_signalboxlaw39_made_3 g5 r6 t14 t15 t16) = B_signalboxlaw39_made_3 g5 r6 t14 t15 t16 := by kernel_rfl
theorem S_signalboxlaw39_made_3 (g5 : Option Addr) (r6 : Addr) (t14 : Sl) (t15 : Int) (t16 : Int) {h : Hp} {Q : Value → Hp → Prop} (hb : B_signalboxlaw39_made_3 g5 r6 t14 t15 t16 h Q) : K_signalboxlaw39_made_3 g5 r6 t14 t15 t16 h Q :=
  Cut.of_ev Tryd.func7 mixed C_signalboxlaw39_made D_signalboxlaw39_made 400 (by rw [E_signalboxlaw39_made_3]; exact hb)
theorem E_signalboxlaw39_made_8 (g5 : Option Addr) (r6 : Addr) : ev Tryd.prog 7 Tryd.f7.results.toList C_signalboxlaw39_made D_signalboxlaw39_made 400 true (todoOf Tryd.f7 8) (T_signalboxlaw39_made_8 g5 r6) = B_signalboxlaw39_made_8 g5 r6 := by kernel_rfl
theorem S_signalboxlaw39_made_8 (g5 : Option Addr) (r6 : Addr) {h : Hp} {Q : Value → Hp → Prop} (hb : B_signalboxlaw39_made_8 g5 r6 h Q) : K_signalboxlaw39_made_8 g5 r6 h Q :=
  Cut.of_ev Tryd.func7 mixed C_signalboxlaw39_made D_signalboxlaw39_made 400 (by rw [E_signalboxlaw39_made_8]; exact hb)
theorem E_signalboxlaw39_made_9 (g5 : Option Addr) (r6 : Addr) (p8 : Addr) (in9 : Bool) (t14 : Sl) (t15 : Int) (t16 : Int) : ev Tryd.prog 7 Tryd.f7.results.toList C_signalboxlaw39_made D_signalboxlaw39_made 400 true (todoOf Tryd.f7 9) (T_signalboxlaw39_made_9 g5 r6 p8 in9 t14 t15 t16) = B_signalboxlaw39_made_9 g5 r6 p8 in9 t14 t15 t16 := by kernel_rfl
theorem S_signalboxlaw39_made_9 (g5 : Option Addr) (r6 : Addr) (p8 : Addr) (in9 : Bool) (t14 : Sl) (t15 : Int) (t16 : Int) {h : Hp} {Q : Value → Hp → Prop} (hb : B_signalboxlaw39_made_9 g5 r6 p8 in9 t14 t15 t16 h Q) : K_signalboxlaw39_made_9 g5 r6 p8 in9 t14 t15 t16 h Q :=
  Cut.of_ev Tryd.func7 mixed C_signalboxlaw39_made D_signalboxlaw39_made 400 (by rw [E_signalboxlaw39_made_9]; exact hb)
theorem E_signalboxlaw39_made_17 (g5 : Option Addr) (r6 : Addr) (p8 : Addr) (want10 : Int) (t14 : Sl) (t15 : Int) (t16 : Int) : ev Tryd.prog 7 Tryd.f7.results.toList C_signalboxlaw39_made D_signalboxlaw39_made 400 true (todoOf Tryd.f7 17) (T_signalboxlaw39_made_17 g5 r6 p8 want10 t14 t15 t16) = B_signalboxlaw39_made_17 g5 r6 p8 want10 t14 t15 t16 := by kernel_rfl
theorem S_signalboxlaw39_made_17 (g5 : Option Addr) (r6 : Addr) (p8 : Addr) (want10 : Int) (t14 : Sl) (t15 : Int) (t16 : Int) {h : Hp} {Q : Value → Hp → Prop} (hb : B_signalboxlaw39_made_17 g5 r6 p8 want10 t14 t15 t16 h Q) : K_signalboxlaw39_made_17 g5 r6 p8 want10 t14 t15 t16 h Q :=
  Cut.of_ev Tryd.func7 mixed C_signalboxlaw39_made D_signalboxlaw39_made 400 (by rw [E_signalboxlaw39_made_17]; exact hb)
def C_signalboxref39_Graph_Reach : List (Nat × List Nat) := [(3, [0, 1, 4, 5, 6]), (6, [0, 1, 4, 5, 6, 7]), (9, [0, 1, 4, 5, 6, 7, 8])]
def D_signalboxref39_Graph_Reach : List (Nat × List Nat) := []
def T_signalboxref39_Graph_Reach_3 (g0 : Option Addr) (a1 : Int) (t4 : Addr) (out5 : Addr) (again6 : Bool) : Env := mkEnv [(0, .pointer g0), (1, .int .i64 a1), (4, .pointer (some t4)), (5, .pointer (some out5)), (6, .bool again6)] 44 0
def K_signalboxref39_Graph_Reach_3 (g0 : Option Addr) (a1 : Int) (t4 : Addr) (out5 : Addr) (again6 : Bool) : M Value := Cut Tryd.prog 8 (todoOf Tryd.f8 3) (T_signalboxref39_Graph_Reach_3 g0 a1 t4 out5 again6)
def T_signalboxref39_Graph_Reach_6 (g0 : Option Addr) (a1 : Int) (t4 : Addr) (out5 : Addr) (again6 : Bool) (b7 : Int) : Env := mkEnv [(0, .pointer g0), (1, .int .i64 a1), (4, .pointer (some t4)), (5, .pointer (some out5)), (6, .bool again6), (7, .int .i64 b7)] 44 0
def K_signalboxref39_Graph_Reach_6 (g0 : Option Addr) (a1 : Int) (t4 : Addr) (out5 : Addr) (again6 : Bool) (b7 : Int) : M Value := Cut Tryd.prog 8 (todoOf Tryd.f8 6) (T_signalboxref39_Graph_Reach_6 g0 a1 t4 out5 again6 b7)
def T_signalboxref39_Graph_Reach_9 (g0 : Option Addr) (a1 : Int) (t4 : Addr) (out5 : Addr) (again6 : Bool) (b7 : Int) (c8 : Int) : Env := mkEnv [(0, .pointer g0), (1, .int .i64 a1), (4, .pointer (some t4)), (5, .pointer (some out5)), (6, .bool again6), (7, .int .i64 b7), (8, .int .i64 c8)] 44 0
def K_signalboxref39_Graph_Reach_9 (g0 : Option Addr) (a1 : Int) (t4 : Addr) (out5 : Addr) (again6 : Bool) (b7 : Int) (c8 : Int) : M Value := Cut Tryd.prog 8 (todoOf Tryd.f8 9) (T_signalboxref39_Graph_Reach_9 g0 a1 t4 out5 again6 b7 c8)
def B_signalboxref39_Graph_Reach (g0 : Option Addr) (a1 : Int) : M Value :=
  mNew #[.bool false, .bool false, .bool false, .bool false, .bool false, .bool false, .bool false, .bool false, .bool false, .bool false, .bool false, .bool false, .bool false, .bool false, .bool false, .bool false, .bool false, .bool false, .bool false, .bool false, .bool false, .bool false, .bool false, .bool false, .bool false, .bool false, .bool false, .bool false, .bool false, .bool false, .bool false, .bool false, .bool false, .bool false, .bool false, .bool false, .bool false, .bool false, .bool false, .bool false, .bool false, .bool false, .bool false, .bool false, .bool false, .bool false, .bool false, .bool false, .bool false, .bool false, .bool false, .bool false, .bool false, .bool false, .bool false, .bool false, .bool false, .bool false, .bool false, .bool false, .bool false, .bool false, .bool false, .bool false] 28 fun (x4 : Addr) =>
  mNew #[.bool false, .bool false, .bool false, .bool false, .bool false, .bool false, .bool false, .bool false, .bool false, .bool false, .bool false, .bool false, .bool false, .bool false, .bool false, .bool false, .bool false, .bool false, .bool false, .bool false, .bool false, .bool false, .bool false, .bool false, .bool false, .bool false, .bool false, .bool false, .bool false, .bool false, .bool false, .bool false, .bool false, .bool false, .bool false, .bool false, .bool false, .bool false, .bool false, .bool false, .bool false, .bool false, .bool false, .bool false, .bool false, .bool false, .bool false, .bool false, .bool false, .bool false, .bool false, .bool false, .bool false, .bool false, .bool false, .bool false, .bool false, .bool false, .bool false, .bool false, .bool false, .bool false, .bool false, .bool false] 28 fun (x5 : Addr) =>
  K_signalboxref39_Graph_Reach_3 g0 a1 x4 x5 true
def B_signalboxref39_Graph_Reach_3 (g0 : Option Addr) (a1 : Int) (t4 : Addr) (out5 : Addr) (again6 : Bool) : M Value :=
  mIf again6 (
    K_signalboxref39_Graph_Reach_6 g0 a1 t4 out5 false (0 : Int)) (
    mLdN out5 64 fun (x43 : List Value) =>
    mGuard (x43.length = 64) <|
    mStN t4 x43 <|
    mLdN t4 64 fun (q5 : List Value) =>
    mRet (.agg q5.toArray))
def B_signalboxref39_Graph_Reach_6 (g0 : Option Addr) (a1 : Int) (t4 : Addr) (out5 : Addr) (again6 : Bool) (b7 : Int) : M Value :=
  mIf (decide (b7 < (64 : Int))) (
    K_signalboxref39_Graph_Reach_9 g0 a1 t4 out5 again6 b7 (0 : Int)) (
    K_signalboxref39_Graph_Reach_3 g0 a1 t4 out5 again6)
def B_signalboxref39_Graph_Reach_9 (g0 : Option Addr) (a1 : Int) (t4 : Addr) (out5 : Addr) (again6 : Bool) (b7 : Int) (c8 : Int) : M Value :=
  mIf (decide (c8 < (64 : Int))) (
    mBind (mIf (b7 == a1) (mRet true) (mIdx ⟨(some out5), 64, 64⟩ b7 1 fun (x23 : Addr) =>
      mLdB x23 fun (x24 : Bool) =>
      mRet x24)) fun (b8 : Bool) =>
    mBind (mIf b8 (mNil g0 fun (a10 : Addr) =>
      mIdx ⟨(some a10), 64, 64⟩ b7 64 fun (x31 : Addr) =>
      mIdx ⟨(some x31), 64, 64⟩ c8 1 fun (x32 : Addr) =>
      mLdB x32 fun (x33 : Bool) =>
      mRet x33) (mRet false)) fun (b14 : Bool) =>
    mBind (mIf b14 (mIdx ⟨(some out5), 64, 64⟩ c8 1 fun (x37 : Addr) =>
      mLdB x37 fun (x38 : Bool) =>
      mRet (!x38)) (mRet false)) fun (b17 : Bool) =>
    mIf b17 (
      mIdx ⟨(some out5), 64, 64⟩ c8 1 fun (x42 : Addr) =>
      mSt x42 (.bool true) <|
      K_signalboxref39_Graph_Reach_9 g0 a1 t4 out5 true b7 (IntKind.i64.wrap (c8 + (1 : Int)))) (
      K_signalboxref39_Graph_Reach_9 g0 a1 t4 out5 again6 b7 (IntKind.i64.wrap (c8 + (1 : Int))))) (
    K_signalboxref39_Graph_Reach_6 g0 a1 t4 out5 again6 (IntKind.i64.wrap (b7 + (1 : Int))))
theorem E_signalboxref39_Graph_Reach (g0 : Option Addr) (a1 : Int) : ev Tryd.prog 8 Tryd.f8.results.toList C_signalboxref39_Graph_Reach D_signalboxref39_Graph_Reach 400 false [.code (bodyOf Tryd.f8)] (List.map some [.pointer g0, .int .i64 a1] ++ List.replicate (Tryd.f8.ntmps - List.length ([.pointer g0, .int .i64 a1] : List Value)) none) = B_signalboxref39_Graph_Reach g0 a1 := by kernel_rfl
theorem S_signalboxref39_Graph_Reach (g0 : Option Addr) (a1 : Int) {h : Hp} {Q : Value → Hp → Prop} (hb : B_signalboxref39_Graph_Reach g0 a1 h Q) : N_signalboxref39_Graph_Reach g0 a1 h Q :=
  Nf.of_ev Tryd.call8 Tryd.func8 (c := bodyOf Tryd.f8) rfl mixed C_signalboxref39_Graph_Reach D_signalboxref39_Graph_Reach 400 (args := [.pointer g0, .int .i64 a1]) (by rw [E_signalboxref39_Graph_Reach]; exact hb)
theorem E_signalboxref39_Graph_Reach_3 (g0 : Option Addr) (a1 : Int) (t4 : Addr) (out5 : Addr) (again6 : Bool) : ev Tryd.prog 8 Tryd.f8.results.toList C_signalboxref39_Graph_Reach D_signalboxref39_Graph_Reach 400 true (todoOf Tryd.f8 3) (T_signalboxref39_Graph_Reach_3 g0 a1 t4 out5 again6) = B_signalboxref39_Graph_Reach_3 g0 a1 t4 out5 again6 := by kernel_rfl
theorem S_signalboxref39_Graph_Reach_3 (g0 : Option Addr) (a1 : Int) (t4 : Addr) (out5 : Addr) (again6 : Bool) {h : Hp} {Q : Value → Hp → Prop} (hb : B_signalboxref39_Graph_Reach_3 g0 a1 t4 out5 again6 h Q) : K_signalboxref39_Graph_Reach_3 g0 a1 t4 out5 again6 h Q :=
  Cut.of_ev Tryd.func8 mixed C_signalboxref39_Graph_Reach D_signalboxref39_Graph_Reach 400 (by rw [E_signalboxref39_Graph_Reach_3]; exact hb)
theorem E_signalboxref39_Graph_Reach_6 (g0 : Option Addr) (a1 : Int) (t4 : Addr) (out5 : Addr) (again6 : Bool) (b7 : Int) : ev Tryd.prog 8 Tryd.f8.results.toList C_signalboxref39_Graph_Reach D_signalboxref39_Graph_Reach 400 true (todoOf Tryd.f8 6) (T_signalboxref39_Graph_Reach_6 g0 a1 t4 out5 again6 b7) = B_signalboxref39_Graph_Reach_6 g0 a1 t4 out5 again6 b7 := by kernel_rfl
theorem S_signalboxref39_Graph_Reach_6 (g0 : Option Addr) (a1 : Int) (t4 : Addr) (out5 : Addr) (again6 : Bool) (b7 : Int) {h : Hp} {Q : Value → Hp → Prop} (hb : B_signalboxref39_Graph_Reach_6 g0 a1 t4 out5 again6 b7 h Q) : K_signalboxref39_Graph_Reach_6 g0 a1 t4 out5 again6 b7 h Q :=
  Cut.of_ev Tryd.func8 mixed C_signalboxref39_Graph_Reach D_signalboxref39_Graph_Reach 400 (by rw [E_signalboxref39_Graph_Reach_6]; exact hb)
theorem E_signalboxref39_Graph_Reach_9 (g0 : Option Addr) (a1 : Int) (t4 : Addr) (out5 : Addr) (again6 : Bool) (b7 : Int) (c8 : Int) : ev Tryd.prog 8 Tryd.f8.results.toList C_signalboxref39_Graph_Reach D_signalboxref39_Graph_Reach 400 true (todoOf Tryd.f8 9) (T_signalboxref39_Graph_Reach_9 g0 a1 t4 out5 again6 b7 c8) = B_signalboxref39_Graph_Reach_9 g0 a1 t4 out5 again6 b7 c8 := by kernel_rfl
theorem S_signalboxref39_Graph_Reach_9 (g0 : Option Addr) (a1 : Int) (t4 : Addr) (out5 : Addr) (again6 : Bool) (b7 : Int) (c8 : Int) {h : Hp} {Q : Value → Hp → Prop} (hb : B_signalboxref39_Graph_Reach_9 g0 a1 t4 out5 again6 b7 c8 h Q) : K_signalboxref39_Graph_Reach_9 g0 a1 t4 out5 again6 b7 c8 h Q :=
  Cut.of_ev Tryd.func8 mixed C_signalboxref39_Graph_Reach D_signalboxref39_Graph_Reach 400 (by rw [E_signalboxref39_Graph_Reach_9]; exact hb)
def C_waits_Graph_Stuck : List (Nat × List Nat) := [(5, [0, 3, 9]), (12, [0, 3, 5, 24])]
def D_waits_Graph_Stuck : List (Nat × List Nat) := []
def T_waits_Graph_Stuck_5 (g0 : Option Addr) (rings3 : Int) (t9 : Int) : Env := mkEnv [(0, .pointer g0), (3, .int .u64 rings3), (9, .int .i64 t9)] 42 0
def K_waits_Graph_Stuck_5 (g0 : Option Addr) (rings3 : Int) (t9 : Int) : M Value := Cut Tryd.prog 9 (todoOf Tryd.f9 5) (T_waits_Graph_Stuck_5 g0 rings3 t9)
def T_waits_Graph_Stuck_12 (g0 : Option Addr) (rings3 : Int) (out5 : Sl) (t24 : Int) : Env := mkEnv [(0, .pointer g0), (3, .int .u64 rings3), (5, .slice out5.p out5.n out5.c), (24, .int .i64 t24)] 42 0
def K_waits_Graph_Stuck_12 (g0 : Option Addr) (rings3 : Int) (out5 : Sl) (t24 : Int) : M Value := Cut Tryd.prog 9 (todoOf Tryd.f9 12) (T_waits_Graph_Stuck_12 g0 rings3 out5 t24)
def B_waits_Graph_Stuck (g0 : Option Addr) : M Value :=
  mIf g0.isNone (
    mRet (.slice none (0) (0))) (
    K_waits_Graph_Stuck_5 g0 (0 : Int) (0 : Int))
def B_waits_Graph_Stuck_5 (g0 : Option Addr) (rings3 : Int) (t9 : Int) : M Value :=
  mIf (decide (t9 < (64 : Int))) (
    mBind (N_waits_Graph_reach g0 t9) fun r14 =>
    unI .u64 r14 fun (x14 : Int) =>
    mBind (N_waits_bit t9) fun r16 =>
    unI .u64 r16 fun (x16 : Int) =>
    mIf ((iand .u64 x14 x16) != (0 : Int)) (
      mBind (N_waits_bit t9) fun r21 =>
      unI .u64 r21 fun (x21 : Int) =>
      K_waits_Graph_Stuck_5 g0 (ior .u64 rings3 x21) (IntKind.i64.wrap (t9 + (1 : Int)))) (
      K_waits_Graph_Stuck_5 g0 rings3 (IntKind.i64.wrap (t9 + (1 : Int))))) (
    K_waits_Graph_Stuck_12 g0 rings3 (Sl.mk none 0 0) (0 : Int))
def B_waits_Graph_Stuck_12 (g0 : Option Addr) (rings3 : Int) (out5 : Sl) (t24 : Int) : M Value :=
  mIf (decide (t24 < (64 : Int))) (
    mBind (N_waits_bit t24) fun r29 =>
    unI .u64 r29 fun (x29 : Int) =>
    mBind (N_waits_Graph_reach g0 t24) fun r32 =>
    unI .u64 r32 fun (x32 : Int) =>
    mIf ((iand .u64 rings3 (ior .u64 x29 x32)) != (0 : Int)) (
      mNew #[.int .i64 t24] 3 fun (x38 : Addr) =>
      mApp 3 1 8 #[.int .i64 (0 : Int)] out5 ⟨(some x38), 1, 1⟩ fun (x39 : Sl) =>
      K_waits_Graph_Stuck_12 g0 rings3 x39 (IntKind.i64.wrap (t24 + (1 : Int)))) (
      K_waits_Graph_Stuck_12 g0 rings3 out5 (IntKind.i64.wrap (t24 + (1 : Int))))) (
    mRet (.slice out5.p out5.n out5.c))
theorem E_waits_Graph_Stuck (g0 : Option Addr) : ev Tryd.prog 9 Tryd.f9.results.toList C_waits_Graph_Stuck D_waits_Graph_Stuck 400 false [.code (bodyOf Tryd.f9)] (List.map some [.pointer g0] ++ List.replicate (Tryd.f9.ntmps - List.length ([.pointer g0] : List Value)) none) = B_waits_Graph_Stuck g0 := by kernel_rfl
theorem S_waits_Graph_Stuck (g0 : Option Addr) {h : Hp} {Q : Value → Hp → Prop} (hb : B_waits_Graph_Stuck g0 h Q) : N_waits_Graph_Stuck g0 h Q :=
  Nf.of_ev Tryd.call9 Tryd.func9 (c := bodyOf Tryd.f9) rfl mixed C_waits_Graph_Stuck D_waits_Graph_Stuck 400 (args := [.pointer g0]) (by rw [E_waits_Graph_Stuck]; exact hb)
theorem E_waits_Graph_Stuck_5 (g0 : Option Addr) (rings3 : Int) (t9 : Int) : ev Tryd.prog 9 Tryd.f9.results.toList C_waits_Graph_Stuck D_waits_Graph_Stuck 400 true (todoOf Tryd.f9 5) (T_waits_Graph_Stuck_5 g0 rings3 t9) = B_waits_Graph_Stuck_5 g0 rings3 t9 := by kernel_rfl
theorem S_waits_Graph_Stuck_5 (g0 : Option Addr) (rings3 : Int) (t9 : Int) {h : Hp} {Q : Value → Hp → Prop} (hb : B_waits_Graph_Stuck_5 g0 rings3 t9 h Q) : K_waits_Graph_Stuck_5 g0 rings3 t9 h Q :=
  Cut.of_ev Tryd.func9 mixed C_waits_Graph_Stuck D_waits_Graph_Stuck 400 (by rw [E_waits_Graph_Stuck_5]; exact hb)
theorem E_waits_Graph_Stuck_12 (g0 : Option Addr) (rings3 : Int) (out5 : Sl) (t24 : Int) : ev Tryd.prog 9 Tryd.f9.results.toList C_waits_Graph_Stuck D_waits_Graph_Stuck 400 true (todoOf Tryd.f9 12) (T_waits_Graph_Stuck_12 g0 rings3 out5 t24) = B_waits_Graph_Stuck_12 g0 rings3 out5 t24 := by kernel_rfl
theorem S_waits_Graph_Stuck_12 (g0 : Option Addr) (rings3 : Int) (out5 : Sl) (t24 : Int) {h : Hp} {Q : Value → Hp → Prop} (hb : B_waits_Graph_Stuck_12 g0 rings3 out5 t24 h Q) : K_waits_Graph_Stuck_12 g0 rings3 out5 t24 h Q :=
  Cut.of_ev Tryd.func9 mixed C_waits_Graph_Stuck D_waits_Graph_Stuck 400 (by rw [E_waits_Graph_Stuck_12]; exact hb)
def C_waits_Graph_Ring : List (Nat × List Nat) := [(4, [0, 3]), (7, [0, 3, 14])]
def D_waits_Graph_Ring : List (Nat × List Nat) := []
def T_waits_Graph_Ring_4 (g0 : Option Addr) (steps3 : Int) : Env := mkEnv [(0, .pointer g0), (3, .int .i64 steps3)] 25 0
def K_waits_Graph_Ring_4 (g0 : Option Addr) (steps3 : Int) : M Value := Cut Tryd.prog 10 (todoOf Tryd.f10 4) (T_waits_Graph_Ring_4 g0 steps3)
def T_waits_Graph_Ring_7 (g0 : Option Addr) (steps3 : Int) (t14 : Int) : Env := mkEnv [(0, .pointer g0), (3, .int .i64 steps3), (14, .int .i64 t14)] 25 0
def K_waits_Graph_Ring_7 (g0 : Option Addr) (steps3 : Int) (t14 : Int) : M Value := Cut Tryd.prog 10 (todoOf Tryd.f10 7) (T_waits_Graph_Ring_7 g0 steps3 t14)
def B_waits_Graph_Ring (g0 : Option Addr) : M Value :=
  mBind (N_waits_Graph_Stuck g0) fun r7 =>
  unL r7 fun (x7 : Sl) =>
  mIf ((x7.n : Int) == (0 : Int)) (
    mRet (.slice none (0) (0))) (
    K_waits_Graph_Ring_4 g0 (1 : Int))
def B_waits_Graph_Ring_4 (g0 : Option Addr) (steps3 : Int) : M Value :=
  mIf (decide (steps3 ≤ (64 : Int))) (
    K_waits_Graph_Ring_7 g0 steps3 (0 : Int)) (
    mRet (.slice none (0) (0)))
def B_waits_Graph_Ring_7 (g0 : Option Addr) (steps3 : Int) (t14 : Int) : M Value :=
  mIf (decide (t14 < (64 : Int))) (
    mBind (N_waits_Graph_ring g0 t14 steps3) fun r20 =>
    unL r20 fun (x20 : Sl) =>
    mIf (!x20.p.isNone) (
      mRet (.slice x20.p x20.n x20.c)) (
      K_waits_Graph_Ring_7 g0 steps3 (IntKind.i64.wrap (t14 + (1 : Int))))) (
    K_waits_Graph_Ring_4 g0 (IntKind.i64.wrap (steps3 + (1 : Int))))
theorem E_waits_Graph_Ring (g0 : Option Addr) : ev Tryd.prog 10 Tryd.f10.results.toList C_waits_Graph_Ring D_waits_Graph_Ring 400 false [.code (bodyOf Tryd.f10)] (List.map some [.pointer g0] ++ List.replicate (Tryd.f10.ntmps - List.length ([.pointer g0] : List Value)) none) = B_waits_Graph_Ring g0 := by kernel_rfl
theorem S_waits_Graph_Ring (g0 : Option Addr) {h : Hp} {Q : Value → Hp → Prop} (hb : B_waits_Graph_Ring g0 h Q) : N_waits_Graph_Ring g0 h Q :=
  Nf.of_ev Tryd.call10 Tryd.func10 (c := bodyOf Tryd.f10) rfl mixed C_waits_Graph_Ring D_waits_Graph_Ring 400 (args := [.pointer g0]) (by rw [E_waits_Graph_Ring]; exact hb)
theorem E_waits_Graph_Ring_4 (g0 : Option Addr) (steps3 : Int) : ev Tryd.prog 10 Tryd.f10.results.toList C_waits_Graph_Ring D_waits_Graph_Ring 400 true (todoOf Tryd.f10 4) (T_waits_Graph_Ring_4 g0 steps3) = B_waits_Graph_Ring_4 g0 steps3 := by kernel_rfl
theorem S_waits_Graph_Ring_4 (g0 : Option Addr) (steps3 : Int) {h : Hp} {Q : Value → Hp → Prop} (hb : B_waits_Graph_Ring_4 g0 steps3 h Q) : K_waits_Graph_Ring_4 g0 steps3 h Q :=
  Cut.of_ev Tryd.func10 mixed C_waits_Graph_Ring D_waits_Graph_Ring 400 (by rw [E_waits_Graph_Ring_4]; exact hb)
theorem E_waits_Graph_Ring_7 (g0 : Option Addr) (steps3 : Int) (t14 : Int) : ev Tryd.prog 10 Tryd.f10.results.toList C_waits_Graph_Ring D_waits_Graph_Ring 400 true (todoOf Tryd.f10 7) (T_waits_Graph_Ring_7 g0 steps3 t14) = B_waits_Graph_Ring_7 g0 steps3 t14 := by kernel_rfl
theorem S_waits_Graph_Ring_7 (g0 : Option Addr) (steps3 : Int) (t14 : Int) {h : Hp} {Q : Value → Hp → Prop} (hb : B_waits_Graph_Ring_7 g0 steps3 t14 h Q) : K_waits_Graph_Ring_7 g0 steps3 t14 h Q :=
  Cut.of_ev Tryd.func10 mixed C_waits_Graph_Ring D_waits_Graph_Ring 400 (by rw [E_waits_Graph_Ring_7]; exact hb)
def C_signalboxref39_Graph_Ring : List (Nat × List Nat) := [(3, [0, 3, 4]), (9, [0, 5]), (12, [0, 5, 6])]
def D_signalboxref39_Graph_Ring : List (Nat × List Nat) := []
def T_signalboxref39_Graph_Ring_3 (g0 : Option Addr) (any3 : Bool) (a4 : Int) : Env := mkEnv [(0, .pointer g0), (3, .bool any3), (4, .int .i64 a4)] 39 0
def K_signalboxref39_Graph_Ring_3 (g0 : Option Addr) (any3 : Bool) (a4 : Int) : M Value := Cut Tryd.prog 11 (todoOf Tryd.f11 3) (T_signalboxref39_Graph_Ring_3 g0 any3 a4)
def T_signalboxref39_Graph_Ring_9 (g0 : Option Addr) (steps5 : Int) : Env := mkEnv [(0, .pointer g0), (5, .int .i64 steps5)] 39 0
def K_signalboxref39_Graph_Ring_9 (g0 : Option Addr) (steps5 : Int) : M Value := Cut Tryd.prog 11 (todoOf Tryd.f11 9) (T_signalboxref39_Graph_Ring_9 g0 steps5)
def T_signalboxref39_Graph_Ring_12 (g0 : Option Addr) (steps5 : Int) (a6 : Int) : Env := mkEnv [(0, .pointer g0), (5, .int .i64 steps5), (6, .int .i64 a6)] 39 0
def K_signalboxref39_Graph_Ring_12 (g0 : Option Addr) (steps5 : Int) (a6 : Int) : M Value := Cut Tryd.prog 11 (todoOf Tryd.f11 12) (T_signalboxref39_Graph_Ring_12 g0 steps5 a6)
def B_signalboxref39_Graph_Ring (g0 : Option Addr) : M Value :=
  K_signalboxref39_Graph_Ring_3 g0 false (0 : Int)
def B_signalboxref39_Graph_Ring_3 (g0 : Option Addr) (any3 : Bool) (a4 : Int) : M Value :=
  mIf (decide (a4 < (64 : Int))) (
    mBind (mIf any3 (mRet true) (mBind (N_signalboxref39_Graph_Reach g0 a4) fun r16 =>
      unA r16 fun (x16 : List Value) =>
      mGuard (x16.length = 64) <|
      mIdxA x16 a4 fun x18v =>
      unB x18v fun (x18 : Bool) =>
      mRet x18)) fun (b3 : Bool) =>
    K_signalboxref39_Graph_Ring_3 g0 b3 (IntKind.i64.wrap (a4 + (1 : Int)))) (
    mIf (!any3) (
      mRet (.slice none (0) (0))) (
      K_signalboxref39_Graph_Ring_9 g0 (1 : Int)))
def B_signalboxref39_Graph_Ring_9 (g0 : Option Addr) (steps5 : Int) : M Value :=
  mIf (decide (steps5 ≤ (64 : Int))) (
    K_signalboxref39_Graph_Ring_12 g0 steps5 (0 : Int)) (
    mRet (.slice none (0) (0)))
def B_signalboxref39_Graph_Ring_12 (g0 : Option Addr) (steps5 : Int) (a6 : Int) : M Value :=
  mIf (decide (a6 < (64 : Int))) (
    mBind (N_signalboxref39_Graph_path g0 a6 a6 a6 steps5) fun r35 =>
    unL r35 fun (x35 : Sl) =>
    mIf (!x35.p.isNone) (
      mRet (.slice x35.p x35.n x35.c)) (
      K_signalboxref39_Graph_Ring_12 g0 steps5 (IntKind.i64.wrap (a6 + (1 : Int))))) (
    K_signalboxref39_Graph_Ring_9 g0 (IntKind.i64.wrap (steps5 + (1 : Int))))
theorem E_signalboxref39_Graph_Ring (g0 : Option Addr) : ev Tryd.prog 11 Tryd.f11.results.toList C_signalboxref39_Graph_Ring D_signalboxref39_Graph_Ring 400 false [.code (bodyOf Tryd.f11)] (List.map some [.pointer g0] ++ List.replicate (Tryd.f11.ntmps - List.length ([.pointer g0] : List Value)) none) = B_signalboxref39_Graph_Ring g0 := by kernel_rfl
theorem S_signalboxref39_Graph_Ring (g0 : Option Addr) {h : Hp} {Q : Value → Hp → Prop} (hb : B_signalboxref39_Graph_Ring g0 h Q) : N_signalboxref39_Graph_Ring g0 h Q :=
  Nf.of_ev Tryd.call11 Tryd.func11 (c := bodyOf Tryd.f11) rfl mixed C_signalboxref39_Graph_Ring D_signalboxref39_Graph_Ring 400 (args := [.pointer g0]) (by rw [E_signalboxref39_Graph_Ring]; exact hb)
theorem E_signalboxref39_Graph_Ring_3 (g0 : Option Addr) (any3 : Bool) (a4 : Int) : ev Tryd.prog 11 Tryd.f11.results.toList C_signalboxref39_Graph_Ring D_signalboxref39_Graph_Ring 400 true (todoOf Tryd.f11 3) (T_signalboxref39_Graph_Ring_3 g0 any3 a4) = B_signalboxref39_Graph_Ring_3 g0 any3 a4 := by kernel_rfl
theorem S_signalboxref39_Graph_Ring_3 (g0 : Option Addr) (any3 : Bool) (a4 : Int) {h : Hp} {Q : Value → Hp → Prop} (hb : B_signalboxref39_Graph_Ring_3 g0 any3 a4 h Q) : K_signalboxref39_Graph_Ring_3 g0 any3 a4 h Q :=
  Cut.of_ev Tryd.func11 mixed C_signalboxref39_Graph_Ring D_signalboxref39_Graph_Ring 400 (by rw [E_signalboxref39_Graph_Ring_3]; exact hb)
theorem E_signalboxref39_Graph_Ring_9 (g0 : Option Addr) (steps5 : Int) : ev Tryd.prog 11 Tryd.f11.results.toList C_signalboxref39_Graph_Ring D_signalboxref39_Graph_Ring 400 true (todoOf Tryd.f11 9) (T_signalboxref39_Graph_Ring_9 g0 steps5) = B_signalboxref39_Graph_Ring_9 g0 steps5 := by kernel_rfl
theorem S_signalboxref39_Graph_Ring_9 (g0 : Option Addr) (steps5 : Int) {h : Hp} {Q : Value → Hp → Prop} (hb : B_signalboxref39_Graph_Ring_9 g0 steps5 h Q) : K_signalboxref39_Graph_Ring_9 g0 steps5 h Q :=
  Cut.of_ev Tryd.func11 mixed C_signalboxref39_Graph_Ring D_signalboxref39_Graph_Ring 400 (by rw [E_signalboxref39_Graph_Ring_9]; exact hb)
theorem E_signalboxref39_Graph_Ring_12 (g0 : Option Addr) (steps5 : Int) (a6 : Int) : ev Tryd.prog 11 Tryd.f11.results.toList C_signalboxref39_Graph_Ring D_signalboxref39_Graph_Ring 400 true (todoOf Tryd.f11 12) (T_signalboxref39_Graph_Ring_12 g0 steps5 a6) = B_signalboxref39_Graph_Ring_12 g0 steps5 a6 := by kernel_rfl
theorem S_signalboxref39_Graph_Ring_12 (g0 : Option Addr) (steps5 : Int) (a6 : Int) {h : Hp} {Q : Value → Hp → Prop} (hb : B_signalboxref39_Graph_Ring_12 g0 steps5 a6 h Q) : K_signalboxref39_Graph_Ring_12 g0 steps5 a6 h Q :=
  Cut.of_ev Tryd.func11 mixed C_signalboxref39_Graph_Ring D_signalboxref39_Graph_Ring 400 (by rw [E_signalboxref39_Graph_Ring_12]; exact hb)
def C_waits_Graph_Reach : List (Nat × List Nat) := []
def D_waits_Graph_Reach : List (Nat × List Nat) := []
def B_waits_Graph_Reach (g0 : Option Addr) (a1 : Int) : M Value :=
  mBind (mIf g0.isNone (mRet true) (mBind (N_waits_is a1) fun r9 =>
    unB r9 fun (x9 : Bool) =>
    mRet (!x9))) fun (b2 : Bool) =>
  mIf b2 (
    mRet (.slice none (0) (0))) (
    mBind (N_waits_Graph_reach g0 a1) fun r14 =>
    unI .u64 r14 fun (x14 : Int) =>
    mBind (N_waits_list x14) fun r15 =>
    unL r15 fun (x15 : Sl) =>
    mRet (.slice x15.p x15.n x15.c))
theorem E_waits_Graph_Reach (g0 : Option Addr) (a1 : Int) : ev Tryd.prog 12 Tryd.f12.results.toList C_waits_Graph_Reach D_waits_Graph_Reach 400 false [.code (bodyOf Tryd.f12)] (List.map some [.pointer g0, .int .i64 a1] ++ List.replicate (Tryd.f12.ntmps - List.length ([.pointer g0, .int .i64 a1] : List Value)) none) = B_waits_Graph_Reach g0 a1 := by kernel_rfl
theorem S_waits_Graph_Reach (g0 : Option Addr) (a1 : Int) {h : Hp} {Q : Value → Hp → Prop} (hb : B_waits_Graph_Reach g0 a1 h Q) : N_waits_Graph_Reach g0 a1 h Q :=
  Nf.of_ev Tryd.call12 Tryd.func12 (c := bodyOf Tryd.f12) rfl mixed C_waits_Graph_Reach D_waits_Graph_Reach 400 (args := [.pointer g0, .int .i64 a1]) (by rw [E_waits_Graph_Reach]; exact hb)
def C_waits_Graph_Waits : List (Nat × List Nat) := []
def D_waits_Graph_Waits : List (Nat × List Nat) := []
def B_waits_Graph_Waits (g0 : Option Addr) (a1 : Int) : M Value :=
  mBind (mIf g0.isNone (mRet true) (mBind (N_waits_is a1) fun r9 =>
    unB r9 fun (x9 : Bool) =>
    mRet (!x9))) fun (b2 : Bool) =>
  mIf b2 (
    mRet (.slice none (0) (0))) (
    mNil g0 fun (a4 : Addr) =>
    mIdx ⟨(some a4), 64, 64⟩ a1 1 fun (x16 : Addr) =>
    mLdI .u64 x16 fun (x17 : Int) =>
    mBind (N_waits_list x17) fun r18 =>
    unL r18 fun (x18 : Sl) =>
    mRet (.slice x18.p x18.n x18.c))
theorem E_waits_Graph_Waits (g0 : Option Addr) (a1 : Int) : ev Tryd.prog 13 Tryd.f13.results.toList C_waits_Graph_Waits D_waits_Graph_Waits 400 false [.code (bodyOf Tryd.f13)] (List.map some [.pointer g0, .int .i64 a1] ++ List.replicate (Tryd.f13.ntmps - List.length ([.pointer g0, .int .i64 a1] : List Value)) none) = B_waits_Graph_Waits g0 a1 := by kernel_rfl
theorem S_waits_Graph_Waits (g0 : Option Addr) (a1 : Int) {h : Hp} {Q : Value → Hp → Prop} (hb : B_waits_Graph_Waits g0 a1 h Q) : N_waits_Graph_Waits g0 a1 h Q :=
  Nf.of_ev Tryd.call13 Tryd.func13 (c := bodyOf Tryd.f13) rfl mixed C_waits_Graph_Waits D_waits_Graph_Waits 400 (args := [.pointer g0, .int .i64 a1]) (by rw [E_waits_Graph_Waits]; exact hb)
def C_waits_Graph_Order : List (Nat × List Nat) := [(7, [0, 4, 19, 20]), (14, [0, 4, 7]), (16, [0, 4, 7, 37, 38, 39])]
def D_waits_Graph_Order : List (Nat × List Nat) := []
def T_waits_Graph_Order_7 (g0 : Option Addr) (left4 : Int) (t19 : List Value) (t20 : Int) : Env := mkEnv [(0, .pointer g0), (4, .int .u64 left4), (19, .agg t19.toArray), (20, .int .i64 t20)] 62 0
def K_waits_Graph_Order_7 (g0 : Option Addr) (left4 : Int) (t19 : List Value) (t20 : Int) : M Value := Cut Tryd.prog 14 (todoOf Tryd.f14 7) (T_waits_Graph_Order_7 g0 left4 t19 t20)
def T_waits_Graph_Order_14 (g0 : Option Addr) (left4 : Int) (out7 : Sl) : Env := mkEnv [(0, .pointer g0), (4, .int .u64 left4), (7, .slice out7.p out7.n out7.c)] 62 0
def K_waits_Graph_Order_14 (g0 : Option Addr) (left4 : Int) (out7 : Sl) : M Value := Cut Tryd.prog 14 (todoOf Tryd.f14 14) (T_waits_Graph_Order_14 g0 left4 out7)
def T_waits_Graph_Order_16 (g0 : Option Addr) (left4 : Int) (out7 : Sl) (t37 : Sl) (t38 : Int) (t39 : Int) : Env := mkEnv [(0, .pointer g0), (4, .int .u64 left4), (7, .slice out7.p out7.n out7.c), (37, .slice t37.p t37.n t37.c), (38, .int .i64 t38), (39, .int .i64 t39)] 62 0
def K_waits_Graph_Order_16 (g0 : Option Addr) (left4 : Int) (out7 : Sl) (t37 : Sl) (t38 : Int) (t39 : Int) : M Value := Cut Tryd.prog 14 (todoOf Tryd.f14 16) (T_waits_Graph_Order_16 g0 left4 out7 t37 t38 t39)
def B_waits_Graph_Order (g0 : Option Addr) : M Value :=
  mIf g0.isNone (
    mRet (.tuple #[.slice none (0) (0), .bool true])) (
    mBind (N_waits_Graph_Stuck g0) fun r13 =>
    unL r13 fun (x13 : Sl) =>
    mIf (decide ((x13.n : Int) > (0 : Int))) (
      mRet (.tuple #[.slice none (0) (0), .bool false])) (
      mNil g0 fun (a3 : Addr) =>
      mLdN a3 64 fun (x19 : List Value) =>
      K_waits_Graph_Order_7 g0 (0 : Int) x19 (0 : Int)))
def B_waits_Graph_Order_7 (g0 : Option Addr) (left4 : Int) (t19 : List Value) (t20 : Int) : M Value :=
  mIf (decide (t20 < (64 : Int))) (
    mGuard (t19.length = 64) <|
    mIdxA t19 t20 fun x23v =>
    unI .u64 x23v fun (x23 : Int) =>
    mIf (x23 != (0 : Int)) (
      mBind (N_waits_bit t20) fun r31 =>
      unI .u64 r31 fun (x31 : Int) =>
      K_waits_Graph_Order_7 g0 (ior .u64 (ior .u64 left4 x23) x31) t19 (IntKind.i64.wrap (t20 + (1 : Int)))) (
      K_waits_Graph_Order_7 g0 (ior .u64 left4 x23) t19 (IntKind.i64.wrap (t20 + (1 : Int))))) (
    K_waits_Graph_Order_14 g0 left4 (Sl.mk none 0 0))
def B_waits_Graph_Order_14 (g0 : Option Addr) (left4 : Int) (out7 : Sl) : M Value :=
  mIf (left4 != (0 : Int)) (
    mBind (N_waits_list left4) fun r37 =>
    unL r37 fun (x37 : Sl) =>
    K_waits_Graph_Order_16 g0 left4 out7 x37 (x37.n : Int) (0 : Int)) (
    mRet (.tuple #[.slice out7.p out7.n out7.c, .bool true]))
def B_waits_Graph_Order_16 (g0 : Option Addr) (left4 : Int) (out7 : Sl) (t37 : Sl) (t38 : Int) (t39 : Int) : M Value :=
  mIf (decide (t39 < t38)) (
    mIdx t37 t39 1 fun (x41 : Addr) =>
    mLdI .i64 x41 fun (x42 : Int) =>
    mNil g0 fun (a12 : Addr) =>
    mIdx ⟨(some a12), 64, 64⟩ x42 1 fun (x47 : Addr) =>
    mLdI .u64 x47 fun (x48 : Int) =>
    mIf ((iand .u64 x48 left4) == (0 : Int)) (
      mNew #[.int .i64 x42] 3 fun (x54 : Addr) =>
      mApp 3 1 8 #[.int .i64 (0 : Int)] out7 ⟨(some x54), 1, 1⟩ fun (x55 : Sl) =>
      mBind (N_waits_bit x42) fun r58 =>
      unI .u64 r58 fun (x58 : Int) =>
      K_waits_Graph_Order_14 g0 (iandn .u64 left4 x58) x55) (
      K_waits_Graph_Order_16 g0 left4 out7 t37 t38 (IntKind.i64.wrap (t39 + (1 : Int))))) (
    K_waits_Graph_Order_14 g0 left4 out7)
theorem E_waits_Graph_Order (g0 : Option Addr) : ev Tryd.prog 14 Tryd.f14.results.toList C_waits_Graph_Order D_waits_Graph_Order 400 false [.code (bodyOf Tryd.f14)] (List.map some [.pointer g0] ++ List.replicate (Tryd.f14.ntmps - List.length ([.pointer g0] : List Value)) none) = B_waits_Graph_Order g0 := by kernel_rfl
theorem S_waits_Graph_Order (g0 : Option Addr) {h : Hp} {Q : Value → Hp → Prop} (hb : B_waits_Graph_Order g0 h Q) : N_waits_Graph_Order g0 h Q :=
  Nf.of_ev Tryd.call14 Tryd.func14 (c := bodyOf Tryd.f14) rfl mixed C_waits_Graph_Order D_waits_Graph_Order 400 (args := [.pointer g0]) (by rw [E_waits_Graph_Order]; exact hb)
theorem E_waits_Graph_Order_7 (g0 : Option Addr) (left4 : Int) (t19 : List Value) (t20 : Int) : ev Tryd.prog 14 Tryd.f14.results.toList C_waits_Graph_Order D_waits_Graph_Order 400 true (todoOf Tryd.f14 7) (T_waits_Graph_Order_7 g0 left4 t19 t20) = B_waits_Graph_Order_7 g0 left4 t19 t20 := by kernel_rfl
theorem S_waits_Graph_Order_7 (g0 : Option Addr) (left4 : Int) (t19 : List Value) (t20 : Int) {h : Hp} {Q : Value → Hp → Prop} (hb : B_waits_Graph_Order_7 g0 left4 t19 t20 h Q) : K_waits_Graph_Order_7 g0 left4 t19 t20 h Q :=
  Cut.of_ev Tryd.func14 mixed C_waits_Graph_Order D_waits_Graph_Order 400 (by rw [E_waits_Graph_Order_7]; exact hb)
theorem E_waits_Graph_Order_14 (g0 : Option Addr) (left4 : Int) (out7 : Sl) : ev Tryd.prog 14 Tryd.f14.results.toList C_waits_Graph_Order D_waits_Graph_Order 400 true (todoOf Tryd.f14 14) (T_waits_Graph_Order_14 g0 left4 out7) = B_waits_Graph_Order_14 g0 left4 out7 := by kernel_rfl
theorem S_waits_Graph_Order_14 (g0 : Option Addr) (left4 : Int) (out7 : Sl) {h : Hp} {Q : Value → Hp → Prop} (hb : B_waits_Graph_Order_14 g0 left4 out7 h Q) : K_waits_Graph_Order_14 g0 left4 out7 h Q :=
  Cut.of_ev Tryd.func14 mixed C_waits_Graph_Order D_waits_Graph_Order 400 (by rw [E_waits_Graph_Order_14]; exact hb)
theorem E_waits_Graph_Order_16 (g0 : Option Addr) (left4 : Int) (out7 : Sl) (t37 : Sl) (t38 : Int) (t39 : Int) : ev Tryd.prog 14 Tryd.f14.results.toList C_waits_Graph_Order D_waits_Graph_Order 400 true (todoOf Tryd.f14 16) (T_waits_Graph_Order_16 g0 left4 out7 t37 t38 t39) = B_waits_Graph_Order_16 g0 left4 out7 t37 t38 t39 := by kernel_rfl
theorem S_waits_Graph_Order_16 (g0 : Option Addr) (left4 : Int) (out7 : Sl) (t37 : Sl) (t38 : Int) (t39 : Int) {h : Hp} {Q : Value → Hp → Prop} (hb : B_waits_Graph_Order_16 g0 left4 out7 t37 t38 t39 h Q) : K_waits_Graph_Order_16 g0 left4 out7 t37 t38 t39 h Q :=
  Cut.of_ev Tryd.func14 mixed C_waits_Graph_Order D_waits_Graph_Order 400 (by rw [E_waits_Graph_Order_16]; exact hb)
def C_signalboxref39_Graph_Order : List (Nat × List Nat) := [(3, [0, 4, 5]), (8, [0, 4, 5, 6]), (12, [0, 4, 7]), (14, [0, 4, 7, 8, 9]), (18, [0, 4, 7, 8, 9, 10, 11])]
def D_signalboxref39_Graph_Order : List (Nat × List Nat) := []
def T_signalboxref39_Graph_Order_3 (g0 : Option Addr) (left4 : Addr) (a5 : Int) : Env := mkEnv [(0, .pointer g0), (4, .pointer (some left4)), (5, .int .i64 a5)] 86 0
def K_signalboxref39_Graph_Order_3 (g0 : Option Addr) (left4 : Addr) (a5 : Int) : M Value := Cut Tryd.prog 15 (todoOf Tryd.f15 3) (T_signalboxref39_Graph_Order_3 g0 left4 a5)
def T_signalboxref39_Graph_Order_8 (g0 : Option Addr) (left4 : Addr) (a5 : Int) (b6 : Int) : Env := mkEnv [(0, .pointer g0), (4, .pointer (some left4)), (5, .int .i64 a5), (6, .int .i64 b6)] 86 0
def K_signalboxref39_Graph_Order_8 (g0 : Option Addr) (left4 : Addr) (a5 : Int) (b6 : Int) : M Value := Cut Tryd.prog 15 (todoOf Tryd.f15 8) (T_signalboxref39_Graph_Order_8 g0 left4 a5 b6)
def T_signalboxref39_Graph_Order_12 (g0 : Option Addr) (left4 : Addr) (out7 : Sl) : Env := mkEnv [(0, .pointer g0), (4, .pointer (some left4)), (7, .slice out7.p out7.n out7.c)] 86 0
def K_signalboxref39_Graph_Order_12 (g0 : Option Addr) (left4 : Addr) (out7 : Sl) : M Value := Cut Tryd.prog 15 (todoOf Tryd.f15 12) (T_signalboxref39_Graph_Order_12 g0 left4 out7)
def T_signalboxref39_Graph_Order_14 (g0 : Option Addr) (left4 : Addr) (out7 : Sl) (next8 : Int) (a9 : Int) : Env := mkEnv [(0, .pointer g0), (4, .pointer (some left4)), (7, .slice out7.p out7.n out7.c), (8, .int .i64 next8), (9, .int .i64 a9)] 86 0
def K_signalboxref39_Graph_Order_14 (g0 : Option Addr) (left4 : Addr) (out7 : Sl) (next8 : Int) (a9 : Int) : M Value := Cut Tryd.prog 15 (todoOf Tryd.f15 14) (T_signalboxref39_Graph_Order_14 g0 left4 out7 next8 a9)
def T_signalboxref39_Graph_Order_18 (g0 : Option Addr) (left4 : Addr) (out7 : Sl) (next8 : Int) (a9 : Int) (free10 : Bool) (b11 : Int) : Env := mkEnv [(0, .pointer g0), (4, .pointer (some left4)), (7, .slice out7.p out7.n out7.c), (8, .int .i64 next8), (9, .int .i64 a9), (10, .bool free10), (11, .int .i64 b11)] 86 0
def K_signalboxref39_Graph_Order_18 (g0 : Option Addr) (left4 : Addr) (out7 : Sl) (next8 : Int) (a9 : Int) (free10 : Bool) (b11 : Int) : M Value := Cut Tryd.prog 15 (todoOf Tryd.f15 18) (T_signalboxref39_Graph_Order_18 g0 left4 out7 next8 a9 free10 b11)
def B_signalboxref39_Graph_Order (g0 : Option Addr) : M Value :=
  mNew #[.bool false, .bool false, .bool false, .bool false, .bool false, .bool false, .bool false, .bool false, .bool false, .bool false, .bool false, .bool false, .bool false, .bool false, .bool false, .bool false, .bool false, .bool false, .bool false, .bool false, .bool false, .bool false, .bool false, .bool false, .bool false, .bool false, .bool false, .bool false, .bool false, .bool false, .bool false, .bool false, .bool false, .bool false, .bool false, .bool false, .bool false, .bool false, .bool false, .bool false, .bool false, .bool false, .bool false, .bool false, .bool false, .bool false, .bool false, .bool false, .bool false, .bool false, .bool false, .bool false, .bool false, .bool false, .bool false, .bool false, .bool false, .bool false, .bool false, .bool false, .bool false, .bool false, .bool false, .bool false] 28 fun (x4 : Addr) =>
  K_signalboxref39_Graph_Order_3 g0 x4 (0 : Int)
def B_signalboxref39_Graph_Order_3 (g0 : Option Addr) (left4 : Addr) (a5 : Int) : M Value :=
  mIf (decide (a5 < (64 : Int))) (
    mBind (N_signalboxref39_Graph_Reach g0 a5) fun r18 =>
    unA r18 fun (x18 : List Value) =>
    mGuard (x18.length = 64) <|
    mIdxA x18 a5 fun x20v =>
    unB x20v fun (x20 : Bool) =>
    mIf x20 (
      mRet (.tuple #[.slice none (0) (0), .bool false])) (
      K_signalboxref39_Graph_Order_8 g0 left4 a5 (0 : Int))) (
    K_signalboxref39_Graph_Order_12 g0 left4 (Sl.mk none 0 0))
def B_signalboxref39_Graph_Order_8 (g0 : Option Addr) (left4 : Addr) (a5 : Int) (b6 : Int) : M Value :=
  mIf (decide (b6 < (64 : Int))) (
    mIdx ⟨(some left4), 64, 64⟩ a5 1 fun (x27 : Addr) =>
    mLdB x27 fun (x28 : Bool) =>
    mBind (mIf x28 (mRet true) (mNil g0 fun (a7 : Addr) =>
      mIdx ⟨(some a7), 64, 64⟩ a5 64 fun (x34 : Addr) =>
      mIdx ⟨(some x34), 64, 64⟩ b6 1 fun (x35 : Addr) =>
      mLdB x35 fun (x36 : Bool) =>
      mRet x36)) fun (b12 : Bool) =>
    mBind (mIf b12 (mRet true) (mNil g0 fun (a14 : Addr) =>
      mIdx ⟨(some a14), 64, 64⟩ b6 64 fun (x43 : Addr) =>
      mIdx ⟨(some x43), 64, 64⟩ a5 1 fun (x44 : Addr) =>
      mLdB x44 fun (x45 : Bool) =>
      mRet x45)) fun (b18 : Bool) =>
    mIdx ⟨(some left4), 64, 64⟩ a5 1 fun (x47 : Addr) =>
    mSt x47 (.bool b18) <|
    K_signalboxref39_Graph_Order_8 g0 left4 a5 (IntKind.i64.wrap (b6 + (1 : Int)))) (
    K_signalboxref39_Graph_Order_3 g0 left4 (IntKind.i64.wrap (a5 + (1 : Int))))
def B_signalboxref39_Graph_Order_12 (g0 : Option Addr) (left4 : Addr) (out7 : Sl) : M Value :=
  K_signalboxref39_Graph_Order_14 g0 left4 out7 (-1 : Int) (63 : Int)
def B_signalboxref39_Graph_Order_14 (g0 : Option Addr) (left4 : Addr) (out7 : Sl) (next8 : Int) (a9 : Int) : M Value :=
  mIf (decide (a9 ≥ (0 : Int))) (
    mIdx ⟨(some left4), 64, 64⟩ a9 1 fun (x53 : Addr) =>
    mLdB x53 fun (x54 : Bool) =>
    K_signalboxref39_Graph_Order_18 g0 left4 out7 next8 a9 x54 (0 : Int)) (
    mIf (decide (next8 < (0 : Int))) (
      mRet (.tuple #[.slice out7.p out7.n out7.c, .bool true])) (
      mIdx ⟨(some left4), 64, 64⟩ next8 1 fun (x81 : Addr) =>
      mSt x81 (.bool false) <|
      mNew #[.int .i64 next8] 3 fun (x84 : Addr) =>
      mApp 3 1 8 #[.int .i64 (0 : Int)] out7 ⟨(some x84), 1, 1⟩ fun (x85 : Sl) =>
      K_signalboxref39_Graph_Order_12 g0 left4 x85))
def B_signalboxref39_Graph_Order_18 (g0 : Option Addr) (left4 : Addr) (out7 : Sl) (next8 : Int) (a9 : Int) (free10 : Bool) (b11 : Int) : M Value :=
  mIf (decide (b11 < (64 : Int))) (
    mBind (mIf free10 (mNil g0 fun (a28 : Addr) =>
      mIdx ⟨(some a28), 64, 64⟩ a9 64 fun (x65 : Addr) =>
      mIdx ⟨(some x65), 64, 64⟩ b11 1 fun (x66 : Addr) =>
      mLdB x66 fun (x67 : Bool) =>
      mBind (mIf x67 (mIdx ⟨(some left4), 64, 64⟩ b11 1 fun (x70 : Addr) =>
      mLdB x70 fun (x71 : Bool) =>
      mRet x71) (mRet false)) fun (b34 : Bool) =>
      mRet (!b34)) (mRet false)) fun (b35 : Bool) =>
    K_signalboxref39_Graph_Order_18 g0 left4 out7 next8 a9 b35 (IntKind.i64.wrap (b11 + (1 : Int)))) (
    mIf free10 (
      K_signalboxref39_Graph_Order_14 g0 left4 out7 a9 (IntKind.i64.wrap (a9 - (1 : Int)))) (
      K_signalboxref39_Graph_Order_14 g0 left4 out7 next8 (IntKind.i64.wrap (a9 - (1 : Int)))))
theorem E_signalboxref39_Graph_Order (g0 : Option Addr) : ev Tryd.prog 15 Tryd.f15.results.toList C_signalboxref39_Graph_Order D_signalboxref39_Graph_Order 400 false [.code (bodyOf Tryd.f15)] (List.map some [.pointer g0] ++ List.replicate (Tryd.f15.ntmps - List.length ([.pointer g0] : List Value)) none) = B_signalboxref39_Graph_Order g0 := by kernel_rfl
theorem S_signalboxref39_Graph_Order (g0 : Option Addr) {h : Hp} {Q : Value → Hp → Prop} (hb : B_signalboxref39_Graph_Order g0 h Q) : N_signalboxref39_Graph_Order g0 h Q :=
  Nf.of_ev Tryd.call15 Tryd.func15 (c := bodyOf Tryd.f15) rfl mixed C_signalboxref39_Graph_Order D_signalboxref39_Graph_Order 400 (args := [.pointer g0]) (by rw [E_signalboxref39_Graph_Order]; exact hb)
theorem E_signalboxref39_Graph_Order_3 (g0 : Option Addr) (left4 : Addr) (a5 : Int) : ev Tryd.prog 15 Tryd.f15.results.toList C_signalboxref39_Graph_Order D_signalboxref39_Graph_Order 400 true (todoOf Tryd.f15 3) (T_signalboxref39_Graph_Order_3 g0 left4 a5) = B_signalboxref39_Graph_Order_3 g0 left4 a5 := by kernel_rfl
theorem S_signalboxref39_Graph_Order_3 (g0 : Option Addr) (left4 : Addr) (a5 : Int) {h : Hp} {Q : Value → Hp → Prop} (hb : B_signalboxref39_Graph_Order_3 g0 left4 a5 h Q) : K_signalboxref39_Graph_Order_3 g0 left4 a5 h Q :=
  Cut.of_ev Tryd.func15 mixed C_signalboxref39_Graph_Order D_signalboxref39_Graph_Order 400 (by rw [E_signalboxref39_Graph_Order_3]; exact hb)
theorem E_signalboxref39_Graph_Order_8 (g0 : Option Addr) (left4 : Addr) (a5 : Int) (b6 : Int) : ev Tryd.prog 15 Tryd.f15.results.toList C_signalboxref39_Graph_Order D_signalboxref39_Graph_Order 400 true (todoOf Tryd.f15 8) (T_signalboxref39_Graph_Order_8 g0 left4 a5 b6) = B_signalboxref39_Graph_Order_8 g0 left4 a5 b6 := by kernel_rfl
theorem S_signalboxref39_Graph_Order_8 (g0 : Option Addr) (left4 : Addr) (a5 : Int) (b6 : Int) {h : Hp} {Q : Value → Hp → Prop} (hb : B_signalboxref39_Graph_Order_8 g0 left4 a5 b6 h Q) : K_signalboxref39_Graph_Order_8 g0 left4 a5 b6 h Q :=
  Cut.of_ev Tryd.func15 mixed C_signalboxref39_Graph_Order D_signalboxref39_Graph_Order 400 (by rw [E_signalboxref39_Graph_Order_8]; exact hb)
theorem E_signalboxref39_Graph_Order_12 (g0 : Option Addr) (left4 : Addr) (out7 : Sl) : ev Tryd.prog 15 Tryd.f15.results.toList C_signalboxref39_Graph_Order D_signalboxref39_Graph_Order 400 true (todoOf Tryd.f15 12) (T_signalboxref39_Graph_Order_12 g0 left4 out7) = B_signalboxref39_Graph_Order_12 g0 left4 out7 := by kernel_rfl
theorem S_signalboxref39_Graph_Order_12 (g0 : Option Addr) (left4 : Addr) (out7 : Sl) {h : Hp} {Q : Value → Hp → Prop} (hb : B_signalboxref39_Graph_Order_12 g0 left4 out7 h Q) : K_signalboxref39_Graph_Order_12 g0 left4 out7 h Q :=
  Cut.of_ev Tryd.func15 mixed C_signalboxref39_Graph_Order D_signalboxref39_Graph_Order 400 (by rw [E_signalboxref39_Graph_Order_12]; exact hb)
theorem E_signalboxref39_Graph_Order_14 (g0 : Option Addr) (left4 : Addr) (out7 : Sl) (next8 : Int) (a9 : Int) : ev Tryd.prog 15 Tryd.f15.results.toList C_signalboxref39_Graph_Order D_signalboxref39_Graph_Order 400 true (todoOf Tryd.f15 14) (T_signalboxref39_Graph_Order_14 g0 left4 out7 next8 a9) = B_signalboxref39_Graph_Order_14 g0 left4 out7 next8 a9 := by kernel_rfl
theorem S_signalboxref39_Graph_Order_14 (g0 : Option Addr) (left4 : Addr) (out7 : Sl) (next8 : Int) (a9 : Int) {h : Hp} {Q : Value → Hp → Prop} (hb : B_signalboxref39_Graph_Order_14 g0 left4 out7 next8 a9 h Q) : K_signalboxref39_Graph_Order_14 g0 left4 out7 next8 a9 h Q :=
  Cut.of_ev Tryd.func15 mixed C_signalboxref39_Graph_Order D_signalboxref39_Graph_Order 400 (by rw [E_signalboxref39_Graph_Order_14]; exact hb)
theorem E_signalboxref39_Graph_Order_18 (g0 : Option Addr) (left4 : Addr) (out7 : Sl) (next8 : Int) (a9 : Int) (free10 : Bool) (b11 : Int) : ev Tryd.prog 15 Tryd.f15.results.toList C_signalboxref39_Graph_Order D_signalboxref39_Graph_Order 400 true (todoOf Tryd.f15 18) (T_signalboxref39_Graph_Order_18 g0 left4 out7 next8 a9 free10 b11) = B_signalboxref39_Graph_Order_18 g0 left4 out7 next8 a9 free10 b11 := by kernel_rfl
theorem S_signalboxref39_Graph_Order_18 (g0 : Option Addr) (left4 : Addr) (out7 : Sl) (next8 : Int) (a9 : Int) (free10 : Bool) (b11 : Int) {h : Hp} {Q : Value → Hp → Prop} (hb : B_signalboxref39_Graph_Order_18 g0 left4 out7 next8 a9 free10 b11 h Q) : K_signalboxref39_Graph_Order_18 g0 left4 out7 next8 a9 free10 b11 h Q :=
  Cut.of_ev Tryd.func15 mixed C_signalboxref39_Graph_Order D_signalboxref39_Graph_Order 400 (by rw [E_signalboxref39_Graph_Order_18]; exact hb)
def C_waits_New : List (Nat × List Nat) := []
def D_waits_New : List (Nat × List Nat) := []
def B_waits_New : M Value :=
  mNew #[.int .u64 (0 : Int), .int .u64 (0 : Int), .int .u64 (0 : Int), .int .u64 (0 : Int), .int .u64 (0 : Int), .int .u64 (0 : Int), .int .u64 (0 : Int), .int .u64 (0 : Int), .int .u64 (0 : Int), .int .u64 (0 : Int), .int .u64 (0 : Int), .int .u64 (0 : Int), .int .u64 (0 : Int), .int .u64 (0 : Int), .int .u64 (0 : Int), .int .u64 (0 : Int), .int .u64 (0 : Int), .int .u64 (0 : Int), .int .u64 (0 : Int), .int .u64 (0 : Int), .int .u64 (0 : Int), .int .u64 (0 : Int), .int .u64 (0 : Int), .int .u64 (0 : Int), .int .u64 (0 : Int), .int .u64 (0 : Int), .int .u64 (0 : Int), .int .u64 (0 : Int), .int .u64 (0 : Int), .int .u64 (0 : Int), .int .u64 (0 : Int), .int .u64 (0 : Int), .int .u64 (0 : Int), .int .u64 (0 : Int), .int .u64 (0 : Int), .int .u64 (0 : Int), .int .u64 (0 : Int), .int .u64 (0 : Int), .int .u64 (0 : Int), .int .u64 (0 : Int), .int .u64 (0 : Int), .int .u64 (0 : Int), .int .u64 (0 : Int), .int .u64 (0 : Int), .int .u64 (0 : Int), .int .u64 (0 : Int), .int .u64 (0 : Int), .int .u64 (0 : Int), .int .u64 (0 : Int), .int .u64 (0 : Int), .int .u64 (0 : Int), .int .u64 (0 : Int), .int .u64 (0 : Int), .int .u64 (0 : Int), .int .u64 (0 : Int), .int .u64 (0 : Int), .int .u64 (0 : Int), .int .u64 (0 : Int), .int .u64 (0 : Int), .int .u64 (0 : Int), .int .u64 (0 : Int), .int .u64 (0 : Int), .int .u64 (0 : Int), .int .u64 (0 : Int)] 53 fun (x2 : Addr) =>
  mRet (.pointer (some x2))
theorem E_waits_New : ev Tryd.prog 16 Tryd.f16.results.toList C_waits_New D_waits_New 400 false [.code (bodyOf Tryd.f16)] (List.map some [] ++ List.replicate (Tryd.f16.ntmps - List.length ([] : List Value)) none) = B_waits_New := by kernel_rfl
theorem S_waits_New {h : Hp} {Q : Value → Hp → Prop} (hb : B_waits_New h Q) : N_waits_New h Q :=
  Nf.of_ev Tryd.call16 Tryd.func16 (c := bodyOf Tryd.f16) rfl mixed C_waits_New D_waits_New 400 (args := []) (by rw [E_waits_New]; exact hb)
def C_waits_Graph_Wait : List (Nat × List Nat) := []
def D_waits_Graph_Wait : List (Nat × List Nat) := [(7, [])]
def B_waits_Graph_Wait (g0 : Option Addr) (a1 : Int) (b2 : Int) : M Value :=
  mIf g0.isNone (
    mRet (.int .i64 (1 : Int))) (
    mBind (N_waits_is a1) fun r12 =>
    unB r12 fun (x12 : Bool) =>
    mBind (mIf (!x12) (mRet true) (mBind (N_waits_is b2) fun r16 =>
      unB r16 fun (x16 : Bool) =>
      mRet (!x16))) fun (b3 : Bool) =>
    mIf b3 (
      mRet (.int .i64 (5 : Int))) (
      mNil g0 fun (a5 : Addr) =>
      mIdx ⟨(some a5), 64, 64⟩ a1 1 fun (x24 : Addr) =>
      mLdI .u64 x24 fun (x25 : Int) =>
      mQ (N_waits_bit b2) fun r27 =>
      unI .u64 r27 fun (x27 : Int) =>
      mIf ((iand .u64 x25 x27) != (0 : Int)) (
        mRet (.int .i64 (10 : Int))) (
        mNil g0 fun (a11 : Addr) =>
        mIdx ⟨(some a11), 64, 64⟩ a1 1 fun (x34 : Addr) =>
        mNil g0 fun (a15 : Addr) =>
        mAnd (
          mLdI .u64 x34 fun (x35_21 : Int) =>
          mBind (N_waits_bit b2) fun r37_22 =>
          unI .u64 r37_22 fun (x37_22 : Int) =>
          mIdx ⟨(some a15), 64, 64⟩ a1 1 fun (x41_23 : Addr) =>
          mSt x41_23 (.int .u64 (ior .u64 x35_21 x37_22)) <|
          mRet (.int .i64 (0 : Int))) (
          mBind (N_waits_bit b2) fun r37 =>
          unI .u64 r37 fun (x37 : Int) =>
          mLdI .u64 x34 fun (x35 : Int) =>
          mIdx ⟨(some a15), 64, 64⟩ a1 1 fun (x41 : Addr) =>
          mSt x41 (.int .u64 (ior .u64 x35 x37)) <|
          mRet (.int .i64 (0 : Int))))))
theorem E_waits_Graph_Wait (g0 : Option Addr) (a1 : Int) (b2 : Int) : ev Tryd.prog 17 Tryd.f17.results.toList C_waits_Graph_Wait D_waits_Graph_Wait 400 false [.code (bodyOf Tryd.f17)] (List.map some [.pointer g0, .int .i64 a1, .int .i64 b2] ++ List.replicate (Tryd.f17.ntmps - List.length ([.pointer g0, .int .i64 a1, .int .i64 b2] : List Value)) none) = B_waits_Graph_Wait g0 a1 b2 := by kernel_rfl
theorem S_waits_Graph_Wait (g0 : Option Addr) (a1 : Int) (b2 : Int) {h : Hp} {Q : Value → Hp → Prop} (hb : B_waits_Graph_Wait g0 a1 b2 h Q) : N_waits_Graph_Wait g0 a1 b2 h Q :=
  Nf.of_ev Tryd.call17 Tryd.func17 (c := bodyOf Tryd.f17) rfl mixed C_waits_Graph_Wait D_waits_Graph_Wait 400 (args := [.pointer g0, .int .i64 a1, .int .i64 b2]) (by rw [E_waits_Graph_Wait]; exact hb)
def C_waits_Graph_Stop : List (Nat × List Nat) := []
def D_waits_Graph_Stop : List (Nat × List Nat) := [(3, [])]
def B_waits_Graph_Stop (g0 : Option Addr) (a1 : Int) (b2 : Int) : M Value :=
  mBind (mIf g0.isNone (mRet true) (mQ (N_waits_is a1) fun r11 =>
    unB r11 fun (x11 : Bool) =>
    mRet (!x11))) fun (b3 : Bool) =>
  mBind (mIf b3 (mRet true) (mQ (N_waits_is b2) fun r16 =>
    unB r16 fun (x16 : Bool) =>
    mRet (!x16))) fun (b6 : Bool) =>
  mBind (mIf b6 (mRet true) (mNil g0 fun (a8 : Addr) =>
    mIdx ⟨(some a8), 64, 64⟩ a1 1 fun (x24 : Addr) =>
    mLdI .u64 x24 fun (x25 : Int) =>
    mQ (N_waits_bit b2) fun r27 =>
    unI .u64 r27 fun (x27 : Int) =>
    mRet ((iand .u64 x25 x27) == (0 : Int)))) fun (b13 : Bool) =>
  mIf b13 (
    mRet (.bool false)) (
    mNil g0 fun (a15 : Addr) =>
    mIdx ⟨(some a15), 64, 64⟩ a1 1 fun (x35 : Addr) =>
    mNil g0 fun (a19 : Addr) =>
    mAnd (
      mLdI .u64 x35 fun (x36_25 : Int) =>
      mBind (N_waits_bit b2) fun r38_26 =>
      unI .u64 r38_26 fun (x38_26 : Int) =>
      mIdx ⟨(some a19), 64, 64⟩ a1 1 fun (x42_27 : Addr) =>
      mSt x42_27 (.int .u64 (iandn .u64 x36_25 x38_26)) <|
      mRet (.bool true)) (
      mBind (N_waits_bit b2) fun r38 =>
      unI .u64 r38 fun (x38 : Int) =>
      mLdI .u64 x35 fun (x36 : Int) =>
      mIdx ⟨(some a19), 64, 64⟩ a1 1 fun (x42 : Addr) =>
      mSt x42 (.int .u64 (iandn .u64 x36 x38)) <|
      mRet (.bool true)))
theorem E_waits_Graph_Stop (g0 : Option Addr) (a1 : Int) (b2 : Int) : ev Tryd.prog 18 Tryd.f18.results.toList C_waits_Graph_Stop D_waits_Graph_Stop 400 false [.code (bodyOf Tryd.f18)] (List.map some [.pointer g0, .int .i64 a1, .int .i64 b2] ++ List.replicate (Tryd.f18.ntmps - List.length ([.pointer g0, .int .i64 a1, .int .i64 b2] : List Value)) none) = B_waits_Graph_Stop g0 a1 b2 := by kernel_rfl
theorem S_waits_Graph_Stop (g0 : Option Addr) (a1 : Int) (b2 : Int) {h : Hp} {Q : Value → Hp → Prop} (hb : B_waits_Graph_Stop g0 a1 b2 h Q) : N_waits_Graph_Stop g0 a1 b2 h Q :=
  Nf.of_ev Tryd.call18 Tryd.func18 (c := bodyOf Tryd.f18) rfl mixed C_waits_Graph_Stop D_waits_Graph_Stop 400 (args := [.pointer g0, .int .i64 a1, .int .i64 b2]) (by rw [E_waits_Graph_Stop]; exact hb)
def C_waits_Graph_reach : List (Nat × List Nat) := [(2, [0, 5])]
def D_waits_Graph_reach : List (Nat × List Nat) := []
def T_waits_Graph_reach_2 (g0 : Option Addr) (seen5 : Int) : Env := mkEnv [(0, .pointer g0), (5, .int .u64 seen5)] 23 0
def K_waits_Graph_reach_2 (g0 : Option Addr) (seen5 : Int) : M Value := Cut Tryd.prog 19 (todoOf Tryd.f19 2) (T_waits_Graph_reach_2 g0 seen5)
def B_waits_Graph_reach (g0 : Option Addr) (a1 : Int) : M Value :=
  mNil g0 fun (a2 : Addr) =>
  mIdx ⟨(some a2), 64, 64⟩ a1 1 fun (x11 : Addr) =>
  mLdI .u64 x11 fun (x12 : Int) =>
  K_waits_Graph_reach_2 g0 x12
def B_waits_Graph_reach_2 (g0 : Option Addr) (seen5 : Int) : M Value :=
  mBind (N_waits_Graph_step g0 seen5) fun r16 =>
  unI .u64 r16 fun (x16 : Int) =>
  mIf ((ior .u64 seen5 x16) == seen5) (
    mRet (.int .u64 seen5)) (
    K_waits_Graph_reach_2 g0 (ior .u64 seen5 x16))
theorem E_waits_Graph_reach (g0 : Option Addr) (a1 : Int) : ev Tryd.prog 19 Tryd.f19.results.toList C_waits_Graph_reach D_waits_Graph_reach 400 false [.code (bodyOf Tryd.f19)] (List.map some [.pointer g0, .int .i64 a1] ++ List.replicate (Tryd.f19.ntmps - List.length ([.pointer g0, .int .i64 a1] : List Value)) none) = B_waits_Graph_reach g0 a1 := by kernel_rfl
theorem S_waits_Graph_reach (g0 : Option Addr) (a1 : Int) {h : Hp} {Q : Value → Hp → Prop} (hb : B_waits_Graph_reach g0 a1 h Q) : N_waits_Graph_reach g0 a1 h Q :=
  Nf.of_ev Tryd.call19 Tryd.func19 (c := bodyOf Tryd.f19) rfl mixed C_waits_Graph_reach D_waits_Graph_reach 400 (args := [.pointer g0, .int .i64 a1]) (by rw [E_waits_Graph_reach]; exact hb)
theorem E_waits_Graph_reach_2 (g0 : Option Addr) (seen5 : Int) : ev Tryd.prog 19 Tryd.f19.results.toList C_waits_Graph_reach D_waits_Graph_reach 400 true (todoOf Tryd.f19 2) (T_waits_Graph_reach_2 g0 seen5) = B_waits_Graph_reach_2 g0 seen5 := by kernel_rfl
theorem S_waits_Graph_reach_2 (g0 : Option Addr) (seen5 : Int) {h : Hp} {Q : Value → Hp → Prop} (hb : B_waits_Graph_reach_2 g0 seen5 h Q) : K_waits_Graph_reach_2 g0 seen5 h Q :=
  Cut.of_ev Tryd.func19 mixed C_waits_Graph_reach D_waits_Graph_reach 400 (by rw [E_waits_Graph_reach_2]; exact hb)
def C_waits_bit : List (Nat × List Nat) := []
def D_waits_bit : List (Nat × List Nat) := []
def B_waits_bit (a0 : Int) : M Value :=
  mGuard (0 ≤ (IntKind.u64.wrap a0)) <|
  mRet (.int .u64 (ishl .u64 (1 : Int) (IntKind.u64.wrap a0)))
theorem E_waits_bit (a0 : Int) : ev Tryd.prog 20 Tryd.f20.results.toList C_waits_bit D_waits_bit 400 false [.code (bodyOf Tryd.f20)] (List.map some [.int .i64 a0] ++ List.replicate (Tryd.f20.ntmps - List.length ([.int .i64 a0] : List Value)) none) = B_waits_bit a0 := by kernel_rfl
theorem S_waits_bit (a0 : Int) {h : Hp} {Q : Value → Hp → Prop} (hb : B_waits_bit a0 h Q) : N_waits_bit a0 h Q :=
  Nf.of_ev Tryd.call20 Tryd.func20 (c := bodyOf Tryd.f20) rfl mixed C_waits_bit D_waits_bit 400 (args := [.int .i64 a0]) (by rw [E_waits_bit]; exact hb)
def C_waits_Graph_ring : List (Nat × List Nat) := [(6, [0, 7, 8, 9])]
def D_waits_Graph_ring : List (Nat × List Nat) := []
def T_waits_Graph_ring_6 (g0 : Option Addr) (back7 : Sl) (out8 : Sl) (left9 : Int) : Env := mkEnv [(0, .pointer g0), (7, .slice back7.p back7.n back7.c), (8, .slice out8.p out8.n out8.c), (9, .int .i64 left9)] 53 0
def K_waits_Graph_ring_6 (g0 : Option Addr) (back7 : Sl) (out8 : Sl) (left9 : Int) : M Value := Cut Tryd.prog 21 (todoOf Tryd.f21 6) (T_waits_Graph_ring_6 g0 back7 out8 left9)
def B_waits_Graph_ring (g0 : Option Addr) (a1 : Int) (steps2 : Int) : M Value :=
  mBind (N_waits_Graph_back g0 a1 steps2) fun r14 =>
  unL r14 fun (x14 : Sl) =>
  mIdx x14 steps2 1 fun (x17 : Addr) =>
  mLdI .u64 x17 fun (x18 : Int) =>
  mQ (N_waits_bit a1) fun r20 =>
  unI .u64 r20 fun (x20 : Int) =>
  mIf ((iand .u64 x18 x20) == (0 : Int)) (
    mRet (.slice none (0) (0))) (
    mNew #[.int .i64 a1] 3 fun (x24 : Addr) =>
    K_waits_Graph_ring_6 g0 x14 (Sl.mk (some x24) 1 1) (IntKind.i64.wrap (steps2 - (1 : Int))))
def B_waits_Graph_ring_6 (g0 : Option Addr) (back7 : Sl) (out8 : Sl) (left9 : Int) : M Value :=
  mIf (decide (left9 > (0 : Int))) (
    mIdx out8 (IntKind.i64.wrap ((out8.n : Int) - (1 : Int))) 1 fun (x36 : Addr) =>
    mLdI .i64 x36 fun (x37 : Int) =>
    mNil g0 fun (a9 : Addr) =>
    mIdx ⟨(some a9), 64, 64⟩ x37 1 fun (x40 : Addr) =>
    mLdI .u64 x40 fun (x41 : Int) =>
    mIdx back7 left9 1 fun (x44 : Addr) =>
    mLdI .u64 x44 fun (x45 : Int) =>
    mBind (N_math_bits_TrailingZeros64 (iand .u64 x41 x45)) fun r49 =>
    unI .i64 r49 fun (x49 : Int) =>
    mNew #[.int .i64 x49] 3 fun (x50 : Addr) =>
    mApp 3 1 8 #[.int .i64 (0 : Int)] out8 ⟨(some x50), 1, 1⟩ fun (x51 : Sl) =>
    K_waits_Graph_ring_6 g0 back7 x51 (IntKind.i64.wrap (left9 - (1 : Int)))) (
    mRet (.slice out8.p out8.n out8.c))
theorem E_waits_Graph_ring (g0 : Option Addr) (a1 : Int) (steps2 : Int) : ev Tryd.prog 21 Tryd.f21.results.toList C_waits_Graph_ring D_waits_Graph_ring 400 false [.code (bodyOf Tryd.f21)] (List.map some [.pointer g0, .int .i64 a1, .int .i64 steps2] ++ List.replicate (Tryd.f21.ntmps - List.length ([.pointer g0, .int .i64 a1, .int .i64 steps2] : List Value)) none) = B_waits_Graph_ring g0 a1 steps2 := by kernel_rfl
theorem S_waits_Graph_ring (g0 : Option Addr) (a1 : Int) (steps2 : Int) {h : Hp} {Q : Value → Hp → Prop} (hb : B_waits_Graph_ring g0 a1 steps2 h Q) : N_waits_Graph_ring g0 a1 steps2 h Q :=
  Nf.of_ev Tryd.call21 Tryd.func21 (c := bodyOf Tryd.f21) rfl mixed C_waits_Graph_ring D_waits_Graph_ring 400 (args := [.pointer g0, .int .i64 a1, .int .i64 steps2]) (by rw [E_waits_Graph_ring]; exact hb)
theorem E_waits_Graph_ring_6 (g0 : Option Addr) (back7 : Sl) (out8 : Sl) (left9 : Int) : ev Tryd.prog 21 Tryd.f21.results.toList C_waits_Graph_ring D_waits_Graph_ring 400 true (todoOf Tryd.f21 6) (T_waits_Graph_ring_6 g0 back7 out8 left9) = B_waits_Graph_ring_6 g0 back7 out8 left9 := by kernel_rfl
theorem S_waits_Graph_ring_6 (g0 : Option Addr) (back7 : Sl) (out8 : Sl) (left9 : Int) {h : Hp} {Q : Value → Hp → Prop} (hb : B_waits_Graph_ring_6 g0 back7 out8 left9 h Q) : K_waits_Graph_ring_6 g0 back7 out8 left9 h Q :=
  Cut.of_ev Tryd.func21 mixed C_waits_Graph_ring D_waits_Graph_ring 400 (by rw [E_waits_Graph_ring_6]; exact hb)
def C_signalboxref39_Graph_path : List (Nat × List Nat) := [(6, [0, 1, 2, 3, 4, 11])]
def D_signalboxref39_Graph_path : List (Nat × List Nat) := []
def T_signalboxref39_Graph_path_6 (g0 : Option Addr) (from1 : Int) (to2 : Int) (low3 : Int) (steps4 : Int) (next11 : Int) : Env := mkEnv [(0, .pointer g0), (1, .int .i64 from1), (2, .int .i64 to2), (3, .int .i64 low3), (4, .int .i64 steps4), (11, .int .i64 next11)] 50 0
def K_signalboxref39_Graph_path_6 (g0 : Option Addr) (from1 : Int) (to2 : Int) (low3 : Int) (steps4 : Int) (next11 : Int) : M Value := Cut Tryd.prog 22 (todoOf Tryd.f22 6) (T_signalboxref39_Graph_path_6 g0 from1 to2 low3 steps4 next11)
def B_signalboxref39_Graph_path (g0 : Option Addr) (from1 : Int) (to2 : Int) (low3 : Int) (steps4 : Int) : M Value :=
  mIf (steps4 == (1 : Int)) (
    mNil g0 fun (a2 : Addr) =>
    mIdx ⟨(some a2), 64, 64⟩ from1 64 fun (x19 : Addr) =>
    mIdx ⟨(some x19), 64, 64⟩ to2 1 fun (x20 : Addr) =>
    mLdB x20 fun (x21 : Bool) =>
    mIf x21 (
      mNew #[.int .i64 from1] 3 fun (x23 : Addr) =>
      mRet (.slice (some x23) (1) (1))) (
      mRet (.slice none (0) (0)))) (
    K_signalboxref39_Graph_path_6 g0 from1 to2 low3 steps4 low3)
def B_signalboxref39_Graph_path_6 (g0 : Option Addr) (from1 : Int) (to2 : Int) (low3 : Int) (steps4 : Int) (next11 : Int) : M Value :=
  mIf (decide (next11 < (64 : Int))) (
    mNil g0 fun (a8 : Addr) =>
    mIdx ⟨(some a8), 64, 64⟩ from1 64 fun (x33 : Addr) =>
    mIdx ⟨(some x33), 64, 64⟩ next11 1 fun (x34 : Addr) =>
    mLdB x34 fun (x35 : Bool) =>
    mIf (!x35) (
      K_signalboxref39_Graph_path_6 g0 from1 to2 low3 steps4 (IntKind.i64.wrap (next11 + (1 : Int)))) (
      mBind (N_signalboxref39_Graph_path g0 next11 to2 low3 (IntKind.i64.wrap (steps4 - (1 : Int)))) fun r43 =>
      unL r43 fun (x43 : Sl) =>
      mIf (!x43.p.isNone) (
        mNew #[.int .i64 from1] 3 fun (x47 : Addr) =>
        mApp 3 1 8 #[.int .i64 (0 : Int)] ⟨(some x47), 1, 1⟩ x43 fun (x49 : Sl) =>
        mRet (.slice x49.p x49.n x49.c)) (
        K_signalboxref39_Graph_path_6 g0 from1 to2 low3 steps4 (IntKind.i64.wrap (next11 + (1 : Int)))))) (
    mRet (.slice none (0) (0)))
theorem E_signalboxref39_Graph_path (g0 : Option Addr) (from1 : Int) (to2 : Int) (low3 : Int) (steps4 : Int) : ev Tryd.prog 22 Tryd.f22.results.toList C_signalboxref39_Graph_path D_signalboxref39_Graph_path 400 false [.code (bodyOf Tryd.f22)] (List.map some [.pointer g0, .int .i64 from1, .int .i64 to2, .int .i64 low3, .int .i64 steps4] ++ List.replicate (Tryd.f22.ntmps - List.length ([.pointer g0, .int .i64 from1, .int .i64 to2, .int .i64 low3, .int .i64 steps4] : List Value)) none) = B_signalboxref39_Graph_path g0 from1 to2 low3 steps4 := by kernel_rfl
theorem S_signalboxref39_Graph_path (g0 : Option Addr) (from1 : Int) (to2 : Int) (low3 : Int) (steps4 : Int) {h : Hp} {Q : Value → Hp → Prop} (hb : B_signalboxref39_Graph_path g0 from1 to2 low3 steps4 h Q) : N_signalboxref39_Graph_path g0 from1 to2 low3 steps4 h Q :=
  Nf.of_ev Tryd.call22 Tryd.func22 (c := bodyOf Tryd.f22) rfl mixed C_signalboxref39_Graph_path D_signalboxref39_Graph_path 400 (args := [.pointer g0, .int .i64 from1, .int .i64 to2, .int .i64 low3, .int .i64 steps4]) (by rw [E_signalboxref39_Graph_path]; exact hb)
theorem E_signalboxref39_Graph_path_6 (g0 : Option Addr) (from1 : Int) (to2 : Int) (low3 : Int) (steps4 : Int) (next11 : Int) : ev Tryd.prog 22 Tryd.f22.results.toList C_signalboxref39_Graph_path D_signalboxref39_Graph_path 400 true (todoOf Tryd.f22 6) (T_signalboxref39_Graph_path_6 g0 from1 to2 low3 steps4 next11) = B_signalboxref39_Graph_path_6 g0 from1 to2 low3 steps4 next11 := by kernel_rfl
theorem S_signalboxref39_Graph_path_6 (g0 : Option Addr) (from1 : Int) (to2 : Int) (low3 : Int) (steps4 : Int) (next11 : Int) {h : Hp} {Q : Value → Hp → Prop} (hb : B_signalboxref39_Graph_path_6 g0 from1 to2 low3 steps4 next11 h Q) : K_signalboxref39_Graph_path_6 g0 from1 to2 low3 steps4 next11 h Q :=
  Cut.of_ev Tryd.func22 mixed C_signalboxref39_Graph_path D_signalboxref39_Graph_path 400 (by rw [E_signalboxref39_Graph_path_6]; exact hb)
def C_waits_is : List (Nat × List Nat) := []
def D_waits_is : List (Nat × List Nat) := []
def B_waits_is (a0 : Int) : M Value :=
  mRet (.bool ((decide (a0 ≥ (0 : Int))) && (decide (a0 < (64 : Int)))))
theorem E_waits_is (a0 : Int) : ev Tryd.prog 23 Tryd.f23.results.toList C_waits_is D_waits_is 400 false [.code (bodyOf Tryd.f23)] (List.map some [.int .i64 a0] ++ List.replicate (Tryd.f23.ntmps - List.length ([.int .i64 a0] : List Value)) none) = B_waits_is a0 := by kernel_rfl
theorem S_waits_is (a0 : Int) {h : Hp} {Q : Value → Hp → Prop} (hb : B_waits_is a0 h Q) : N_waits_is a0 h Q :=
  Nf.of_ev Tryd.call23 Tryd.func23 (c := bodyOf Tryd.f23) rfl mixed C_waits_is D_waits_is 400 (args := [.int .i64 a0]) (by rw [E_waits_is]; exact hb)
def C_waits_list : List (Nat × List Nat) := [(2, [0, 3])]
def D_waits_list : List (Nat × List Nat) := []
def T_waits_list_2 (w0 : Int) (out3 : Sl) : Env := mkEnv [(0, .int .u64 w0), (3, .slice out3.p out3.n out3.c)] 16 0
def K_waits_list_2 (w0 : Int) (out3 : Sl) : M Value := Cut Tryd.prog 24 (todoOf Tryd.f24 2) (T_waits_list_2 w0 out3)
def B_waits_list (w0 : Int) : M Value :=
  K_waits_list_2 w0 (Sl.mk none 0 0)
def B_waits_list_2 (w0 : Int) (out3 : Sl) : M Value :=
  mIf (w0 != (0 : Int)) (
    mBind (N_math_bits_TrailingZeros64 w0) fun r12 =>
    unI .i64 r12 fun (x12 : Int) =>
    mNew #[.int .i64 x12] 3 fun (x13 : Addr) =>
    mApp 3 1 8 #[.int .i64 (0 : Int)] out3 ⟨(some x13), 1, 1⟩ fun (x14 : Sl) =>
    K_waits_list_2 (iand .u64 w0 (IntKind.u64.wrap (w0 - (1 : Int)))) x14) (
    mRet (.slice out3.p out3.n out3.c))
theorem E_waits_list (w0 : Int) : ev Tryd.prog 24 Tryd.f24.results.toList C_waits_list D_waits_list 400 false [.code (bodyOf Tryd.f24)] (List.map some [.int .u64 w0] ++ List.replicate (Tryd.f24.ntmps - List.length ([.int .u64 w0] : List Value)) none) = B_waits_list w0 := by kernel_rfl
theorem S_waits_list (w0 : Int) {h : Hp} {Q : Value → Hp → Prop} (hb : B_waits_list w0 h Q) : N_waits_list w0 h Q :=
  Nf.of_ev Tryd.call24 Tryd.func24 (c := bodyOf Tryd.f24) rfl mixed C_waits_list D_waits_list 400 (args := [.int .u64 w0]) (by rw [E_waits_list]; exact hb)
theorem E_waits_list_2 (w0 : Int) (out3 : Sl) : ev Tryd.prog 24 Tryd.f24.results.toList C_waits_list D_waits_list 400 true (todoOf Tryd.f24 2) (T_waits_list_2 w0 out3) = B_waits_list_2 w0 out3 := by kernel_rfl
theorem S_waits_list_2 (w0 : Int) (out3 : Sl) {h : Hp} {Q : Value → Hp → Prop} (hb : B_waits_list_2 w0 out3 h Q) : K_waits_list_2 w0 out3 h Q :=
  Cut.of_ev Tryd.func24 mixed C_waits_list D_waits_list 400 (by rw [E_waits_list_2]; exact hb)
def C_waits_Graph_step : List (Nat × List Nat) := [(3, [0, 5, 9, 10, 11])]
def D_waits_Graph_step : List (Nat × List Nat) := []
def T_waits_Graph_step_3 (g0 : Option Addr) (out5 : Int) (t9 : Sl) (t10 : Int) (t11 : Int) : Env := mkEnv [(0, .pointer g0), (5, .int .u64 out5), (9, .slice t9.p t9.n t9.c), (10, .int .i64 t10), (11, .int .i64 t11)] 25 0
def K_waits_Graph_step_3 (g0 : Option Addr) (out5 : Int) (t9 : Sl) (t10 : Int) (t11 : Int) : M Value := Cut Tryd.prog 25 (todoOf Tryd.f25 3) (T_waits_Graph_step_3 g0 out5 t9 t10 t11)
def B_waits_Graph_step (g0 : Option Addr) (w1 : Int) : M Value :=
  mBind (N_waits_list w1) fun r9 =>
  unL r9 fun (x9 : Sl) =>
  K_waits_Graph_step_3 g0 (0 : Int) x9 (x9.n : Int) (0 : Int)
def B_waits_Graph_step_3 (g0 : Option Addr) (out5 : Int) (t9 : Sl) (t10 : Int) (t11 : Int) : M Value :=
  mIf (decide (t11 < t10)) (
    mIdx t9 t11 1 fun (x13 : Addr) =>
    mLdI .i64 x13 fun (x14 : Int) =>
    mNil g0 fun (a5 : Addr) =>
    mIdx ⟨(some a5), 64, 64⟩ x14 1 fun (x20 : Addr) =>
    mLdI .u64 x20 fun (x21 : Int) =>
    K_waits_Graph_step_3 g0 (ior .u64 out5 x21) t9 t10 (IntKind.i64.wrap (t11 + (1 : Int)))) (
    mRet (.int .u64 out5))
theorem E_waits_Graph_step (g0 : Option Addr) (w1 : Int) : ev Tryd.prog 25 Tryd.f25.results.toList C_waits_Graph_step D_waits_Graph_step 400 false [.code (bodyOf Tryd.f25)] (List.map some [.pointer g0, .int .u64 w1] ++ List.replicate (Tryd.f25.ntmps - List.length ([.pointer g0, .int .u64 w1] : List Value)) none) = B_waits_Graph_step g0 w1 := by kernel_rfl
theorem S_waits_Graph_step (g0 : Option Addr) (w1 : Int) {h : Hp} {Q : Value → Hp → Prop} (hb : B_waits_Graph_step g0 w1 h Q) : N_waits_Graph_step g0 w1 h Q :=
  Nf.of_ev Tryd.call25 Tryd.func25 (c := bodyOf Tryd.f25) rfl mixed C_waits_Graph_step D_waits_Graph_step 400 (args := [.pointer g0, .int .u64 w1]) (by rw [E_waits_Graph_step]; exact hb)
theorem E_waits_Graph_step_3 (g0 : Option Addr) (out5 : Int) (t9 : Sl) (t10 : Int) (t11 : Int) : ev Tryd.prog 25 Tryd.f25.results.toList C_waits_Graph_step D_waits_Graph_step 400 true (todoOf Tryd.f25 3) (T_waits_Graph_step_3 g0 out5 t9 t10 t11) = B_waits_Graph_step_3 g0 out5 t9 t10 t11 := by kernel_rfl
theorem S_waits_Graph_step_3 (g0 : Option Addr) (out5 : Int) (t9 : Sl) (t10 : Int) (t11 : Int) {h : Hp} {Q : Value → Hp → Prop} (hb : B_waits_Graph_step_3 g0 out5 t9 t10 t11 h Q) : K_waits_Graph_step_3 g0 out5 t9 t10 t11 h Q :=
  Cut.of_ev Tryd.func25 mixed C_waits_Graph_step D_waits_Graph_step 400 (by rw [E_waits_Graph_step_3]; exact hb)
def C_waits_Graph_back : List (Nat × List Nat) := [(4, [0, 7, 8, 19, 20]), (8, [0, 7, 8, 9, 10, 19, 20, 29, 30, 31])]
def D_waits_Graph_back : List (Nat × List Nat) := []
def T_waits_Graph_back_4 (g0 : Option Addr) (may7 : Int) (out8 : Sl) (t19 : Int) (t20 : Int) : Env := mkEnv [(0, .pointer g0), (7, .int .u64 may7), (8, .slice out8.p out8.n out8.c), (19, .int .i64 t19), (20, .int .i64 t20)] 55 0
def K_waits_Graph_back_4 (g0 : Option Addr) (may7 : Int) (out8 : Sl) (t19 : Int) (t20 : Int) : M Value := Cut Tryd.prog 26 (todoOf Tryd.f26 4) (T_waits_Graph_back_4 g0 may7 out8 t19 t20)
def T_waits_Graph_back_8 (g0 : Option Addr) (may7 : Int) (out8 : Sl) (last9 : Int) (next10 : Int) (t19 : Int) (t20 : Int) (t29 : Sl) (t30 : Int) (t31 : Int) : Env := mkEnv [(0, .pointer g0), (7, .int .u64 may7), (8, .slice out8.p out8.n out8.c), (9, .int .u64 last9), (10, .int .u64 next10), (19, .int .i64 t19), (20, .int .i64 t20), (29, .slice t29.p t29.n t29.c), (30, .int .i64 t30), (31, .int .i64 t31)] 55 0
def K_waits_Graph_back_8 (g0 : Option Addr) (may7 : Int) (out8 : Sl) (last9 : Int) (next10 : Int) (t19 : Int) (t20 : Int) (t29 : Sl) (t30 : Int) (t31 : Int) : M Value := Cut Tryd.prog 26 (todoOf Tryd.f26 8) (T_waits_Graph_back_8 g0 may7 out8 last9 next10 t19 t20 t29 t30 t31)
def B_waits_Graph_back (g0 : Option Addr) (to1 : Int) (most2 : Int) : M Value :=
  mGuard (0 ≤ (IntKind.u64.wrap to1)) <|
  mBind (N_waits_bit to1) fun r17 =>
  unI .u64 r17 fun (x17 : Int) =>
  mNew #[.int .u64 x17] 45 fun (x18 : Addr) =>
  K_waits_Graph_back_4 g0 (ishl .u64 (18446744073709551615 : Int) (IntKind.u64.wrap to1)) (Sl.mk (some x18) 1 1) most2 (0 : Int)
def B_waits_Graph_back_4 (g0 : Option Addr) (may7 : Int) (out8 : Sl) (t19 : Int) (t20 : Int) : M Value :=
  mIf (decide (t20 < t19)) (
    mIdx out8 (IntKind.i64.wrap ((out8.n : Int) - (1 : Int))) 1 fun (x26 : Addr) =>
    mLdI .u64 x26 fun (x27 : Int) =>
    mBind (N_waits_list may7) fun r29 =>
    unL r29 fun (x29 : Sl) =>
    K_waits_Graph_back_8 g0 may7 out8 x27 (0 : Int) t19 t20 x29 (x29.n : Int) (0 : Int)) (
    mRet (.slice out8.p out8.n out8.c))
def B_waits_Graph_back_8 (g0 : Option Addr) (may7 : Int) (out8 : Sl) (last9 : Int) (next10 : Int) (t19 : Int) (t20 : Int) (t29 : Sl) (t30 : Int) (t31 : Int) : M Value :=
  mIf (decide (t31 < t30)) (
    mIdx t29 t31 1 fun (x33 : Addr) =>
    mLdI .i64 x33 fun (x34 : Int) =>
    mNil g0 fun (a10 : Addr) =>
    mIdx ⟨(some a10), 64, 64⟩ x34 1 fun (x39 : Addr) =>
    mLdI .u64 x39 fun (x40 : Int) =>
    mIf ((iand .u64 x40 last9) != (0 : Int)) (
      mBind (N_waits_bit x34) fun r46 =>
      unI .u64 r46 fun (x46 : Int) =>
      K_waits_Graph_back_8 g0 may7 out8 last9 (ior .u64 next10 x46) t19 t20 t29 t30 (IntKind.i64.wrap (t31 + (1 : Int)))) (
      K_waits_Graph_back_8 g0 may7 out8 last9 next10 t19 t20 t29 t30 (IntKind.i64.wrap (t31 + (1 : Int))))) (
    mNew #[.int .u64 next10] 45 fun (x51 : Addr) =>
    mApp 45 1 8 #[.int .u64 (0 : Int)] out8 ⟨(some x51), 1, 1⟩ fun (x52 : Sl) =>
    K_waits_Graph_back_4 g0 may7 x52 t19 (IntKind.i64.wrap (t20 + (1 : Int))))
theorem E_waits_Graph_back (g0 : Option Addr) (to1 : Int) (most2 : Int) : ev Tryd.prog 26 Tryd.f26.results.toList C_waits_Graph_back D_waits_Graph_back 400 false [.code (bodyOf Tryd.f26)] (List.map some [.pointer g0, .int .i64 to1, .int .i64 most2] ++ List.replicate (Tryd.f26.ntmps - List.length ([.pointer g0, .int .i64 to1, .int .i64 most2] : List Value)) none) = B_waits_Graph_back g0 to1 most2 := by kernel_rfl
theorem S_waits_Graph_back (g0 : Option Addr) (to1 : Int) (most2 : Int) {h : Hp} {Q : Value → Hp → Prop} (hb : B_waits_Graph_back g0 to1 most2 h Q) : N_waits_Graph_back g0 to1 most2 h Q :=
  Nf.of_ev Tryd.call26 Tryd.func26 (c := bodyOf Tryd.f26) rfl mixed C_waits_Graph_back D_waits_Graph_back 400 (args := [.pointer g0, .int .i64 to1, .int .i64 most2]) (by rw [E_waits_Graph_back]; exact hb)
theorem E_waits_Graph_back_4 (g0 : Option Addr) (may7 : Int) (out8 : Sl) (t19 : Int) (t20 : Int) : ev Tryd.prog 26 Tryd.f26.results.toList C_waits_Graph_back D_waits_Graph_back 400 true (todoOf Tryd.f26 4) (T_waits_Graph_back_4 g0 may7 out8 t19 t20) = B_waits_Graph_back_4 g0 may7 out8 t19 t20 := by kernel_rfl
theorem S_waits_Graph_back_4 (g0 : Option Addr) (may7 : Int) (out8 : Sl) (t19 : Int) (t20 : Int) {h : Hp} {Q : Value → Hp → Prop} (hb : B_waits_Graph_back_4 g0 may7 out8 t19 t20 h Q) : K_waits_Graph_back_4 g0 may7 out8 t19 t20 h Q :=
  Cut.of_ev Tryd.func26 mixed C_waits_Graph_back D_waits_Graph_back 400 (by rw [E_waits_Graph_back_4]; exact hb)
theorem E_waits_Graph_back_8 (g0 : Option Addr) (may7 : Int) (out8 : Sl) (last9 : Int) (next10 : Int) (t19 : Int) (t20 : Int) (t29 : Sl) (t30 : Int) (t31 : Int) : ev Tryd.prog 26 Tryd.f26.results.toList C_waits_Graph_back D_waits_Graph_back 400 true (todoOf Tryd.f26 8) (T_waits_Graph_back_8 g0 may7 out8 last9 next10 t19 t20 t29 t30 t31) = B_waits_Graph_back_8 g0 may7 out8 last9 next10 t19 t20 t29 t30 t31 := by kernel_rfl
theorem S_waits_Graph_back_8 (g0 : Option Addr) (may7 : Int) (out8 : Sl) (last9 : Int) (next10 : Int) (t19 : Int) (t20 : Int) (t29 : Sl) (t30 : Int) (t31 : Int) {h : Hp} {Q : Value → Hp → Prop} (hb : B_waits_Graph_back_8 g0 may7 out8 last9 next10 t19 t20 t29 t30 t31 h Q) : K_waits_Graph_back_8 g0 may7 out8 last9 next10 t19 t20 t29 t30 t31 h Q :=
  Cut.of_ev Tryd.func26 mixed C_waits_Graph_back D_waits_Graph_back 400 (by rw [E_waits_Graph_back_8]; exact hb)
def C_math_bits_TrailingZeros64 : List (Nat × List Nat) := []
def D_math_bits_TrailingZeros64 : List (Nat × List Nat) := []
def B_math_bits_TrailingZeros64 (x0 : Int) : M Value :=
  mIf (x0 == (0 : Int)) (
    mRet (.int .i64 (64 : Int))) (
    mGuard (0 ≤ (58 : Int)) <|
    mIdx ⟨(some (⟨0, 0, none⟩)), 64, 64⟩ (ishr .u64 (IntKind.u64.wrap ((iand .u64 x0 (IntKind.u64.wrap (0 - x0))) * (285870213051353865 : Int))) (58 : Int)) 1 fun (x11 : Addr) =>
    mLdI .u8 x11 fun (x12 : Int) =>
    mRet (.int .i64 (IntKind.i64.wrap x12)))
theorem E_math_bits_TrailingZeros64 (x0 : Int) : ev Tryd.prog 27 Tryd.f27.results.toList C_math_bits_TrailingZeros64 D_math_bits_TrailingZeros64 400 false [.code (bodyOf Tryd.f27)] (List.map some [.int .u64 x0] ++ List.replicate (Tryd.f27.ntmps - List.length ([.int .u64 x0] : List Value)) none) = B_math_bits_TrailingZeros64 x0 := by kernel_rfl
theorem S_math_bits_TrailingZeros64 (x0 : Int) {h : Hp} {Q : Value → Hp → Prop} (hb : B_math_bits_TrailingZeros64 x0 h Q) : N_math_bits_TrailingZeros64 x0 h Q :=
  Nf.of_ev Tryd.call27 Tryd.func27 (c := bodyOf Tryd.f27) rfl mixed C_math_bits_TrailingZeros64 D_math_bits_TrailingZeros64 400 (args := [.int .u64 x0]) (by rw [E_math_bits_TrailingZeros64]; exact hb)
end Go.Proofs.YtimpaammdmeocaaDoor
