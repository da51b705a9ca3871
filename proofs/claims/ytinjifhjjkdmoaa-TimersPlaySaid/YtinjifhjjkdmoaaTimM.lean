/- What the functions of this layer come to, as forms of the small logic; written by program. Conditions: none. -/
import Derived.Test.YtinjifhjjkdmoaaSbU
import Derived.Test.YtinjifhjjkdmoaaDltM
import Derived.Test.YtinjifhjjkdmoaaChecked
import Derived.KernelRfl
set_option maxRecDepth 100000
namespace Go.Proofs.Ytinjifhjjkdmoaa
open Go Go.Sb
def N_signalboxlaw47_fixed : M Value := Nf Try.prog 50 #[]
def N_timers_New : M Value := Nf Try.prog 51 #[]
def N_signalboxlaw47_place (l0 : Sl) (id1 : Int) : M Value := Nf Try.prog 52 #[.slice l0.p l0.n l0.c, .int .i64 id1]
def N_signalboxlaw47_put (l0 : Sl) (r1_0 : Int) (r1_1 : Int) (r1_2 : Int) : M Value := Nf Try.prog 53 #[.slice l0.p l0.n l0.c, .agg #[.int .i64 r1_0, .int .i64 r1_1, .int .i64 r1_2]]
def N_timers_Timers_Start (t0 : Option Addr) (id1 : Int) (ticks2 : Int) (gap3 : Int) : M Value := Nf Try.prog 54 #[.pointer t0, .int .i64 id1, .int .i64 ticks2, .int .i64 gap3]
def N_timers_Timers_Stop (t0 : Option Addr) (id1 : Int) : M Value := Nf Try.prog 55 #[.pointer t0, .int .i64 id1]
def N_signalboxlaw47_tick (l0 : Sl) (now1 : Int) : M Value := Nf Try.prog 56 #[.slice l0.p l0.n l0.c, .int .i64 now1]
def N_timers_Timers_Advance (t0 : Option Addr) (ticks1 : Int) : M Value := Nf Try.prog 57 #[.pointer t0, .int .i64 ticks1]
def N_timers_Timers_Running (t0 : Option Addr) : M Value := Nf Try.prog 58 #[.pointer t0]
def N_timers_Timers_Now (t0 : Option Addr) : M Value := Nf Try.prog 59 #[.pointer t0]
def N_timers_Timers_Left (t0 : Option Addr) (id1 : Int) : M Value := Nf Try.prog 60 #[.pointer t0, .int .i64 id1]
def N_timers_Timers_again (t0 : Option Addr) (id1 : Int) : M Value := Nf Try.prog 88 #[.pointer t0, .int .i64 id1]
def N_signalboxlaw47_TimersPlay (l0 : Sl) : M Value := Nf Try.prog 12 #[.slice l0.p l0.n l0.c]
def N_signalboxlaw47_TimersParts (l0 : Sl) (a1 : Int) (b2 : Int) : M Value := Nf Try.prog 13 #[.slice l0.p l0.n l0.c, .int .u8 a1, .int .u8 b2]
def C_signalboxlaw47_fixed : List (Nat × List Nat) := []
def D_signalboxlaw47_fixed : List (Nat × List Nat) := []
def B_signalboxlaw47_fixed : M Value :=
  mBind (N_timers_New) fun r6 =>
  unP r6 fun (x6 : Option Addr) =>
  mBind (N_timers_Timers_Start x6 (7 : Int) (2 : Int) (3 : Int)) fun r8 =>
  unI .i64 r8 fun (x8 : Int) =>
  mBind (N_timers_Timers_Advance x6 (6 : Int)) fun r10 =>
  unL r10 fun (x10 : Sl) =>
  mBind (N_timers_Timers_Left x6 (7 : Int)) fun r13 =>
  un2 (unI .i64) unB r13 fun (x13_0 : Int) (x13_1 : Bool) =>
  mBind (mIf ((x8 == (0 : Int)) && ((x10.n : Int) == (2 : Int))) (mIdx x10 (0 : Int) 2 fun (x25 : Addr) =>
    mLdI .i64 x25 fun (x26_0 : Int) =>
    mLdI .i64 (x25.add 1) fun (x26_1 : Int) =>
    mRet ((x26_0 == (7 : Int)) && ((x26_1 == (2 : Int)) && true))) (mRet false)) fun (b7 : Bool) =>
  mBind (mIf b7 (mIdx x10 (1 : Int) 2 fun (x32 : Addr) =>
    mLdI .i64 x32 fun (x33_0 : Int) =>
    mLdI .i64 (x32.add 1) fun (x33_1 : Int) =>
    mRet ((x33_0 == (7 : Int)) && ((x33_1 == (5 : Int)) && true))) (mRet false)) fun (b10 : Bool) =>
  mBind (mIf ((b10 && x13_1) && (x13_0 == (2 : Int))) (mBind (N_timers_Timers_Now x6) fun r46 =>
    unI .i64 r46 fun (x46 : Int) =>
    mRet (x46 == (6 : Int))) (mRet false)) fun (b12 : Bool) =>
  mBind (mIf b12 (mBind (N_timers_Timers_Start x6 (7 : Int) (1 : Int) (0 : Int)) fun r51 =>
    unI .i64 r51 fun (x51 : Int) =>
    mRet (x51 == (10 : Int))) (mRet false)) fun (b14 : Bool) =>
  mBind (mIf b14 (mBind (N_timers_Timers_Stop x6 (7 : Int)) fun r56 =>
    unB r56 fun (x56 : Bool) =>
    mRet x56) (mRet false)) fun (b16 : Bool) =>
  mBind (mIf b16 (mBind (N_timers_Timers_Stop x6 (7 : Int)) fun r60 =>
    unB r60 fun (x60 : Bool) =>
    mRet (!x60)) (mRet false)) fun (b18 : Bool) =>
  mBind (mIf b18 (mBind (N_timers_Timers_Start x6 (8 : Int) (0 : Int) (0 : Int)) fun r65 =>
    unI .i64 r65 fun (x65 : Int) =>
    mRet (x65 == (5 : Int))) (mRet false)) fun (b20 : Bool) =>
  mRet (.bool b20)
theorem E_signalboxlaw47_fixed : ev Try.prog 50 Try.f50.results.toList C_signalboxlaw47_fixed D_signalboxlaw47_fixed 400 false [.code (bodyOf Try.f50)] (List.map some [] ++ List.replicate (Try.f50.ntmps - List.length ([] : List Value)) none) = B_signalboxlaw47_fixed := by kernel_rfl
theorem S_signalboxlaw47_fixed {h : Hp} {Q : Value → Hp → Prop} (hb : B_signalboxlaw47_fixed h Q) : N_signalboxlaw47_fixed h Q :=
  Nf.of_ev Try.call50 Try.func50 (c := bodyOf Try.f50) rfl mixed C_signalboxlaw47_fixed D_signalboxlaw47_fixed 400 (args := []) (by rw [E_signalboxlaw47_fixed]; exact hb)
def C_timers_New : List (Nat × List Nat) := []
def D_timers_New : List (Nat × List Nat) := []
def B_timers_New : M Value :=
  mBind (N_delta_New) fun r1 =>
  unP r1 fun (x1 : Option Addr) =>
  mMapNew fun (x2 : Nat) =>
  mNew #[.pointer x1, .map (some x2), .int .i64 (0 : Int)] 136 fun (x4 : Addr) =>
  mRet (.pointer (some x4))
theorem E_timers_New : ev Try.prog 51 Try.f51.results.toList C_timers_New D_timers_New 400 false [.code (bodyOf Try.f51)] (List.map some [] ++ List.replicate (Try.f51.ntmps - List.length ([] : List Value)) none) = B_timers_New := by kernel_rfl
theorem S_timers_New {h : Hp} {Q : Value → Hp → Prop} (hb : B_timers_New h Q) : N_timers_New h Q :=
  Nf.of_ev Try.call51 Try.func51 (c := bodyOf Try.f51) rfl mixed C_timers_New D_timers_New 400 (args := []) (by rw [E_timers_New]; exact hb)
def C_signalboxlaw47_place : List (Nat × List Nat) := [(2, [1, 7, 8, 9])]
def D_signalboxlaw47_place : List (Nat × List Nat) := []
def T_signalboxlaw47_place_2 (id1 : Int) (t7 : Sl) (t8 : Int) (t9 : Int) : Env := mkEnv [(1, .int .i64 id1), (7, .slice t7.p t7.n t7.c), (8, .int .i64 t8), (9, .int .i64 t9)] 20 0
def K_signalboxlaw47_place_2 (id1 : Int) (t7 : Sl) (t8 : Int) (t9 : Int) : M Value := Cut Try.prog 52 (todoOf Try.f52 2) (T_signalboxlaw47_place_2 id1 t7 t8 t9)
def B_signalboxlaw47_place (l0 : Sl) (id1 : Int) : M Value :=
  K_signalboxlaw47_place_2 id1 l0 (l0.n : Int) (0 : Int)
def B_signalboxlaw47_place_2 (id1 : Int) (t7 : Sl) (t8 : Int) (t9 : Int) : M Value :=
  mIf (decide (t9 < t8)) (
    mIdx t7 t9 3 fun (x12 : Addr) =>
    mLdI .i64 x12 fun (x13_0 : Int) =>
    mLdI .i64 (x12.add 1) fun (x13_1 : Int) =>
    mLdI .i64 (x12.add 2) fun (x13_2 : Int) =>
    mNew #[.int .i64 (0 : Int), .int .i64 (0 : Int), .int .i64 (0 : Int)] 87 fun (x6 : Addr) =>
    mSt x6 (.int .i64 x13_0) <|
    mSt (x6.add 1) (.int .i64 x13_1) <|
    mSt (x6.add 2) (.int .i64 x13_2) <|
    mLdI .i64 x6 fun (x15 : Int) =>
    mIf (x15 == id1) (
      mRet (.int .i64 t9)) (
      K_signalboxlaw47_place_2 id1 t7 t8 (IntKind.i64.wrap (t9 + (1 : Int))))) (
    mRet (.int .i64 (-1 : Int)))
theorem E_signalboxlaw47_place (l0 : Sl) (id1 : Int) : ev Try.prog 52 Try.f52.results.toList C_signalboxlaw47_place D_signalboxlaw47_place 400 false [.code (bodyOf Try.f52)] (List.map some [.slice l0.p l0.n l0.c, .int .i64 id1] ++ List.replicate (Try.f52.ntmps - List.length ([.slice l0.p l0.n l0.c, .int .i64 id1] : List Value)) none) = B_signalboxlaw47_place l0 id1 := by kernel_rfl
theorem S_signalboxlaw47_place (l0 : Sl) (id1 : Int) {h : Hp} {Q : Value → Hp → Prop} (hb : B_signalboxlaw47_place l0 id1 h Q) : N_signalboxlaw47_place l0 id1 h Q :=
  Nf.of_ev Try.call52 Try.func52 (c := bodyOf Try.f52) rfl mixed C_signalboxlaw47_place D_signalboxlaw47_place 400 (args := [.slice l0.p l0.n l0.c, .int .i64 id1]) (by rw [E_signalboxlaw47_place]; exact hb)
theorem E_signalboxlaw47_place_2 (id1 : Int) (t7 : Sl) (t8 : Int) (t9 : Int) : ev Try.prog 52 Try.f52.results.toList C_signalboxlaw47_place D_signalboxlaw47_place 400 true (todoOf Try.f52 2) (T_signalboxlaw47_place_2 id1 t7 t8 t9) = B_signalboxlaw47_place_2 id1 t7 t8 t9 := by kernel_rfl
theorem S_signalboxlaw47_place_2 (id1 : Int) (t7 : Sl) (t8 : Int) (t9 : Int) {h : Hp} {Q : Value → Hp → Prop} (hb : B_signalboxlaw47_place_2 id1 t7 t8 t9 h Q) : K_signalboxlaw47_place_2 id1 t7 t8 t9 h Q :=
  Cut.of_ev Try.func52 mixed C_signalboxlaw47_place D_signalboxlaw47_place 400 (by rw [E_signalboxlaw47_place_2]; exact hb)
def C_signalboxlaw47_put : List (Nat × List Nat) := [(2, [0, 3, 5])]
def D_signalboxlaw47_put : List (Nat × List Nat) := [(4, [])]
def T_signalboxlaw47_put_2 (l0 : Sl) (r3 : Addr) (at5 : Int) : Env := mkEnv [(0, .slice l0.p l0.n l0.c), (3, .pointer (some r3)), (5, .int .i64 at5)] 34 0
def K_signalboxlaw47_put_2 (l0 : Sl) (r3 : Addr) (at5 : Int) : M Value := Cut Try.prog 53 (todoOf Try.f53 2) (T_signalboxlaw47_put_2 l0 r3 at5)
def B_signalboxlaw47_put (l0 : Sl) (r1_0 : Int) (r1_1 : Int) (r1_2 : Int) : M Value :=
  mNew #[.int .i64 r1_0, .int .i64 r1_1, .int .i64 r1_2] 87 fun (x3 : Addr) =>
  K_signalboxlaw47_put_2 l0 x3 (0 : Int)
def B_signalboxlaw47_put_2 (l0 : Sl) (r3 : Addr) (at5 : Int) : M Value :=
  mBind (mIf (decide (at5 < (l0.n : Int))) (mIdx l0 at5 3 fun (x13 : Addr) =>
    mLdI .i64 (x13.add 1) fun (x15 : Int) =>
    mLdI .i64 (r3.add 1) fun (x17 : Int) =>
    mRet (decide (x15 ≤ x17))) (mRet false)) fun (b7 : Bool) =>
  mIf b7 (
    K_signalboxlaw47_put_2 l0 r3 (IntKind.i64.wrap (at5 + (1 : Int)))) (
    mSlc l0 3 (0 : Int) at5 (l0.c : Int) fun (x25 : Sl) =>
    mSlc l0 3 at5 (l0.n : Int) (l0.c : Int) fun (x32 : Sl) =>
    mAnd (
      mNew #[] 87 fun (x22_25 : Addr) =>
      mAnd (
        mApp 87 3 24 #[.int .i64 (0 : Int), .int .i64 (0 : Int), .int .i64 (0 : Int)] ⟨(some x22_25), 0, 0⟩ x25 fun (x26_35 : Sl) =>
        mLdI .i64 r3 fun (x27_36_0 : Int) =>
        mLdI .i64 (r3.add 1) fun (x27_36_1 : Int) =>
        mLdI .i64 (r3.add 2) fun (x27_36_2 : Int) =>
        mNew #[.int .i64 x27_36_0, .int .i64 x27_36_1, .int .i64 x27_36_2] 87 fun (x28_37 : Addr) =>
        mApp 87 3 24 #[.int .i64 (0 : Int), .int .i64 (0 : Int), .int .i64 (0 : Int)] x26_35 ⟨(some x28_37), 1, 1⟩ fun (x29_38 : Sl) =>
        mApp 87 3 24 #[.int .i64 (0 : Int), .int .i64 (0 : Int), .int .i64 (0 : Int)] x29_38 x32 fun (x33_39 : Sl) =>
        mRet (.slice x33_39.p x33_39.n x33_39.c)) (
        mLdI .i64 r3 fun (x27_26_0 : Int) =>
        mLdI .i64 (r3.add 1) fun (x27_26_1 : Int) =>
        mLdI .i64 (r3.add 2) fun (x27_26_2 : Int) =>
        mAnd (
          mApp 87 3 24 #[.int .i64 (0 : Int), .int .i64 (0 : Int), .int .i64 (0 : Int)] ⟨(some x22_25), 0, 0⟩ x25 fun (x26_31 : Sl) =>
          mNew #[.int .i64 x27_26_0, .int .i64 x27_26_1, .int .i64 x27_26_2] 87 fun (x28_32 : Addr) =>
          mApp 87 3 24 #[.int .i64 (0 : Int), .int .i64 (0 : Int), .int .i64 (0 : Int)] x26_31 ⟨(some x28_32), 1, 1⟩ fun (x29_33 : Sl) =>
          mApp 87 3 24 #[.int .i64 (0 : Int), .int .i64 (0 : Int), .int .i64 (0 : Int)] x29_33 x32 fun (x33_34 : Sl) =>
          mRet (.slice x33_34.p x33_34.n x33_34.c)) (
          mNew #[.int .i64 x27_26_0, .int .i64 x27_26_1, .int .i64 x27_26_2] 87 fun (x28_27 : Addr) =>
          mApp 87 3 24 #[.int .i64 (0 : Int), .int .i64 (0 : Int), .int .i64 (0 : Int)] ⟨(some x22_25), 0, 0⟩ x25 fun (x26_28 : Sl) =>
          mApp 87 3 24 #[.int .i64 (0 : Int), .int .i64 (0 : Int), .int .i64 (0 : Int)] x26_28 ⟨(some x28_27), 1, 1⟩ fun (x29_29 : Sl) =>
          mApp 87 3 24 #[.int .i64 (0 : Int), .int .i64 (0 : Int), .int .i64 (0 : Int)] x29_29 x32 fun (x33_30 : Sl) =>
          mRet (.slice x33_30.p x33_30.n x33_30.c)))) (
      mLdI .i64 r3 fun (x27_0 : Int) =>
      mLdI .i64 (r3.add 1) fun (x27_1 : Int) =>
      mLdI .i64 (r3.add 2) fun (x27_2 : Int) =>
      mAnd (
        mNew #[] 87 fun (x22_16 : Addr) =>
        mAnd (
          mApp 87 3 24 #[.int .i64 (0 : Int), .int .i64 (0 : Int), .int .i64 (0 : Int)] ⟨(some x22_16), 0, 0⟩ x25 fun (x26_21 : Sl) =>
          mNew #[.int .i64 x27_0, .int .i64 x27_1, .int .i64 x27_2] 87 fun (x28_22 : Addr) =>
          mApp 87 3 24 #[.int .i64 (0 : Int), .int .i64 (0 : Int), .int .i64 (0 : Int)] x26_21 ⟨(some x28_22), 1, 1⟩ fun (x29_23 : Sl) =>
          mApp 87 3 24 #[.int .i64 (0 : Int), .int .i64 (0 : Int), .int .i64 (0 : Int)] x29_23 x32 fun (x33_24 : Sl) =>
          mRet (.slice x33_24.p x33_24.n x33_24.c)) (
          mNew #[.int .i64 x27_0, .int .i64 x27_1, .int .i64 x27_2] 87 fun (x28_17 : Addr) =>
          mApp 87 3 24 #[.int .i64 (0 : Int), .int .i64 (0 : Int), .int .i64 (0 : Int)] ⟨(some x22_16), 0, 0⟩ x25 fun (x26_18 : Sl) =>
          mApp 87 3 24 #[.int .i64 (0 : Int), .int .i64 (0 : Int), .int .i64 (0 : Int)] x26_18 ⟨(some x28_17), 1, 1⟩ fun (x29_19 : Sl) =>
          mApp 87 3 24 #[.int .i64 (0 : Int), .int .i64 (0 : Int), .int .i64 (0 : Int)] x29_19 x32 fun (x33_20 : Sl) =>
          mRet (.slice x33_20.p x33_20.n x33_20.c))) (
        mNew #[.int .i64 x27_0, .int .i64 x27_1, .int .i64 x27_2] 87 fun (x28 : Addr) =>
        mNew #[] 87 fun (x22 : Addr) =>
        mApp 87 3 24 #[.int .i64 (0 : Int), .int .i64 (0 : Int), .int .i64 (0 : Int)] ⟨(some x22), 0, 0⟩ x25 fun (x26 : Sl) =>
        mApp 87 3 24 #[.int .i64 (0 : Int), .int .i64 (0 : Int), .int .i64 (0 : Int)] x26 ⟨(some x28), 1, 1⟩ fun (x29 : Sl) =>
        mApp 87 3 24 #[.int .i64 (0 : Int), .int .i64 (0 : Int), .int .i64 (0 : Int)] x29 x32 fun (x33 : Sl) =>
        mRet (.slice x33.p x33.n x33.c))))
theorem E_signalboxlaw47_put (l0 : Sl) (r1_0 : Int) (r1_1 : Int) (r1_2 : Int) : ev Try.prog 53 Try.f53.results.toList C_signalboxlaw47_put D_signalboxlaw47_put 400 false [.code (bodyOf Try.f53)] (List.map some [.slice l0.p l0.n l0.c, .agg #[.int .i64 r1_0, .int .i64 r1_1, .int .i64 r1_2]] ++ List.replicate (Try.f53.ntmps - List.length ([.slice l0.p l0.n l0.c, .agg #[.int .i64 r1_0, .int .i64 r1_1, .int .i64 r1_2]] : List Value)) none) = B_signalboxlaw47_put l0 r1_0 r1_1 r1_2 := by kernel_rfl
theorem S_signalboxlaw47_put (l0 : Sl) (r1_0 : Int) (r1_1 : Int) (r1_2 : Int) {h : Hp} {Q : Value → Hp → Prop} (hb : B_signalboxlaw47_put l0 r1_0 r1_1 r1_2 h Q) : N_signalboxlaw47_put l0 r1_0 r1_1 r1_2 h Q :=
  Nf.of_ev Try.call53 Try.func53 (c := bodyOf Try.f53) rfl mixed C_signalboxlaw47_put D_signalboxlaw47_put 400 (args := [.slice l0.p l0.n l0.c, .agg #[.int .i64 r1_0, .int .i64 r1_1, .int .i64 r1_2]]) (by rw [E_signalboxlaw47_put]; exact hb)
theorem E_signalboxlaw47_put_2 (l0 : Sl) (r3 : Addr) (at5 : Int) : ev Try.prog 53 Try.f53.results.toList C_signalboxlaw47_put D_signalboxlaw47_put 400 true (todoOf Try.f53 2) (T_signalboxlaw47_put_2 l0 r3 at5) = B_signalboxlaw47_put_2 l0 r3 at5 := by kernel_rfl
theorem S_signalboxlaw47_put_2 (l0 : Sl) (r3 : Addr) (at5 : Int) {h : Hp} {Q : Value → Hp → Prop} (hb : B_signalboxlaw47_put_2 l0 r3 at5 h Q) : K_signalboxlaw47_put_2 l0 r3 at5 h Q :=
  Cut.of_ev Try.func53 mixed C_signalboxlaw47_put D_signalboxlaw47_put 400 (by rw [E_signalboxlaw47_put_2]; exact hb)
def C_timers_Timers_Start : List (Nat × List Nat) := []
def D_timers_Timers_Start : List (Nat × List Nat) := []
def B_timers_Timers_Start (t0 : Option Addr) (id1 : Int) (ticks2 : Int) (gap3 : Int) : M Value :=
  mIf t0.isNone (
    mRet (.int .i64 (1 : Int))) (
    mIf (((decide (ticks2 < (1 : Int))) || (decide (gap3 < (0 : Int)))) || (decide (gap3 > (16777216 : Int)))) (
      mRet (.int .i64 (5 : Int))) (
      mNil t0 fun (a2 : Addr) =>
      mLdP a2 fun (x27 : Option Addr) =>
      mBind (N_delta_List_Put x27 id1 ticks2) fun r30 =>
      unI .i64 r30 fun (x30 : Int) =>
      mIf (x30 == (0 : Int)) (
        mNil t0 fun (a7 : Addr) =>
        mLdM (a7.add 1) fun (x36 : Option Nat) =>
        mNilM x36 fun (m11 : Nat) =>
        mMapSet .i64 m11 id1 (.int .i64 gap3) <|
        mRet (.int .i64 x30)) (
        mRet (.int .i64 x30))))
theorem E_timers_Timers_Start (t0 : Option Addr) (id1 : Int) (ticks2 : Int) (gap3 : Int) : ev Try.prog 54 Try.f54.results.toList C_timers_Timers_Start D_timers_Timers_Start 400 false [.code (bodyOf Try.f54)] (List.map some [.pointer t0, .int .i64 id1, .int .i64 ticks2, .int .i64 gap3] ++ List.replicate (Try.f54.ntmps - List.length ([.pointer t0, .int .i64 id1, .int .i64 ticks2, .int .i64 gap3] : List Value)) none) = B_timers_Timers_Start t0 id1 ticks2 gap3 := by kernel_rfl
theorem S_timers_Timers_Start (t0 : Option Addr) (id1 : Int) (ticks2 : Int) (gap3 : Int) {h : Hp} {Q : Value → Hp → Prop} (hb : B_timers_Timers_Start t0 id1 ticks2 gap3 h Q) : N_timers_Timers_Start t0 id1 ticks2 gap3 h Q :=
  Nf.of_ev Try.call54 Try.func54 (c := bodyOf Try.f54) rfl mixed C_timers_Timers_Start D_timers_Timers_Start 400 (args := [.pointer t0, .int .i64 id1, .int .i64 ticks2, .int .i64 gap3]) (by rw [E_timers_Timers_Start]; exact hb)
def C_timers_Timers_Stop : List (Nat × List Nat) := []
def D_timers_Timers_Stop : List (Nat × List Nat) := []
def B_timers_Timers_Stop (t0 : Option Addr) (id1 : Int) : M Value :=
  mBind (mIf t0.isNone (mRet true) (mNil t0 fun (a2 : Addr) =>
    mLdP a2 fun (x11 : Option Addr) =>
    mBind (N_delta_List_Drop x11 id1) fun r13 =>
    unB r13 fun (x13 : Bool) =>
    mRet (!x13))) fun (b6 : Bool) =>
  mIf b6 (
    mRet (.bool false)) (
    mNil t0 fun (a8 : Addr) =>
    mLdM (a8.add 1) fun (x19 : Option Nat) =>
    mNilM x19 fun (m12 : Nat) =>
    mMapDel .i64 m12 id1 <|
    mRet (.bool true))
theorem E_timers_Timers_Stop (t0 : Option Addr) (id1 : Int) : ev Try.prog 55 Try.f55.results.toList C_timers_Timers_Stop D_timers_Timers_Stop 400 false [.code (bodyOf Try.f55)] (List.map some [.pointer t0, .int .i64 id1] ++ List.replicate (Try.f55.ntmps - List.length ([.pointer t0, .int .i64 id1] : List Value)) none) = B_timers_Timers_Stop t0 id1 := by kernel_rfl
theorem S_timers_Timers_Stop (t0 : Option Addr) (id1 : Int) {h : Hp} {Q : Value → Hp → Prop} (hb : B_timers_Timers_Stop t0 id1 h Q) : N_timers_Timers_Stop t0 id1 h Q :=
  Nf.of_ev Try.call55 Try.func55 (c := bodyOf Try.f55) rfl mixed C_timers_Timers_Stop D_timers_Timers_Stop 400 (args := [.pointer t0, .int .i64 id1]) (by rw [E_timers_Timers_Stop]; exact hb)
def C_signalboxlaw47_tick : List (Nat × List Nat) := [(3, [0, 1, 6, 7]), (9, [0, 6, 55, 56, 57])]
def D_signalboxlaw47_tick : List (Nat × List Nat) := [(6, [])]
def T_signalboxlaw47_tick_3 (l0 : Sl) (now1 : Int) (out6 : Sl) (again7 : Sl) : Env := mkEnv [(0, .slice l0.p l0.n l0.c), (1, .int .i64 now1), (6, .slice out6.p out6.n out6.c), (7, .slice again7.p again7.n again7.c)] 67 0
def K_signalboxlaw47_tick_3 (l0 : Sl) (now1 : Int) (out6 : Sl) (again7 : Sl) : M Value := Cut Try.prog 56 (todoOf Try.f56 3) (T_signalboxlaw47_tick_3 l0 now1 out6 again7)
def T_signalboxlaw47_tick_9 (l0 : Sl) (out6 : Sl) (t55 : Sl) (t56 : Int) (t57 : Int) : Env := mkEnv [(0, .slice l0.p l0.n l0.c), (6, .slice out6.p out6.n out6.c), (55, .slice t55.p t55.n t55.c), (56, .int .i64 t56), (57, .int .i64 t57)] 67 0
def K_signalboxlaw47_tick_9 (l0 : Sl) (out6 : Sl) (t55 : Sl) (t56 : Int) (t57 : Int) : M Value := Cut Try.prog 56 (todoOf Try.f56 9) (T_signalboxlaw47_tick_9 l0 out6 t55 t56 t57)
def B_signalboxlaw47_tick (l0 : Sl) (now1 : Int) : M Value :=
  K_signalboxlaw47_tick_3 l0 now1 (Sl.mk none 0 0) (Sl.mk none 0 0)
def B_signalboxlaw47_tick_3 (l0 : Sl) (now1 : Int) (out6 : Sl) (again7 : Sl) : M Value :=
  mBind (mIf (decide ((l0.n : Int) > (0 : Int))) (mIdx l0 (0 : Int) 3 fun (x15 : Addr) =>
    mLdI .i64 (x15.add 1) fun (x17 : Int) =>
    mRet (x17 == now1)) (mRet false)) fun (b4 : Bool) =>
  mIf b4 (
    mIdx l0 (0 : Int) 3 fun (x23 : Addr) =>
    mLdI .i64 x23 fun (x25 : Int) =>
    mNew #[.int .i64 x25, .int .i64 now1] 94 fun (x28 : Addr) =>
    mApp 94 2 16 #[.int .i64 (0 : Int), .int .i64 (0 : Int)] out6 ⟨(some x28), 1, 1⟩ fun (x29 : Sl) =>
    mIdx l0 (0 : Int) 3 fun (x31 : Addr) =>
    mLdI .i64 (x31.add 2) fun (x33 : Int) =>
    mIf (decide (x33 > (0 : Int))) (
      mIdx l0 (0 : Int) 3 fun (x37 : Addr) =>
      mIdx l0 (0 : Int) 3 fun (x42 : Addr) =>
      mIdx l0 (0 : Int) 3 fun (x47 : Addr) =>
      mAnd (
        mLdI .i64 x37 fun (x39_41 : Int) =>
        mAnd (
          mLdI .i64 (x42.add 2) fun (x44_47 : Int) =>
          mLdI .i64 (x47.add 2) fun (x49_48 : Int) =>
          mNew #[.int .i64 x39_41, .int .i64 (IntKind.i64.wrap (now1 + x44_47)), .int .i64 x49_48] 87 fun (x51_49 : Addr) =>
          mApp 87 3 24 #[.int .i64 (0 : Int), .int .i64 (0 : Int), .int .i64 (0 : Int)] again7 ⟨(some x51_49), 1, 1⟩ fun (x52_50 : Sl) =>
          mSlc l0 3 (1 : Int) (l0.n : Int) (l0.c : Int) fun (x54_51 : Sl) =>
          K_signalboxlaw47_tick_3 x54_51 now1 x29 x52_50) (
          mLdI .i64 (x47.add 2) fun (x49_42 : Int) =>
          mLdI .i64 (x42.add 2) fun (x44_43 : Int) =>
          mNew #[.int .i64 x39_41, .int .i64 (IntKind.i64.wrap (now1 + x44_43)), .int .i64 x49_42] 87 fun (x51_44 : Addr) =>
          mApp 87 3 24 #[.int .i64 (0 : Int), .int .i64 (0 : Int), .int .i64 (0 : Int)] again7 ⟨(some x51_44), 1, 1⟩ fun (x52_45 : Sl) =>
          mSlc l0 3 (1 : Int) (l0.n : Int) (l0.c : Int) fun (x54_46 : Sl) =>
          K_signalboxlaw47_tick_3 x54_46 now1 x29 x52_45)) (
        mAnd (
          mLdI .i64 (x42.add 2) fun (x44_30 : Int) =>
          mAnd (
            mLdI .i64 x37 fun (x39_36 : Int) =>
            mLdI .i64 (x47.add 2) fun (x49_37 : Int) =>
            mNew #[.int .i64 x39_36, .int .i64 (IntKind.i64.wrap (now1 + x44_30)), .int .i64 x49_37] 87 fun (x51_38 : Addr) =>
            mApp 87 3 24 #[.int .i64 (0 : Int), .int .i64 (0 : Int), .int .i64 (0 : Int)] again7 ⟨(some x51_38), 1, 1⟩ fun (x52_39 : Sl) =>
            mSlc l0 3 (1 : Int) (l0.n : Int) (l0.c : Int) fun (x54_40 : Sl) =>
            K_signalboxlaw47_tick_3 x54_40 now1 x29 x52_39) (
            mLdI .i64 (x47.add 2) fun (x49_31 : Int) =>
            mLdI .i64 x37 fun (x39_32 : Int) =>
            mNew #[.int .i64 x39_32, .int .i64 (IntKind.i64.wrap (now1 + x44_30)), .int .i64 x49_31] 87 fun (x51_33 : Addr) =>
            mApp 87 3 24 #[.int .i64 (0 : Int), .int .i64 (0 : Int), .int .i64 (0 : Int)] again7 ⟨(some x51_33), 1, 1⟩ fun (x52_34 : Sl) =>
            mSlc l0 3 (1 : Int) (l0.n : Int) (l0.c : Int) fun (x54_35 : Sl) =>
            K_signalboxlaw47_tick_3 x54_35 now1 x29 x52_34)) (
          mLdI .i64 (x47.add 2) fun (x49 : Int) =>
          mAnd (
            mLdI .i64 x37 fun (x39_25 : Int) =>
            mLdI .i64 (x42.add 2) fun (x44_26 : Int) =>
            mNew #[.int .i64 x39_25, .int .i64 (IntKind.i64.wrap (now1 + x44_26)), .int .i64 x49] 87 fun (x51_27 : Addr) =>
            mApp 87 3 24 #[.int .i64 (0 : Int), .int .i64 (0 : Int), .int .i64 (0 : Int)] again7 ⟨(some x51_27), 1, 1⟩ fun (x52_28 : Sl) =>
            mSlc l0 3 (1 : Int) (l0.n : Int) (l0.c : Int) fun (x54_29 : Sl) =>
            K_signalboxlaw47_tick_3 x54_29 now1 x29 x52_28) (
            mLdI .i64 (x42.add 2) fun (x44 : Int) =>
            mLdI .i64 x37 fun (x39 : Int) =>
            mNew #[.int .i64 x39, .int .i64 (IntKind.i64.wrap (now1 + x44)), .int .i64 x49] 87 fun (x51 : Addr) =>
            mApp 87 3 24 #[.int .i64 (0 : Int), .int .i64 (0 : Int), .int .i64 (0 : Int)] again7 ⟨(some x51), 1, 1⟩ fun (x52 : Sl) =>
            mSlc l0 3 (1 : Int) (l0.n : Int) (l0.c : Int) fun (x54 : Sl) =>
            K_signalboxlaw47_tick_3 x54 now1 x29 x52)))) (
      mSlc l0 3 (1 : Int) (l0.n : Int) (l0.c : Int) fun (x54_52 : Sl) =>
      K_signalboxlaw47_tick_3 x54_52 now1 x29 again7)) (
    K_signalboxlaw47_tick_9 l0 out6 again7 (again7.n : Int) (0 : Int))
def B_signalboxlaw47_tick_9 (l0 : Sl) (out6 : Sl) (t55 : Sl) (t56 : Int) (t57 : Int) : M Value :=
  mIf (decide (t57 < t56)) (
    mIdx t55 t57 3 fun (x59 : Addr) =>
    mLdI .i64 x59 fun (x60_0 : Int) =>
    mLdI .i64 (x59.add 1) fun (x60_1 : Int) =>
    mLdI .i64 (x59.add 2) fun (x60_2 : Int) =>
    mNew #[.int .i64 (0 : Int), .int .i64 (0 : Int), .int .i64 (0 : Int)] 87 fun (x9 : Addr) =>
    mSt x9 (.int .i64 x60_0) <|
    mSt (x9.add 1) (.int .i64 x60_1) <|
    mSt (x9.add 2) (.int .i64 x60_2) <|
    mLdI .i64 x9 fun (x62_0 : Int) =>
    mLdI .i64 (x9.add 1) fun (x62_1 : Int) =>
    mLdI .i64 (x9.add 2) fun (x62_2 : Int) =>
    mBind (N_signalboxlaw47_put l0 x62_0 x62_1 x62_2) fun r63 =>
    unL r63 fun (x63 : Sl) =>
    K_signalboxlaw47_tick_9 x63 out6 t55 t56 (IntKind.i64.wrap (t57 + (1 : Int)))) (
    mRet (.tuple #[.slice l0.p l0.n l0.c, .slice out6.p out6.n out6.c]))
theorem E_signalboxlaw47_tick (l0 : Sl) (now1 : Int) : ev Try.prog 56 Try.f56.results.toList C_signalboxlaw47_tick D_signalboxlaw47_tick 400 false [.code (bodyOf Try.f56)] (List.map some [.slice l0.p l0.n l0.c, .int .i64 now1] ++ List.replicate (Try.f56.ntmps - List.length ([.slice l0.p l0.n l0.c, .int .i64 now1] : List Value)) none) = B_signalboxlaw47_tick l0 now1 := by kernel_rfl
theorem S_signalboxlaw47_tick (l0 : Sl) (now1 : Int) {h : Hp} {Q : Value → Hp → Prop} (hb : B_signalboxlaw47_tick l0 now1 h Q) : N_signalboxlaw47_tick l0 now1 h Q :=
  Nf.of_ev Try.call56 Try.func56 (c := bodyOf Try.f56) rfl mixed C_signalboxlaw47_tick D_signalboxlaw47_tick 400 (args := [.slice l0.p l0.n l0.c, .int .i64 now1]) (by rw [E_signalboxlaw47_tick]; exact hb)
theorem E_signalboxlaw47_tick_3 (l0 : Sl) (now1 : Int) (out6 : Sl) (again7 : Sl) : ev Try.prog 56 Try.f56.results.toList C_signalboxlaw47_tick D_signalboxlaw47_tick 400 true (todoOf Try.f56 3) (T_signalboxlaw47_tick_3 l0 now1 out6 again7) = B_signalboxlaw47_tick_3 l0 now1 out6 again7 := by kernel_rfl
theorem S_signalboxlaw47_tick_3 (l0 : Sl) (now1 : Int) (out6 : Sl) (again7 : Sl) {h : Hp} {Q : Value → Hp → Prop} (hb : B_signalboxlaw47_tick_3 l0 now1 out6 again7 h Q) : K_signalboxlaw47_tick_3 l0 now1 out6 again7 h Q :=
  Cut.of_ev Try.func56 mixed C_signalboxlaw47_tick D_signalboxlaw47_tick 400 (by rw [E_signalboxlaw47_tick_3]; exact hb)
theorem E_signalboxlaw47_tick_9 (l0 : Sl) (out6 : Sl) (t55 : Sl) (t56 : Int) (t57 : Int) : ev Try.prog 56 Try.f56.results.toList C_signalboxlaw47_tick D_signalboxlaw47_tick 400 true (todoOf Try.f56 9) (T_signalboxlaw47_tick_9 l0 out6 t55 t56 t57) = B_signalboxlaw47_tick_9 l0 out6 t55 t56 t57 := by kernel_rfl
theorem S_signalboxlaw47_tick_9 (l0 : Sl) (out6 : Sl) (t55 : Sl) (t56 : Int) (t57 : Int) {h : Hp} {Q : Value → Hp → Prop} (hb : B_signalboxlaw47_tick_9 l0 out6 t55 t56 t57 h Q) : K_signalboxlaw47_tick_9 l0 out6 t55 t56 t57 h Q :=
  Cut.of_ev Try.func56 mixed C_signalboxlaw47_tick D_signalboxlaw47_tick 400 (by rw [E_signalboxlaw47_tick_9]; exact hb)
def C_timers_Timers_Advance : List (Nat × List Nat) := [(5, [0, 5, 6]), (14, [0, 5, 6, 65, 66, 67])]
def D_timers_Timers_Advance : List (Nat × List Nat) := []
def T_timers_Timers_Advance_5 (t0 : Option Addr) (out5 : Sl) (left6 : Int) : Env := mkEnv [(0, .pointer t0), (5, .slice out5.p out5.n out5.c), (6, .int .i64 left6)] 85 0
def K_timers_Timers_Advance_5 (t0 : Option Addr) (out5 : Sl) (left6 : Int) : M Value := Cut Try.prog 57 (todoOf Try.f57 5) (T_timers_Timers_Advance_5 t0 out5 left6)
def T_timers_Timers_Advance_14 (t0 : Option Addr) (out5 : Sl) (left6 : Int) (t65 : Sl) (t66 : Int) (t67 : Int) : Env := mkEnv [(0, .pointer t0), (5, .slice out5.p out5.n out5.c), (6, .int .i64 left6), (65, .slice t65.p t65.n t65.c), (66, .int .i64 t66), (67, .int .i64 t67)] 85 0
def K_timers_Timers_Advance_14 (t0 : Option Addr) (out5 : Sl) (left6 : Int) (t65 : Sl) (t66 : Int) (t67 : Int) : M Value := Cut Try.prog 57 (todoOf Try.f57 14) (T_timers_Timers_Advance_14 t0 out5 left6 t65 t66 t67)
def B_timers_Timers_Advance (t0 : Option Addr) (ticks1 : Int) : M Value :=
  mIf t0.isNone (
    mRet (.slice none (0) (0))) (
    K_timers_Timers_Advance_5 t0 (Sl.mk none 0 0) (if (4096 : Int) < (if (0 : Int) > ticks1 then (0 : Int) else ticks1) then (4096 : Int) else (if (0 : Int) > ticks1 then (0 : Int) else ticks1)))
def B_timers_Timers_Advance_5 (t0 : Option Addr) (out5 : Sl) (left6 : Int) : M Value :=
  mIf (decide (left6 > (0 : Int))) (
    mNil t0 fun (a2 : Addr) =>
    mLdP a2 fun (x23 : Option Addr) =>
    mBind (N_delta_List_Next x23) fun r24 =>
    un2 (unI .i64) unB r24 fun (x24_0 : Int) (x24_1 : Bool) =>
    mIf ((!x24_1) || (decide (x24_0 > left6))) (
      mNil t0 fun (a7 : Addr) =>
      mLdP a7 fun (x37 : Option Addr) =>
      mBind (N_delta_List_Advance x37 left6) fun r39 =>
      unL r39 fun (_x39 : Sl) =>
      mNil t0 fun (a12 : Addr) =>
      mLdI .i64 (a12.add 2) fun (x43 : Int) =>
      mNil t0 fun (a16 : Addr) =>
      mSt (a16.add 2) (.int .i64 (IntKind.i64.wrap (x43 + left6))) <|
      mRet (.slice out5.p out5.n out5.c)) (
      mNil t0 fun (a20 : Addr) =>
      mLdP a20 fun (x51 : Option Addr) =>
      mBind (N_delta_List_Advance x51 x24_0) fun r53 =>
      unL r53 fun (x53 : Sl) =>
      mNil t0 fun (a25 : Addr) =>
      mLdI .i64 (a25.add 2) fun (x57 : Int) =>
      mNil t0 fun (a29 : Addr) =>
      mSt (a29.add 2) (.int .i64 (IntKind.i64.wrap (x57 + x24_0))) <|
      K_timers_Timers_Advance_14 t0 out5 (IntKind.i64.wrap (left6 - x24_0)) x53 (x53.n : Int) (0 : Int))) (
    mRet (.slice out5.p out5.n out5.c))
def B_timers_Timers_Advance_14 (t0 : Option Addr) (out5 : Sl) (left6 : Int) (t65 : Sl) (t66 : Int) (t67 : Int) : M Value :=
  mIf (decide (t67 < t66)) (
    mIdx t65 t67 1 fun (x69 : Addr) =>
    mLdI .i64 x69 fun (x70 : Int) =>
    mNil t0 fun (a35 : Addr) =>
    mLdI .i64 (a35.add 2) fun (x76 : Int) =>
    mNew #[.int .i64 x70, .int .i64 x76] 94 fun (x78 : Addr) =>
    mApp 94 2 16 #[.int .i64 (0 : Int), .int .i64 (0 : Int)] out5 ⟨(some x78), 1, 1⟩ fun (x79 : Sl) =>
    mBind (N_timers_Timers_again t0 x70) fun _r82 =>
    K_timers_Timers_Advance_14 t0 x79 left6 t65 t66 (IntKind.i64.wrap (t67 + (1 : Int)))) (
    K_timers_Timers_Advance_5 t0 out5 left6)
theorem E_timers_Timers_Advance (t0 : Option Addr) (ticks1 : Int) : ev Try.prog 57 Try.f57.results.toList C_timers_Timers_Advance D_timers_Timers_Advance 400 false [.code (bodyOf Try.f57)] (List.map some [.pointer t0, .int .i64 ticks1] ++ List.replicate (Try.f57.ntmps - List.length ([.pointer t0, .int .i64 ticks1] : List Value)) none) = B_timers_Timers_Advance t0 ticks1 := by kernel_rfl
theorem S_timers_Timers_Advance (t0 : Option Addr) (ticks1 : Int) {h : Hp} {Q : Value → Hp → Prop} (hb : B_timers_Timers_Advance t0 ticks1 h Q) : N_timers_Timers_Advance t0 ticks1 h Q :=
  Nf.of_ev Try.call57 Try.func57 (c := bodyOf Try.f57) rfl mixed C_timers_Timers_Advance D_timers_Timers_Advance 400 (args := [.pointer t0, .int .i64 ticks1]) (by rw [E_timers_Timers_Advance]; exact hb)
theorem E_timers_Timers_Advance_5 (t0 : Option Addr) (out5 : Sl) (left6 : Int) : ev Try.prog 57 Try.f57.results.toList C_timers_Timers_Advance D_timers_Timers_Advance 400 true (todoOf Try.f57 5) (T_timers_Timers_Advance_5 t0 out5 left6) = B_timers_Timers_Advance_5 t0 out5 left6 := by kernel_rfl
theorem S_timers_Timers_Advance_5 (t0 : Option Addr) (out5 : Sl) (left6 : Int) {h : Hp} {Q : Value → Hp → Prop} (hb : B_timers_Timers_Advance_5 t0 out5 left6 h Q) : K_timers_Timers_Advance_5 t0 out5 left6 h Q :=
  Cut.of_ev Try.func57 mixed C_timers_Timers_Advance D_timers_Timers_Advance 400 (by rw [E_timers_Timers_Advance_5]; exact hb)
theorem E_timers_Timers_Advance_14 (t0 : Option Addr) (out5 : Sl) (left6 : Int) (t65 : Sl) (t66 : Int) (t67 : Int) : ev Try.prog 57 Try.f57.results.toList C_timers_Timers_Advance D_timers_Timers_Advance 400 true (todoOf Try.f57 14) (T_timers_Timers_Advance_14 t0 out5 left6 t65 t66 t67) = B_timers_Timers_Advance_14 t0 out5 left6 t65 t66 t67 := by kernel_rfl
theorem S_timers_Timers_Advance_14 (t0 : Option Addr) (out5 : Sl) (left6 : Int) (t65 : Sl) (t66 : Int) (t67 : Int) {h : Hp} {Q : Value → Hp → Prop} (hb : B_timers_Timers_Advance_14 t0 out5 left6 t65 t66 t67 h Q) : K_timers_Timers_Advance_14 t0 out5 left6 t65 t66 t67 h Q :=
  Cut.of_ev Try.func57 mixed C_timers_Timers_Advance D_timers_Timers_Advance 400 (by rw [E_timers_Timers_Advance_14]; exact hb)
def C_timers_Timers_Running : List (Nat × List Nat) := []
def D_timers_Timers_Running : List (Nat × List Nat) := []
def B_timers_Timers_Running (t0 : Option Addr) : M Value :=
  mIf t0.isNone (
    mRet (.slice none (0) (0))) (
    mNil t0 fun (a2 : Addr) =>
    mLdP a2 fun (x8 : Option Addr) =>
    mBind (N_delta_List_Keys x8) fun r9 =>
    unL r9 fun (x9 : Sl) =>
    mRet (.slice x9.p x9.n x9.c))
theorem E_timers_Timers_Running (t0 : Option Addr) : ev Try.prog 58 Try.f58.results.toList C_timers_Timers_Running D_timers_Timers_Running 400 false [.code (bodyOf Try.f58)] (List.map some [.pointer t0] ++ List.replicate (Try.f58.ntmps - List.length ([.pointer t0] : List Value)) none) = B_timers_Timers_Running t0 := by kernel_rfl
theorem S_timers_Timers_Running (t0 : Option Addr) {h : Hp} {Q : Value → Hp → Prop} (hb : B_timers_Timers_Running t0 h Q) : N_timers_Timers_Running t0 h Q :=
  Nf.of_ev Try.call58 Try.func58 (c := bodyOf Try.f58) rfl mixed C_timers_Timers_Running D_timers_Timers_Running 400 (args := [.pointer t0]) (by rw [E_timers_Timers_Running]; exact hb)
def C_timers_Timers_Now : List (Nat × List Nat) := []
def D_timers_Timers_Now : List (Nat × List Nat) := []
def B_timers_Timers_Now (t0 : Option Addr) : M Value :=
  mIf t0.isNone (
    mRet (.int .i64 (0 : Int))) (
    mNil t0 fun (a2 : Addr) =>
    mLdI .i64 (a2.add 2) fun (x8 : Int) =>
    mRet (.int .i64 x8))
theorem E_timers_Timers_Now (t0 : Option Addr) : ev Try.prog 59 Try.f59.results.toList C_timers_Timers_Now D_timers_Timers_Now 400 false [.code (bodyOf Try.f59)] (List.map some [.pointer t0] ++ List.replicate (Try.f59.ntmps - List.length ([.pointer t0] : List Value)) none) = B_timers_Timers_Now t0 := by kernel_rfl
theorem S_timers_Timers_Now (t0 : Option Addr) {h : Hp} {Q : Value → Hp → Prop} (hb : B_timers_Timers_Now t0 h Q) : N_timers_Timers_Now t0 h Q :=
  Nf.of_ev Try.call59 Try.func59 (c := bodyOf Try.f59) rfl mixed C_timers_Timers_Now D_timers_Timers_Now 400 (args := [.pointer t0]) (by rw [E_timers_Timers_Now]; exact hb)
def C_timers_Timers_Left : List (Nat × List Nat) := []
def D_timers_Timers_Left : List (Nat × List Nat) := []
def B_timers_Timers_Left (t0 : Option Addr) (id1 : Int) : M Value :=
  mIf t0.isNone (
    mRet (.tuple #[.int .i64 (0 : Int), .bool false])) (
    mNil t0 fun (a2 : Addr) =>
    mLdP a2 fun (x11 : Option Addr) =>
    mBind (N_delta_List_Due x11 id1) fun r13 =>
    un2 (unI .i64) unB r13 fun (x13_0 : Int) (x13_1 : Bool) =>
    mRet (.tuple #[.int .i64 x13_0, .bool x13_1]))
theorem E_timers_Timers_Left (t0 : Option Addr) (id1 : Int) : ev Try.prog 60 Try.f60.results.toList C_timers_Timers_Left D_timers_Timers_Left 400 false [.code (bodyOf Try.f60)] (List.map some [.pointer t0, .int .i64 id1] ++ List.replicate (Try.f60.ntmps - List.length ([.pointer t0, .int .i64 id1] : List Value)) none) = B_timers_Timers_Left t0 id1 := by kernel_rfl
theorem S_timers_Timers_Left (t0 : Option Addr) (id1 : Int) {h : Hp} {Q : Value → Hp → Prop} (hb : B_timers_Timers_Left t0 id1 h Q) : N_timers_Timers_Left t0 id1 h Q :=
  Nf.of_ev Try.call60 Try.func60 (c := bodyOf Try.f60) rfl mixed C_timers_Timers_Left D_timers_Timers_Left 400 (args := [.pointer t0, .int .i64 id1]) (by rw [E_timers_Timers_Left]; exact hb)
def C_timers_Timers_again : List (Nat × List Nat) := []
def D_timers_Timers_again : List (Nat × List Nat) := []
def B_timers_Timers_again (t0 : Option Addr) (id1 : Int) : M Value :=
  mNil t0 fun (a2 : Addr) =>
  mLdM (a2.add 1) fun (x8 : Option Nat) =>
  mNilM x8 fun (m6 : Nat) =>
  mMapGet .i64 m6 id1 (.int .i64 (0 : Int)) fun x10w (_x10b : Bool) =>
  unI .i64 x10w fun (x10 : Int) =>
  mIf (decide (x10 > (0 : Int))) (
    mNil t0 fun (a8 : Addr) =>
    mLdP a8 fun (x16 : Option Addr) =>
    mBind (N_delta_List_Put x16 id1 x10) fun r19 =>
    unI .i64 r19 fun (_x19 : Int) =>
    mRet (.tuple #[])) (
    mNil t0 fun (a13 : Addr) =>
    mLdM (a13.add 1) fun (x23 : Option Nat) =>
    mNilM x23 fun (m17 : Nat) =>
    mMapDel .i64 m17 id1 <|
    mRet (.tuple #[]))
theorem E_timers_Timers_again (t0 : Option Addr) (id1 : Int) : ev Try.prog 88 Try.f88.results.toList C_timers_Timers_again D_timers_Timers_again 400 false [.code (bodyOf Try.f88)] (List.map some [.pointer t0, .int .i64 id1] ++ List.replicate (Try.f88.ntmps - List.length ([.pointer t0, .int .i64 id1] : List Value)) none) = B_timers_Timers_again t0 id1 := by kernel_rfl
theorem S_timers_Timers_again (t0 : Option Addr) (id1 : Int) {h : Hp} {Q : Value → Hp → Prop} (hb : B_timers_Timers_again t0 id1 h Q) : N_timers_Timers_again t0 id1 h Q :=
  Nf.of_ev Try.call88 Try.func88 (c := bodyOf Try.f88) rfl mixed C_timers_Timers_again D_timers_Timers_again 400 (args := [.pointer t0, .int .i64 id1]) (by rw [E_timers_Timers_again]; exact hb)
def C_signalboxlaw47_TimersPlay : List (Nat × List Nat) := [(9, [3, 4, 5, 26, 27, 28]), (33, [3, 4, 5, 7, 11, 26, 27, 28, 116, 117]), (43, [3, 4, 5, 11, 13, 26, 27, 28, 141, 142]), (48, [3, 4, 5, 26, 27, 28]), (52, [3, 4, 5, 15, 26, 27, 28, 168, 169, 170])]
def D_signalboxlaw47_TimersPlay : List (Nat × List Nat) := [(26, [])]
def T_signalboxlaw47_TimersPlay_9 (t3 : Option Addr) (run4 : Sl) (now5 : Int) (t26 : Sl) (t27 : Int) (t28 : Int) : Env := mkEnv [(3, .pointer t3), (4, .slice run4.p run4.n run4.c), (5, .int .i64 now5), (26, .slice t26.p t26.n t26.c), (27, .int .i64 t27), (28, .int .i64 t28)] 203 0
def K_signalboxlaw47_TimersPlay_9 (t3 : Option Addr) (run4 : Sl) (now5 : Int) (t26 : Sl) (t27 : Int) (t28 : Int) : M Value := Cut Try.prog 12 (todoOf Try.f12 9) (T_signalboxlaw47_TimersPlay_9 t3 run4 now5 t26 t27 t28)
def T_signalboxlaw47_TimersPlay_33 (t3 : Option Addr) (run4 : Sl) (now5 : Int) (a7 : Addr) (want11 : Sl) (t26 : Sl) (t27 : Int) (t28 : Int) (t116 : Int) (t117 : Int) : Env := mkEnv [(3, .pointer t3), (4, .slice run4.p run4.n run4.c), (5, .int .i64 now5), (7, .pointer (some a7)), (11, .slice want11.p want11.n want11.c), (26, .slice t26.p t26.n t26.c), (27, .int .i64 t27), (28, .int .i64 t28), (116, .int .i64 t116), (117, .int .i64 t117)] 203 0
def K_signalboxlaw47_TimersPlay_33 (t3 : Option Addr) (run4 : Sl) (now5 : Int) (a7 : Addr) (want11 : Sl) (t26 : Sl) (t27 : Int) (t28 : Int) (t116 : Int) (t117 : Int) : M Value := Cut Try.prog 12 (todoOf Try.f12 33) (T_signalboxlaw47_TimersPlay_33 t3 run4 now5 a7 want11 t26 t27 t28 t116 t117)
def T_signalboxlaw47_TimersPlay_43 (t3 : Option Addr) (run4 : Sl) (now5 : Int) (want11 : Sl) (got13 : Sl) (t26 : Sl) (t27 : Int) (t28 : Int) (t141 : Int) (t142 : Int) : Env := mkEnv [(3, .pointer t3), (4, .slice run4.p run4.n run4.c), (5, .int .i64 now5), (11, .slice want11.p want11.n want11.c), (13, .slice got13.p got13.n got13.c), (26, .slice t26.p t26.n t26.c), (27, .int .i64 t27), (28, .int .i64 t28), (141, .int .i64 t141), (142, .int .i64 t142)] 203 0
def K_signalboxlaw47_TimersPlay_43 (t3 : Option Addr) (run4 : Sl) (now5 : Int) (want11 : Sl) (got13 : Sl) (t26 : Sl) (t27 : Int) (t28 : Int) (t141 : Int) (t142 : Int) : M Value := Cut Try.prog 12 (todoOf Try.f12 43) (T_signalboxlaw47_TimersPlay_43 t3 run4 now5 want11 got13 t26 t27 t28 t141 t142)
def T_signalboxlaw47_TimersPlay_48 (t3 : Option Addr) (run4 : Sl) (now5 : Int) (t26 : Sl) (t27 : Int) (t28 : Int) : Env := mkEnv [(3, .pointer t3), (4, .slice run4.p run4.n run4.c), (5, .int .i64 now5), (26, .slice t26.p t26.n t26.c), (27, .int .i64 t27), (28, .int .i64 t28)] 203 0
def K_signalboxlaw47_TimersPlay_48 (t3 : Option Addr) (run4 : Sl) (now5 : Int) (t26 : Sl) (t27 : Int) (t28 : Int) : M Value := Cut Try.prog 12 (todoOf Try.f12 48) (T_signalboxlaw47_TimersPlay_48 t3 run4 now5 t26 t27 t28)
def T_signalboxlaw47_TimersPlay_52 (t3 : Option Addr) (run4 : Sl) (now5 : Int) (ids15 : Sl) (t26 : Sl) (t27 : Int) (t28 : Int) (t168 : Sl) (t169 : Int) (t170 : Int) : Env := mkEnv [(3, .pointer t3), (4, .slice run4.p run4.n run4.c), (5, .int .i64 now5), (15, .slice ids15.p ids15.n ids15.c), (26, .slice t26.p t26.n t26.c), (27, .int .i64 t27), (28, .int .i64 t28), (168, .slice t168.p t168.n t168.c), (169, .int .i64 t169), (170, .int .i64 t170)] 203 0
def K_signalboxlaw47_TimersPlay_52 (t3 : Option Addr) (run4 : Sl) (now5 : Int) (ids15 : Sl) (t26 : Sl) (t27 : Int) (t28 : Int) (t168 : Sl) (t169 : Int) (t170 : Int) : M Value := Cut Try.prog 12 (todoOf Try.f12 52) (T_signalboxlaw47_TimersPlay_52 t3 run4 now5 ids15 t26 t27 t28 t168 t169 t170)
def B_signalboxlaw47_TimersPlay (l0 : Sl) : M Value :=
  mBind (N_signalboxlaw47_fixed) fun r20 =>
  unB r20 fun (x20 : Bool) =>
  mIf (!x20) (
    mRet (.bool false)) (
    mIf (decide ((l0.n : Int) > (60 : Int))) (
      mRet (.bool true)) (
      mBind (N_timers_New) fun r25 =>
      unP r25 fun (x25 : Option Addr) =>
      K_signalboxlaw47_TimersPlay_9 x25 (Sl.mk none 0 0) (0 : Int) l0 (l0.n : Int) (0 : Int)))
def B_signalboxlaw47_TimersPlay_9 (t3 : Option Addr) (run4 : Sl) (now5 : Int) (t26 : Sl) (t27 : Int) (t28 : Int) : M Value :=
  mIf (decide (t28 < t27)) (
    mIdx t26 t28 4 fun (x30 : Addr) =>
    mLdI .u8 x30 fun (x31_0 : Int) =>
    mLdI .i64 (x30.add 1) fun (x31_1 : Int) =>
    mLdI .i64 (x30.add 2) fun (x31_2 : Int) =>
    mLdI .i64 (x30.add 3) fun (x31_3 : Int) =>
    mNew #[.int .u8 (0 : Int), .int .i64 (0 : Int), .int .i64 (0 : Int), .int .i64 (0 : Int)] 83 fun (x7 : Addr) =>
    mSt x7 (.int .u8 x31_0) <|
    mSt (x7.add 1) (.int .i64 x31_1) <|
    mSt (x7.add 2) (.int .i64 x31_2) <|
    mSt (x7.add 3) (.int .i64 x31_3) <|
    mLdI .u8 x7 fun (x33 : Int) =>
    mGuard ((3 : Int) ≠ 0) <|
    mIf ((Int.tmod x33 (3 : Int)) == (0 : Int)) (
      mLdI .i64 (x7.add 2) fun (x50 : Int) =>
      mBind (mIf (decide (x50 < (1 : Int))) (mRet true) (mLdI .i64 (x7.add 2) fun (x54 : Int) =>
        mRet (decide (x54 > (16777216 : Int))))) fun (b14 : Bool) =>
      mBind (mIf b14 (mRet true) (mLdI .i64 (x7.add 3) fun (x59 : Int) =>
        mRet (decide (x59 < (0 : Int))))) fun (b17 : Bool) =>
      mBind (mIf b17 (mRet true) (mLdI .i64 (x7.add 3) fun (x64 : Int) =>
        mRet (decide (x64 > (16777216 : Int))))) fun (b20 : Bool) =>
      mIf b20 (
        mLdI .i64 (x7.add 1) fun (x75 : Int) =>
        mLdI .i64 (x7.add 2) fun (x77 : Int) =>
        mLdI .i64 (x7.add 3) fun (x79 : Int) =>
        mBind (N_timers_Timers_Start t3 x75 x77 x79) fun r80 =>
        unI .i64 r80 fun (x80 : Int) =>
        mIf (x80 != (5 : Int)) (
          mRet (.bool false)) (
          K_signalboxlaw47_TimersPlay_48 t3 run4 now5 t26 t27 t28)) (
        mLdI .i64 (x7.add 1) fun (x70 : Int) =>
        mBind (N_signalboxlaw47_place run4 x70) fun r71 =>
        unI .i64 r71 fun (x71 : Int) =>
        mIf (decide (x71 ≥ (0 : Int))) (
          mLdI .i64 (x7.add 1) fun (x75_32 : Int) =>
          mLdI .i64 (x7.add 2) fun (x77_34 : Int) =>
          mLdI .i64 (x7.add 3) fun (x79_36 : Int) =>
          mBind (N_timers_Timers_Start t3 x75_32 x77_34 x79_36) fun r80_37 =>
          unI .i64 r80_37 fun (x80_37 : Int) =>
          mIf (x80_37 != (10 : Int)) (
            mRet (.bool false)) (
            K_signalboxlaw47_TimersPlay_48 t3 run4 now5 t26 t27 t28)) (
          mLdI .i64 (x7.add 1) fun (x39 : Int) =>
          mLdI .i64 (x7.add 2) fun (x42 : Int) =>
          mLdI .i64 (x7.add 3) fun (x45 : Int) =>
          mBind (N_signalboxlaw47_put run4 x39 (IntKind.i64.wrap (now5 + x42)) x45) fun r47 =>
          unL r47 fun (x47 : Sl) =>
          mLdI .i64 (x7.add 1) fun (x75_46 : Int) =>
          mLdI .i64 (x7.add 2) fun (x77_48 : Int) =>
          mLdI .i64 (x7.add 3) fun (x79_50 : Int) =>
          mBind (N_timers_Timers_Start t3 x75_46 x77_48 x79_50) fun r80_51 =>
          unI .i64 r80_51 fun (x80_51 : Int) =>
          mIf (x80_51 != (0 : Int)) (
            mRet (.bool false)) (
            K_signalboxlaw47_TimersPlay_48 t3 x47 now5 t26 t27 t28)))) (
      mIf ((Int.tmod x33 (3 : Int)) == (1 : Int)) (
        mLdI .i64 (x7.add 1) fun (x87 : Int) =>
        mBind (N_signalboxlaw47_place run4 x87) fun r88 =>
        unI .i64 r88 fun (x88 : Int) =>
        mLdI .i64 (x7.add 1) fun (x91 : Int) =>
        mBind (N_timers_Timers_Stop t3 x91) fun r92 =>
        unB r92 fun (x92 : Bool) =>
        mIf (!(x92 == (decide (x88 ≥ (0 : Int))))) (
          mRet (.bool false)) (
          mIf (decide (x88 ≥ (0 : Int))) (
            mSlc run4 3 (0 : Int) x88 (run4.c : Int) fun (x101 : Sl) =>
            mSlc run4 3 (IntKind.i64.wrap (x88 + (1 : Int))) (run4.n : Int) (run4.c : Int) fun (x106 : Sl) =>
            mNew #[] 87 fun (x98 : Addr) =>
            mApp 87 3 24 #[.int .i64 (0 : Int), .int .i64 (0 : Int), .int .i64 (0 : Int)] ⟨(some x98), 0, 0⟩ x101 fun (x102 : Sl) =>
            mApp 87 3 24 #[.int .i64 (0 : Int), .int .i64 (0 : Int), .int .i64 (0 : Int)] x102 x106 fun (x107 : Sl) =>
            K_signalboxlaw47_TimersPlay_48 t3 x107 now5 t26 t27 t28) (
            K_signalboxlaw47_TimersPlay_48 t3 run4 now5 t26 t27 t28))) (
        mIf ((Int.tmod x33 (3 : Int)) == (2 : Int)) (
          mLdI .i64 (x7.add 2) fun (x111 : Int) =>
          mIf (decide ((if (4096 : Int) < (if (0 : Int) > x111 then (0 : Int) else x111) then (4096 : Int) else (if (0 : Int) > x111 then (0 : Int) else x111)) > (300 : Int))) (
            mRet (.bool true)) (
            K_signalboxlaw47_TimersPlay_33 t3 run4 now5 x7 (Sl.mk none 0 0) t26 t27 t28 (if (4096 : Int) < (if (0 : Int) > x111 then (0 : Int) else x111) then (4096 : Int) else (if (0 : Int) > x111 then (0 : Int) else x111)) (0 : Int))) (
          K_signalboxlaw47_TimersPlay_48 t3 run4 now5 t26 t27 t28)))) (
    mRet (.bool true))
def B_signalboxlaw47_TimersPlay_33 (t3 : Option Addr) (run4 : Sl) (now5 : Int) (a7 : Addr) (want11 : Sl) (t26 : Sl) (t27 : Int) (t28 : Int) (t116 : Int) (t117 : Int) : M Value :=
  mIf (decide (t117 < t116)) (
    mBind (N_signalboxlaw47_tick run4 (IntKind.i64.wrap (now5 + (1 : Int)))) fun r124 =>
    un2 unL unL r124 fun (x124_0 : Sl) (x124_1 : Sl) =>
    mApp 94 2 16 #[.int .i64 (0 : Int), .int .i64 (0 : Int)] want11 x124_1 fun (x129 : Sl) =>
    K_signalboxlaw47_TimersPlay_33 t3 x124_0 (IntKind.i64.wrap (now5 + (1 : Int))) a7 x129 t26 t27 t28 t116 (IntKind.i64.wrap (t117 + (1 : Int)))) (
    mLdI .i64 (a7.add 2) fun (x133 : Int) =>
    mBind (N_timers_Timers_Advance t3 x133) fun r134 =>
    unL r134 fun (x134 : Sl) =>
    mIf ((x134.n : Int) != (want11.n : Int)) (
      mRet (.bool false)) (
      K_signalboxlaw47_TimersPlay_43 t3 run4 now5 want11 x134 t26 t27 t28 (x134.n : Int) (0 : Int)))
def B_signalboxlaw47_TimersPlay_43 (t3 : Option Addr) (run4 : Sl) (now5 : Int) (want11 : Sl) (got13 : Sl) (t26 : Sl) (t27 : Int) (t28 : Int) (t141 : Int) (t142 : Int) : M Value :=
  mIf (decide (t142 < t141)) (
    mIdx got13 t142 2 fun (x147 : Addr) =>
    mLdI .i64 x147 fun (x148_0 : Int) =>
    mLdI .i64 (x147.add 1) fun (x148_1 : Int) =>
    mIdx want11 t142 2 fun (x151 : Addr) =>
    mLdI .i64 x151 fun (x152_0 : Int) =>
    mLdI .i64 (x151.add 1) fun (x152_1 : Int) =>
    mIf (!((x148_0 == x152_0) && ((x148_1 == x152_1) && true))) (
      mRet (.bool false)) (
      K_signalboxlaw47_TimersPlay_43 t3 run4 now5 want11 got13 t26 t27 t28 t141 (IntKind.i64.wrap (t142 + (1 : Int))))) (
    K_signalboxlaw47_TimersPlay_48 t3 run4 now5 t26 t27 t28)
def B_signalboxlaw47_TimersPlay_48 (t3 : Option Addr) (run4 : Sl) (now5 : Int) (t26 : Sl) (t27 : Int) (t28 : Int) : M Value :=
  mBind (N_timers_Timers_Running t3) fun r156 =>
  unL r156 fun (x156 : Sl) =>
  mBind (mIf ((x156.n : Int) != (run4.n : Int)) (mRet true) (mBind (N_timers_Timers_Now t3) fun r164 =>
    unI .i64 r164 fun (x164 : Int) =>
    mRet (x164 != now5))) fun (b67 : Bool) =>
  mIf b67 (
    mRet (.bool false)) (
    K_signalboxlaw47_TimersPlay_52 t3 run4 now5 x156 t26 t27 t28 run4 (run4.n : Int) (0 : Int))
def B_signalboxlaw47_TimersPlay_52 (t3 : Option Addr) (run4 : Sl) (now5 : Int) (ids15 : Sl) (t26 : Sl) (t27 : Int) (t28 : Int) (t168 : Sl) (t169 : Int) (t170 : Int) : M Value :=
  mIf (decide (t170 < t169)) (
    mIdx t168 t170 3 fun (x173 : Addr) =>
    mLdI .i64 x173 fun (x174_0 : Int) =>
    mLdI .i64 (x173.add 1) fun (x174_1 : Int) =>
    mLdI .i64 (x173.add 2) fun (x174_2 : Int) =>
    mNew #[.int .i64 (0 : Int), .int .i64 (0 : Int), .int .i64 (0 : Int)] 87 fun (x17 : Addr) =>
    mSt x17 (.int .i64 x174_0) <|
    mSt (x17.add 1) (.int .i64 x174_1) <|
    mSt (x17.add 2) (.int .i64 x174_2) <|
    mLdI .i64 x17 fun (x178 : Int) =>
    mBind (N_timers_Timers_Left t3 x178) fun r179 =>
    un2 (unI .i64) unB r179 fun (x179_0 : Int) (x179_1 : Bool) =>
    mIdx ids15 t170 1 fun (x184 : Addr) =>
    mLdI .i64 x184 fun (x185 : Int) =>
    mLdI .i64 x17 fun (x187 : Int) =>
    mBind (mIf ((x185 != x187) || (!x179_1)) (mRet true) (mLdI .i64 (x17.add 1) fun (x196 : Int) =>
      mRet (x179_0 != (IntKind.i64.wrap (x196 - now5))))) fun (b86 : Bool) =>
    mIf b86 (
      mRet (.bool false)) (
      K_signalboxlaw47_TimersPlay_52 t3 run4 now5 ids15 t26 t27 t28 t168 t169 (IntKind.i64.wrap (t170 + (1 : Int))))) (
    K_signalboxlaw47_TimersPlay_9 t3 run4 now5 t26 t27 (IntKind.i64.wrap (t28 + (1 : Int))))
theorem E_signalboxlaw47_TimersPlay (l0 : Sl) : ev Try.prog 12 Try.f12.results.toList C_signalboxlaw47_TimersPlay D_signalboxlaw47_TimersPlay 400 false [.code (bodyOf Try.f12)] (List.map some [.slice l0.p l0.n l0.c] ++ List.replicate (Try.f12.ntmps - List.length ([.slice l0.p l0.n l0.c] : List Value)) none) = B_signalboxlaw47_TimersPlay l0 := by kernel_rfl
theorem S_signalboxlaw47_TimersPlay (l0 : Sl) {h : Hp} {Q : Value → Hp → Prop} (hb : B_signalboxlaw47_TimersPlay l0 h Q) : N_signalboxlaw47_TimersPlay l0 h Q :=
  Nf.of_ev Try.call12 Try.func12 (c := bodyOf Try.f12) rfl mixed C_signalboxlaw47_TimersPlay D_signalboxlaw47_TimersPlay 400 (args := [.slice l0.p l0.n l0.c]) (by rw [E_signalboxlaw47_TimersPlay]; exact hb)
theorem E_signalboxlaw47_TimersPlay_9 (t3 : Option Addr) (run4 : Sl) (now5 : Int) (t26 : Sl) (t27 : Int) (t28 : Int) : ev Try.prog 12 Try.f12.results.toList C_signalboxlaw47_TimersPlay D_signalboxlaw47_TimersPlay 400 true (todoOf Try.f12 9) (T_signalboxlaw47_TimersPlay_9 t3 run4 now5 t26 t27 t28) = B_signalboxlaw47_TimersPlay_9 t3 run4 now5 t26 t27 t28 := by kernel_rfl
theorem S_signalboxlaw47_TimersPlay_9 (t3 : Option Addr) (run4 : Sl) (now5 : Int) (t26 : Sl) (t27 : Int) (t28 : Int) {h : Hp} {Q : Value → Hp → Prop} (hb : B_signalboxlaw47_TimersPlay_9 t3 run4 now5 t26 t27 t28 h Q) : K_signalboxlaw47_TimersPlay_9 t3 run4 now5 t26 t27 t28 h Q :=
  Cut.of_ev Try.func12 mixed C_signalboxlaw47_TimersPlay D_signalboxlaw47_TimersPlay 400 (by rw [E_signalboxlaw47_TimersPlay_9]; exact hb)
theorem E_signalboxlaw47_TimersPlay_33 (t3 : Option Addr) (run4 : Sl) (now5 : Int) (a7 : Addr) (want11 : Sl) (t26 : Sl) (t27 : Int) (t28 : Int) (t116 : Int) (t117 : Int) : ev Try.prog 12 Try.f12.results.toList C_signalboxlaw47_TimersPlay D_signalboxlaw47_TimersPlay 400 true (todoOf Try.f12 33) (T_signalboxlaw47_TimersPlay_33 t3 run4 now5 a7 want11 t26 t27 t28 t116 t117) = B_signalboxlaw47_TimersPlay_33 t3 run4 now5 a7 want11 t26 t27 t28 t116 t117 := by kernel_rfl
theorem S_signalboxlaw47_TimersPlay_33 (t3 : Option Addr) (run4 : Sl) (now5 : Int) (a7 : Addr) (want11 : Sl) (t26 : Sl) (t27 : Int) (t28 : Int) (t116 : Int) (t117 : Int) {h : Hp} {Q : Value → Hp → Prop} (hb : B_signalboxlaw47_TimersPlay_33 t3 run4 now5 a7 want11 t26 t27 t28 t116 t117 h Q) : K_signalboxlaw47_TimersPlay_33 t3 run4 now5 a7 want11 t26 t27 t28 t116 t117 h Q :=
  Cut.of_ev Try.func12 mixed C_signalboxlaw47_TimersPlay D_signalboxlaw47_TimersPlay 400 (by rw [E_signalboxlaw47_TimersPlay_33]; exact hb)
theorem E_signalboxlaw47_TimersPlay_43 (t3 : Option Addr) (run4 : Sl) (now5 : Int) (want11 : Sl) (got13 : Sl) (t26 : Sl) (t27 : Int) (t28 : Int) (t141 : Int) (t142 : Int) : ev Try.prog 12 Try.f12.results.toList C_signalboxlaw47_TimersPlay D_signalboxlaw47_TimersPlay 400 true (todoOf Try.f12 43) (T_signalboxlaw47_TimersPlay_43 t3 run4 now5 want11 got13 t26 t27 t28 t141 t142) = B_signalboxlaw47_TimersPlay_43 t3 run4 now5 want11 got13 t26 t27 t28 t141 t142 := by kernel_rfl
theorem S_signalboxlaw47_TimersPlay_43 (t3 : Option Addr) (run4 : Sl) (now5 : Int) (want11 : Sl) (got13 : Sl) (t26 : Sl) (t27 : Int) (t28 : Int) (t141 : Int) (t142 : Int) {h : Hp} {Q : Value → Hp → Prop} (hb : B_signalboxlaw47_TimersPlay_43 t3 run4 now5 want11 got13 t26 t27 t28 t141 t142 h Q) : K_signalboxlaw47_TimersPlay_43 t3 run4 now5 want11 got13 t26 t27 t28 t141 t142 h Q :=
  Cut.of_ev Try.func12 mixed C_signalboxlaw47_TimersPlay D_signalboxlaw47_TimersPlay 400 (by rw [E_signalboxlaw47_TimersPlay_43]; exact hb)
theorem E_signalboxlaw47_TimersPlay_48 (t3 : Option Addr) (run4 : Sl) (now5 : Int) (t26 : Sl) (t27 : Int) (t28 : Int) : ev Try.prog 12 Try.f12.results.toList C_signalboxlaw47_TimersPlay D_signalboxlaw47_TimersPlay 400 true (todoOf Try.f12 48) (T_signalboxlaw47_TimersPlay_48 t3 run4 now5 t26 t27 t28) = B_signalboxlaw47_TimersPlay_48 t3 run4 now5 t26 t27 t28 := by kernel_rfl
theorem S_signalboxlaw47_TimersPlay_48 (t3 : Option Addr) (run4 : Sl) (now5 : Int) (t26 : Sl) (t27 : Int) (t28 : Int) {h : Hp} {Q : Value → Hp → Prop} (hb : B_signalboxlaw47_TimersPlay_48 t3 run4 now5 t26 t27 t28 h Q) : K_signalboxlaw47_TimersPlay_48 t3 run4 now5 t26 t27 t28 h Q :=
  Cut.of_ev Try.func12 mixed C_signalboxlaw47_TimersPlay D_signalboxlaw47_TimersPlay 400 (by rw [E_signalboxlaw47_TimersPlay_48]; exact hb)
theorem E_signalboxlaw47_TimersPlay_52 (t3 : Option Addr) (run4 : Sl) (now5 : Int) (ids15 : Sl) (t26 : Sl) (t27 : Int) (t28 : Int) (t168 : Sl) (t169 : Int) (t170 : Int) : ev Try.prog 12 Try.f12.results.toList C_signalboxlaw47_TimersPlay D_signalboxlaw47_TimersPlay 400 true (todoOf Try.f12 52) (T_signalboxlaw47_TimersPlay_52 t3 run4 now5 ids15 t26 t27 t28 t168 t169 t170) = B_signalboxlaw47_TimersPlay_52 t3 run4 now5 ids15 t26 t27 t28 t168 t169 t170 := by kernel_rfl
theorem S_signalboxlaw47_TimersPlay_52 (t3 : Option Addr) (run4 : Sl) (now5 : Int) (ids15 : Sl) (t26 : Sl) (t27 : Int) (t28 : Int) (t168 : Sl) (t169 : Int) (t170 : Int) {h : Hp} {Q : Value → Hp → Prop} (hb : B_signalboxlaw47_TimersPlay_52 t3 run4 now5 ids15 t26 t27 t28 t168 t169 t170 h Q) : K_signalboxlaw47_TimersPlay_52 t3 run4 now5 ids15 t26 t27 t28 t168 t169 t170 h Q :=
  Cut.of_ev Try.func12 mixed C_signalboxlaw47_TimersPlay D_signalboxlaw47_TimersPlay 400 (by rw [E_signalboxlaw47_TimersPlay_52]; exact hb)
def C_signalboxlaw47_TimersParts : List (Nat × List Nat) := [(7, [1, 2, 7, 8, 22, 23, 24]), (17, [11, 12, 74, 75])]
def D_signalboxlaw47_TimersParts : List (Nat × List Nat) := []
def T_signalboxlaw47_TimersParts_7 (a1 : Int) (b2 : Int) (x7 : Option Addr) (y8 : Option Addr) (t22 : Sl) (t23 : Int) (t24 : Int) : Env := mkEnv [(1, .int .u8 a1), (2, .int .u8 b2), (7, .pointer x7), (8, .pointer y8), (22, .slice t22.p t22.n t22.c), (23, .int .i64 t23), (24, .int .i64 t24)] 109 0
def K_signalboxlaw47_TimersParts_7 (a1 : Int) (b2 : Int) (x7 : Option Addr) (y8 : Option Addr) (t22 : Sl) (t23 : Int) (t24 : Int) : M Value := Cut Try.prog 13 (todoOf Try.f13 7) (T_signalboxlaw47_TimersParts_7 a1 b2 x7 y8 t22 t23 t24)
def T_signalboxlaw47_TimersParts_17 (one11 : Sl) (two12 : Sl) (t74 : Int) (t75 : Int) : Env := mkEnv [(11, .slice one11.p one11.n one11.c), (12, .slice two12.p two12.n two12.c), (74, .int .i64 t74), (75, .int .i64 t75)] 109 0
def K_signalboxlaw47_TimersParts_17 (one11 : Sl) (two12 : Sl) (t74 : Int) (t75 : Int) : M Value := Cut Try.prog 13 (todoOf Try.f13 17) (T_signalboxlaw47_TimersParts_17 one11 two12 t74 t75)
def B_signalboxlaw47_TimersParts (l0 : Sl) (a1 : Int) (b2 : Int) : M Value :=
  mBind (N_signalboxlaw47_fixed) fun r15 =>
  unB r15 fun (x15 : Bool) =>
  mIf (!x15) (
    mRet (.bool false)) (
    mIf (decide ((l0.n : Int) > (40 : Int))) (
      mRet (.bool true)) (
      mBind (N_timers_New) fun r20 =>
      unP r20 fun (x20 : Option Addr) =>
      mBind (N_timers_New) fun r21 =>
      unP r21 fun (x21 : Option Addr) =>
      K_signalboxlaw47_TimersParts_7 a1 b2 x20 x21 l0 (l0.n : Int) (0 : Int)))
def B_signalboxlaw47_TimersParts_7 (a1 : Int) (b2 : Int) (x7 : Option Addr) (y8 : Option Addr) (t22 : Sl) (t23 : Int) (t24 : Int) : M Value :=
  mIf (decide (t24 < t23)) (
    mIdx t22 t24 4 fun (x26 : Addr) =>
    mLdI .u8 x26 fun (x27_0 : Int) =>
    mLdI .i64 (x26.add 1) fun (x27_1 : Int) =>
    mLdI .i64 (x26.add 2) fun (x27_2 : Int) =>
    mLdI .i64 (x26.add 3) fun (x27_3 : Int) =>
    mNew #[.int .u8 (0 : Int), .int .i64 (0 : Int), .int .i64 (0 : Int), .int .i64 (0 : Int)] 83 fun (x10 : Addr) =>
    mSt x10 (.int .u8 x27_0) <|
    mSt (x10.add 1) (.int .i64 x27_1) <|
    mSt (x10.add 2) (.int .i64 x27_2) <|
    mSt (x10.add 3) (.int .i64 x27_3) <|
    mLdI .i64 (x10.add 1) fun (x30 : Int) =>
    mLdI .i64 (x10.add 2) fun (x32 : Int) =>
    mLdI .i64 (x10.add 3) fun (x34 : Int) =>
    mBind (N_timers_Timers_Start x7 x30 x32 x34) fun r35 =>
    unI .i64 r35 fun (_x35 : Int) =>
    mLdI .i64 (x10.add 1) fun (x38 : Int) =>
    mLdI .i64 (x10.add 2) fun (x40 : Int) =>
    mLdI .i64 (x10.add 3) fun (x42 : Int) =>
    mBind (N_timers_Timers_Start y8 x38 x40 x42) fun r43 =>
    unI .i64 r43 fun (_x43 : Int) =>
    K_signalboxlaw47_TimersParts_7 a1 b2 x7 y8 t22 t23 (IntKind.i64.wrap (t24 + (1 : Int)))) (
    mBind (N_timers_Timers_Advance x7 (IntKind.i64.wrap a1)) fun r48 =>
    unL r48 fun (x48 : Sl) =>
    mBind (N_timers_Timers_Advance x7 (IntKind.i64.wrap b2)) fun r52 =>
    unL r52 fun (x52 : Sl) =>
    mApp 94 2 16 #[.int .i64 (0 : Int), .int .i64 (0 : Int)] x48 x52 fun (x53 : Sl) =>
    mBind (N_timers_Timers_Advance y8 (IntKind.i64.wrap ((IntKind.i64.wrap a1) + (IntKind.i64.wrap b2)))) fun r60 =>
    unL r60 fun (x60 : Sl) =>
    mBind (mIf ((x53.n : Int) != (x60.n : Int)) (mRet true) (mBind (N_timers_Timers_Now x7) fun r68 =>
      unI .i64 r68 fun (x68 : Int) =>
      mBind (N_timers_Timers_Now y8) fun r70 =>
      unI .i64 r70 fun (x70 : Int) =>
      mRet (x68 != x70))) fun (b28 : Bool) =>
    mIf b28 (
      mRet (.bool false)) (
      K_signalboxlaw47_TimersParts_17 x53 x60 (x53.n : Int) (0 : Int)))
def B_signalboxlaw47_TimersParts_17 (one11 : Sl) (two12 : Sl) (t74 : Int) (t75 : Int) : M Value :=
  mIf (decide (t75 < t74)) (
    mIdx one11 t75 2 fun (x80 : Addr) =>
    mLdI .i64 x80 fun (x81_0 : Int) =>
    mLdI .i64 (x80.add 1) fun (x81_1 : Int) =>
    mIdx two12 t75 2 fun (x84 : Addr) =>
    mLdI .i64 x84 fun (x85_0 : Int) =>
    mLdI .i64 (x84.add 1) fun (x85_1 : Int) =>
    mIf (!((x81_0 == x85_0) && ((x81_1 == x85_1) && true))) (
      mRet (.bool false)) (
      K_signalboxlaw47_TimersParts_17 one11 two12 t74 (IntKind.i64.wrap (t75 + (1 : Int))))) (
    mBind (N_timers_Timers_Start none (1 : Int) (1 : Int) (1 : Int)) fun r89 =>
    unI .i64 r89 fun (x89 : Int) =>
    mBind (mIf (x89 == (1 : Int)) (mBind (N_timers_Timers_Stop none (1 : Int)) fun r93 =>
      unB r93 fun (x93 : Bool) =>
      mRet (!x93)) (mRet false)) fun (b35 : Bool) =>
    mBind (mIf b35 (mBind (N_timers_Timers_Now none) fun r98 =>
      unI .i64 r98 fun (x98 : Int) =>
      mBind (N_timers_Timers_Advance none (3 : Int)) fun r100 =>
      unL r100 fun (x100 : Sl) =>
      mBind (N_timers_Timers_Running none) fun r104 =>
      unL r104 fun (x104 : Sl) =>
      mRet ((IntKind.i64.wrap ((IntKind.i64.wrap (x98 + (x100.n : Int))) + (x104.n : Int))) == (0 : Int))) (mRet false)) fun (b39 : Bool) =>
    mRet (.bool b39))
theorem E_signalboxlaw47_TimersParts (l0 : Sl) (a1 : Int) (b2 : Int) : ev Try.prog 13 Try.f13.results.toList C_signalboxlaw47_TimersParts D_signalboxlaw47_TimersParts 400 false [.code (bodyOf Try.f13)] (List.map some [.slice l0.p l0.n l0.c, .int .u8 a1, .int .u8 b2] ++ List.replicate (Try.f13.ntmps - List.length ([.slice l0.p l0.n l0.c, .int .u8 a1, .int .u8 b2] : List Value)) none) = B_signalboxlaw47_TimersParts l0 a1 b2 := by kernel_rfl
theorem S_signalboxlaw47_TimersParts (l0 : Sl) (a1 : Int) (b2 : Int) {h : Hp} {Q : Value → Hp → Prop} (hb : B_signalboxlaw47_TimersParts l0 a1 b2 h Q) : N_signalboxlaw47_TimersParts l0 a1 b2 h Q :=
  Nf.of_ev Try.call13 Try.func13 (c := bodyOf Try.f13) rfl mixed C_signalboxlaw47_TimersParts D_signalboxlaw47_TimersParts 400 (args := [.slice l0.p l0.n l0.c, .int .u8 a1, .int .u8 b2]) (by rw [E_signalboxlaw47_TimersParts]; exact hb)
theorem E_signalboxlaw47_TimersParts_7 (a1 : Int) (b2 : Int) (x7 : Option Addr) (y8 : Option Addr) (t22 : Sl) (t23 : Int) (t24 : Int) : ev Try.prog 13 Try.f13.results.toList C_signalboxlaw47_TimersParts D_signalboxlaw47_TimersParts 400 true (todoOf Try.f13 7) (T_signalboxlaw47_TimersParts_7 a1 b2 x7 y8 t22 t23 t24) = B_signalboxlaw47_TimersParts_7 a1 b2 x7 y8 t22 t23 t24 := by kernel_rfl
theorem S_signalboxlaw47_TimersParts_7 (a1 : Int) (b2 : Int) (x7 : Option Addr) (y8 : Option Addr) (t22 : Sl) (t23 : Int) (t24 : Int) {h : Hp} {Q : Value → Hp → Prop} (hb : B_signalboxlaw47_TimersParts_7 a1 b2 x7 y8 t22 t23 t24 h Q) : K_signalboxlaw47_TimersParts_7 a1 b2 x7 y8 t22 t23 t24 h Q :=
  Cut.of_ev Try.func13 mixed C_signalboxlaw47_TimersParts D_signalboxlaw47_TimersParts 400 (by rw [E_signalboxlaw47_TimersParts_7]; exact hb)
theorem E_signalboxlaw47_TimersParts_17 (one11 : Sl) (two12 : Sl) (t74 : Int) (t75 : Int) : ev Try.prog 13 Try.f13.results.toList C_signalboxlaw47_TimersParts D_signalboxlaw47_TimersParts 400 true (todoOf Try.f13 17) (T_signalboxlaw47_TimersParts_17 one11 two12 t74 t75) = B_signalboxlaw47_TimersParts_17 one11 two12 t74 t75 := by kernel_rfl
theorem S_signalboxlaw47_TimersParts_17 (one11 : Sl) (two12 : Sl) (t74 : Int) (t75 : Int) {h : Hp} {Q : Value → Hp → Prop} (hb : B_signalboxlaw47_TimersParts_17 one11 two12 t74 t75 h Q) : K_signalboxlaw47_TimersParts_17 one11 two12 t74 t75 h Q :=
  Cut.of_ev Try.func13 mixed C_signalboxlaw47_TimersParts D_signalboxlaw47_TimersParts 400 (by rw [E_signalboxlaw47_TimersParts_17]; exact hb)
end Go.Proofs.Ytinjifhjjkdmoaa
