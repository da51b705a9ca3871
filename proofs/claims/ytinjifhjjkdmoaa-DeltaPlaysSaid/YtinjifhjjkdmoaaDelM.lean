/- What the functions of this layer come to, as forms of the small logic; written by program. Conditions: none. -/
import Derived.Test.YtinjifhjjkdmoaaSbU
import Derived.Test.YtinjifhjjkdmoaaDltM
import Derived.Test.YtinjifhjjkdmoaaChecked
import Derived.KernelRfl
set_option maxRecDepth 100000
namespace Go.Proofs.Ytinjifhjjkdmoaa
open Go Go.Sb
def N_signalboxlaw04_fixed : M Value := Nf Try.prog 22 #[]
def N_signalboxlaw04_same (a0 : Sl) (b1 : Sl) : M Value := Nf Try.prog 26 #[.slice a0.p a0.n a0.c, .slice b1.p b1.n b1.c]
def N_signalboxref04_List_Find (l0 : Sl) (key1 : Int) : M Value := Nf Try.prog 29 #[.slice l0.p l0.n l0.c, .int .i64 key1]
def N_signalboxref04_List_Put (l0 : Sl) (key1 : Int) (at2 : Int) : M Value := Nf Try.prog 30 #[.slice l0.p l0.n l0.c, .int .i64 key1, .int .i64 at2]
def N_signalboxref04_List_Drop (l0 : Sl) (i1 : Int) : M Value := Nf Try.prog 32 #[.slice l0.p l0.n l0.c, .int .i64 i1]
def N_signalboxref04_List_Advance (l0 : Sl) (ticks1 : Int) : M Value := Nf Try.prog 33 #[.slice l0.p l0.n l0.c, .int .i64 ticks1]
def N_signalboxlaw04_DeltaParts (acts0 : Sl) (a1 : Int) (b2 : Int) : M Value := Nf Try.prog 5 #[.slice acts0.p acts0.n acts0.c, .int .u16 a1, .int .u16 b2]
def N_signalboxlaw04_DeltaPlays (acts0 : Sl) (key1 : Int) : M Value := Nf Try.prog 6 #[.slice acts0.p acts0.n acts0.c, .int .i64 key1]
def C_signalboxlaw04_fixed : List (Nat × List Nat) := []
def D_signalboxlaw04_fixed : List (Nat × List Nat) := []
def B_signalboxlaw04_fixed : M Value :=
  mBind (N_delta_New) fun r8 =>
  unP r8 fun (x8 : Option Addr) =>
  mBind (N_delta_List_Put x8 (2 : Int) (5 : Int)) fun r10 =>
  unI .i64 r10 fun (x10 : Int) =>
  mBind (N_delta_List_Put x8 (1 : Int) (3 : Int)) fun r12 =>
  unI .i64 r12 fun (x12 : Int) =>
  mBind (N_delta_List_Gaps x8) fun r14 =>
  unL r14 fun (x14 : Sl) =>
  mBind (N_delta_List_Advance x8 (4 : Int)) fun r16 =>
  unL r16 fun (x16 : Sl) =>
  mBind (N_delta_List_Next x8) fun r19 =>
  un2 (unI .i64) unB r19 fun (x19_0 : Int) (x19_1 : Bool) =>
  mBind (mIf (((x10 == (0 : Int)) && (x12 == (0 : Int))) && ((x14.n : Int) == (2 : Int))) (mIdx x14 (0 : Int) 1 fun (x35 : Addr) =>
    mLdI .i64 x35 fun (x36 : Int) =>
    mRet (x36 == (3 : Int))) (mRet false)) fun (b9 : Bool) =>
  mBind (mIf b9 (mIdx x14 (1 : Int) 1 fun (x41 : Addr) =>
    mLdI .i64 x41 fun (x42 : Int) =>
    mRet (x42 == (2 : Int))) (mRet false)) fun (b12 : Bool) =>
  mBind (mIf (b12 && ((x16.n : Int) == (1 : Int))) (mIdx x16 (0 : Int) 1 fun (x52 : Addr) =>
    mLdI .i64 x52 fun (x53 : Int) =>
    mRet (x53 == (1 : Int))) (mRet false)) fun (b15 : Bool) =>
  mBind (mIf ((b15 && x19_1) && (x19_0 == (1 : Int))) (mBind (N_delta_List_Put x8 (2 : Int) (1 : Int)) fun r65 =>
    unI .i64 r65 fun (x65 : Int) =>
    mRet (x65 == (10 : Int))) (mRet false)) fun (b17 : Bool) =>
  mBind (mIf b17 (mBind (N_delta_List_Put x8 (3 : Int) (-1 : Int)) fun r70 =>
    unI .i64 r70 fun (x70 : Int) =>
    mRet (x70 == (5 : Int))) (mRet false)) fun (b19 : Bool) =>
  mRet (.bool b19)
theorem E_signalboxlaw04_fixed : ev Try.prog 22 Try.f22.results.toList C_signalboxlaw04_fixed D_signalboxlaw04_fixed 400 false [.code (bodyOf Try.f22)] (List.map some [] ++ List.replicate (Try.f22.ntmps - List.length ([] : List Value)) none) = B_signalboxlaw04_fixed := by kernel_rfl
theorem S_signalboxlaw04_fixed {h : Hp} {Q : Value → Hp → Prop} (hb : B_signalboxlaw04_fixed h Q) : N_signalboxlaw04_fixed h Q :=
  Nf.of_ev Try.call22 Try.func22 (c := bodyOf Try.f22) rfl mixed C_signalboxlaw04_fixed D_signalboxlaw04_fixed 400 (args := []) (by rw [E_signalboxlaw04_fixed]; exact hb)
def C_signalboxlaw04_same : List (Nat × List Nat) := [(4, [0, 1, 12, 13])]
def D_signalboxlaw04_same : List (Nat × List Nat) := []
def T_signalboxlaw04_same_4 (a0 : Sl) (b1 : Sl) (t12 : Int) (t13 : Int) : Env := mkEnv [(0, .slice a0.p a0.n a0.c), (1, .slice b1.p b1.n b1.c), (12, .int .i64 t12), (13, .int .i64 t13)] 26 0
def K_signalboxlaw04_same_4 (a0 : Sl) (b1 : Sl) (t12 : Int) (t13 : Int) : M Value := Cut Try.prog 26 (todoOf Try.f26 4) (T_signalboxlaw04_same_4 a0 b1 t12 t13)
def B_signalboxlaw04_same (a0 : Sl) (b1 : Sl) : M Value :=
  mIf ((a0.n : Int) != (b1.n : Int)) (
    mRet (.bool false)) (
    K_signalboxlaw04_same_4 a0 b1 (a0.n : Int) (0 : Int))
def B_signalboxlaw04_same_4 (a0 : Sl) (b1 : Sl) (t12 : Int) (t13 : Int) : M Value :=
  mIf (decide (t13 < t12)) (
    mIdx a0 t13 1 fun (x18 : Addr) =>
    mLdI .i64 x18 fun (x19 : Int) =>
    mIdx b1 t13 1 fun (x22 : Addr) =>
    mLdI .i64 x22 fun (x23 : Int) =>
    mIf (x19 != x23) (
      mRet (.bool false)) (
      K_signalboxlaw04_same_4 a0 b1 t12 (IntKind.i64.wrap (t13 + (1 : Int))))) (
    mRet (.bool true))
theorem E_signalboxlaw04_same (a0 : Sl) (b1 : Sl) : ev Try.prog 26 Try.f26.results.toList C_signalboxlaw04_same D_signalboxlaw04_same 400 false [.code (bodyOf Try.f26)] (List.map some [.slice a0.p a0.n a0.c, .slice b1.p b1.n b1.c] ++ List.replicate (Try.f26.ntmps - List.length ([.slice a0.p a0.n a0.c, .slice b1.p b1.n b1.c] : List Value)) none) = B_signalboxlaw04_same a0 b1 := by kernel_rfl
theorem S_signalboxlaw04_same (a0 : Sl) (b1 : Sl) {h : Hp} {Q : Value → Hp → Prop} (hb : B_signalboxlaw04_same a0 b1 h Q) : N_signalboxlaw04_same a0 b1 h Q :=
  Nf.of_ev Try.call26 Try.func26 (c := bodyOf Try.f26) rfl mixed C_signalboxlaw04_same D_signalboxlaw04_same 400 (args := [.slice a0.p a0.n a0.c, .slice b1.p b1.n b1.c]) (by rw [E_signalboxlaw04_same]; exact hb)
theorem E_signalboxlaw04_same_4 (a0 : Sl) (b1 : Sl) (t12 : Int) (t13 : Int) : ev Try.prog 26 Try.f26.results.toList C_signalboxlaw04_same D_signalboxlaw04_same 400 true (todoOf Try.f26 4) (T_signalboxlaw04_same_4 a0 b1 t12 t13) = B_signalboxlaw04_same_4 a0 b1 t12 t13 := by kernel_rfl
theorem S_signalboxlaw04_same_4 (a0 : Sl) (b1 : Sl) (t12 : Int) (t13 : Int) {h : Hp} {Q : Value → Hp → Prop} (hb : B_signalboxlaw04_same_4 a0 b1 t12 t13 h Q) : K_signalboxlaw04_same_4 a0 b1 t12 t13 h Q :=
  Cut.of_ev Try.func26 mixed C_signalboxlaw04_same D_signalboxlaw04_same 400 (by rw [E_signalboxlaw04_same_4]; exact hb)
def C_signalboxref04_List_Find : List (Nat × List Nat) := [(2, [1, 7, 8, 9])]
def D_signalboxref04_List_Find : List (Nat × List Nat) := []
def T_signalboxref04_List_Find_2 (key1 : Int) (t7 : Sl) (t8 : Int) (t9 : Int) : Env := mkEnv [(1, .int .i64 key1), (7, .slice t7.p t7.n t7.c), (8, .int .i64 t8), (9, .int .i64 t9)] 20 0
def K_signalboxref04_List_Find_2 (key1 : Int) (t7 : Sl) (t8 : Int) (t9 : Int) : M Value := Cut Try.prog 29 (todoOf Try.f29 2) (T_signalboxref04_List_Find_2 key1 t7 t8 t9)
def B_signalboxref04_List_Find (l0 : Sl) (key1 : Int) : M Value :=
  K_signalboxref04_List_Find_2 key1 l0 (l0.n : Int) (0 : Int)
def B_signalboxref04_List_Find_2 (key1 : Int) (t7 : Sl) (t8 : Int) (t9 : Int) : M Value :=
  mIf (decide (t9 < t8)) (
    mIdx t7 t9 2 fun (x12 : Addr) =>
    mLdI .i64 x12 fun (x13_0 : Int) =>
    mLdI .i64 (x12.add 1) fun (x13_1 : Int) =>
    mNew #[.int .i64 (0 : Int), .int .i64 (0 : Int)] 55 fun (x6 : Addr) =>
    mSt x6 (.int .i64 x13_0) <|
    mSt (x6.add 1) (.int .i64 x13_1) <|
    mLdI .i64 x6 fun (x15 : Int) =>
    mIf (x15 == key1) (
      mRet (.int .i64 t9)) (
      K_signalboxref04_List_Find_2 key1 t7 t8 (IntKind.i64.wrap (t9 + (1 : Int))))) (
    mRet (.int .i64 (-1 : Int)))
theorem E_signalboxref04_List_Find (l0 : Sl) (key1 : Int) : ev Try.prog 29 Try.f29.results.toList C_signalboxref04_List_Find D_signalboxref04_List_Find 400 false [.code (bodyOf Try.f29)] (List.map some [.slice l0.p l0.n l0.c, .int .i64 key1] ++ List.replicate (Try.f29.ntmps - List.length ([.slice l0.p l0.n l0.c, .int .i64 key1] : List Value)) none) = B_signalboxref04_List_Find l0 key1 := by kernel_rfl
theorem S_signalboxref04_List_Find (l0 : Sl) (key1 : Int) {h : Hp} {Q : Value → Hp → Prop} (hb : B_signalboxref04_List_Find l0 key1 h Q) : N_signalboxref04_List_Find l0 key1 h Q :=
  Nf.of_ev Try.call29 Try.func29 (c := bodyOf Try.f29) rfl mixed C_signalboxref04_List_Find D_signalboxref04_List_Find 400 (args := [.slice l0.p l0.n l0.c, .int .i64 key1]) (by rw [E_signalboxref04_List_Find]; exact hb)
theorem E_signalboxref04_List_Find_2 (key1 : Int) (t7 : Sl) (t8 : Int) (t9 : Int) : ev Try.prog 29 Try.f29.results.toList C_signalboxref04_List_Find D_signalboxref04_List_Find 400 true (todoOf Try.f29 2) (T_signalboxref04_List_Find_2 key1 t7 t8 t9) = B_signalboxref04_List_Find_2 key1 t7 t8 t9 := by kernel_rfl
theorem S_signalboxref04_List_Find_2 (key1 : Int) (t7 : Sl) (t8 : Int) (t9 : Int) {h : Hp} {Q : Value → Hp → Prop} (hb : B_signalboxref04_List_Find_2 key1 t7 t8 t9 h Q) : K_signalboxref04_List_Find_2 key1 t7 t8 t9 h Q :=
  Cut.of_ev Try.func29 mixed C_signalboxref04_List_Find D_signalboxref04_List_Find 400 (by rw [E_signalboxref04_List_Find_2]; exact hb)
def C_signalboxref04_List_Put : List (Nat × List Nat) := [(2, [0, 1, 2, 7])]
def D_signalboxref04_List_Put : List (Nat × List Nat) := [(4, [])]
def T_signalboxref04_List_Put_2 (l0 : Sl) (key1 : Int) (at2 : Int) (i7 : Int) : Env := mkEnv [(0, .slice l0.p l0.n l0.c), (1, .int .i64 key1), (2, .int .i64 at2), (7, .int .i64 i7)] 37 0
def K_signalboxref04_List_Put_2 (l0 : Sl) (key1 : Int) (at2 : Int) (i7 : Int) : M Value := Cut Try.prog 30 (todoOf Try.f30 2) (T_signalboxref04_List_Put_2 l0 key1 at2 i7)
def B_signalboxref04_List_Put (l0 : Sl) (key1 : Int) (at2 : Int) : M Value :=
  K_signalboxref04_List_Put_2 l0 key1 at2 (0 : Int)
def B_signalboxref04_List_Put_2 (l0 : Sl) (key1 : Int) (at2 : Int) (i7 : Int) : M Value :=
  mBind (mIf (decide (i7 < (l0.n : Int))) (mIdx l0 i7 2 fun (x15 : Addr) =>
    mLdI .i64 (x15.add 1) fun (x17 : Int) =>
    mRet (decide (x17 ≤ at2))) (mRet false)) fun (b4 : Bool) =>
  mIf b4 (
    K_signalboxref04_List_Put_2 l0 key1 at2 (IntKind.i64.wrap (i7 + (1 : Int)))) (
    mSlc l0 2 (0 : Int) i7 (l0.c : Int) fun (x26 : Sl) =>
    mSlc l0 2 i7 (l0.n : Int) (l0.c : Int) fun (x35 : Sl) =>
    mAnd (
      mNew #[] 55 fun (x23_12 : Addr) =>
      mAnd (
        mApp 55 2 16 #[.int .i64 (0 : Int), .int .i64 (0 : Int)] ⟨(some x23_12), 0, 0⟩ x26 fun (x27_17 : Sl) =>
        mNew #[.int .i64 key1, .int .i64 at2] 55 fun (x31_18 : Addr) =>
        mApp 55 2 16 #[.int .i64 (0 : Int), .int .i64 (0 : Int)] x27_17 ⟨(some x31_18), 1, 1⟩ fun (x32_19 : Sl) =>
        mApp 55 2 16 #[.int .i64 (0 : Int), .int .i64 (0 : Int)] x32_19 x35 fun (x36_20 : Sl) =>
        mRet (.slice x36_20.p x36_20.n x36_20.c)) (
        mNew #[.int .i64 key1, .int .i64 at2] 55 fun (x31_13 : Addr) =>
        mApp 55 2 16 #[.int .i64 (0 : Int), .int .i64 (0 : Int)] ⟨(some x23_12), 0, 0⟩ x26 fun (x27_14 : Sl) =>
        mApp 55 2 16 #[.int .i64 (0 : Int), .int .i64 (0 : Int)] x27_14 ⟨(some x31_13), 1, 1⟩ fun (x32_15 : Sl) =>
        mApp 55 2 16 #[.int .i64 (0 : Int), .int .i64 (0 : Int)] x32_15 x35 fun (x36_16 : Sl) =>
        mRet (.slice x36_16.p x36_16.n x36_16.c))) (
      mNew #[.int .i64 key1, .int .i64 at2] 55 fun (x31 : Addr) =>
      mNew #[] 55 fun (x23 : Addr) =>
      mApp 55 2 16 #[.int .i64 (0 : Int), .int .i64 (0 : Int)] ⟨(some x23), 0, 0⟩ x26 fun (x27 : Sl) =>
      mApp 55 2 16 #[.int .i64 (0 : Int), .int .i64 (0 : Int)] x27 ⟨(some x31), 1, 1⟩ fun (x32 : Sl) =>
      mApp 55 2 16 #[.int .i64 (0 : Int), .int .i64 (0 : Int)] x32 x35 fun (x36 : Sl) =>
      mRet (.slice x36.p x36.n x36.c)))
theorem E_signalboxref04_List_Put (l0 : Sl) (key1 : Int) (at2 : Int) : ev Try.prog 30 Try.f30.results.toList C_signalboxref04_List_Put D_signalboxref04_List_Put 400 false [.code (bodyOf Try.f30)] (List.map some [.slice l0.p l0.n l0.c, .int .i64 key1, .int .i64 at2] ++ List.replicate (Try.f30.ntmps - List.length ([.slice l0.p l0.n l0.c, .int .i64 key1, .int .i64 at2] : List Value)) none) = B_signalboxref04_List_Put l0 key1 at2 := by kernel_rfl
theorem S_signalboxref04_List_Put (l0 : Sl) (key1 : Int) (at2 : Int) {h : Hp} {Q : Value → Hp → Prop} (hb : B_signalboxref04_List_Put l0 key1 at2 h Q) : N_signalboxref04_List_Put l0 key1 at2 h Q :=
  Nf.of_ev Try.call30 Try.func30 (c := bodyOf Try.f30) rfl mixed C_signalboxref04_List_Put D_signalboxref04_List_Put 400 (args := [.slice l0.p l0.n l0.c, .int .i64 key1, .int .i64 at2]) (by rw [E_signalboxref04_List_Put]; exact hb)
theorem E_signalboxref04_List_Put_2 (l0 : Sl) (key1 : Int) (at2 : Int) (i7 : Int) : ev Try.prog 30 Try.f30.results.toList C_signalboxref04_List_Put D_signalboxref04_List_Put 400 true (todoOf Try.f30 2) (T_signalboxref04_List_Put_2 l0 key1 at2 i7) = B_signalboxref04_List_Put_2 l0 key1 at2 i7 := by kernel_rfl
theorem S_signalboxref04_List_Put_2 (l0 : Sl) (key1 : Int) (at2 : Int) (i7 : Int) {h : Hp} {Q : Value → Hp → Prop} (hb : B_signalboxref04_List_Put_2 l0 key1 at2 i7 h Q) : K_signalboxref04_List_Put_2 l0 key1 at2 i7 h Q :=
  Cut.of_ev Try.func30 mixed C_signalboxref04_List_Put D_signalboxref04_List_Put 400 (by rw [E_signalboxref04_List_Put_2]; exact hb)
def C_signalboxref04_List_Drop : List (Nat × List Nat) := []
def D_signalboxref04_List_Drop : List (Nat × List Nat) := [(1, [])]
def B_signalboxref04_List_Drop (l0 : Sl) (i1 : Int) : M Value :=
  mSlc l0 2 (0 : Int) i1 (l0.c : Int) fun (x8 : Sl) =>
  mSlc l0 2 (IntKind.i64.wrap (i1 + (1 : Int))) (l0.n : Int) (l0.c : Int) fun (x13 : Sl) =>
  mNew #[] 55 fun (x5 : Addr) =>
  mApp 55 2 16 #[.int .i64 (0 : Int), .int .i64 (0 : Int)] ⟨(some x5), 0, 0⟩ x8 fun (x9 : Sl) =>
  mApp 55 2 16 #[.int .i64 (0 : Int), .int .i64 (0 : Int)] x9 x13 fun (x14 : Sl) =>
  mRet (.slice x14.p x14.n x14.c)
theorem E_signalboxref04_List_Drop (l0 : Sl) (i1 : Int) : ev Try.prog 32 Try.f32.results.toList C_signalboxref04_List_Drop D_signalboxref04_List_Drop 400 false [.code (bodyOf Try.f32)] (List.map some [.slice l0.p l0.n l0.c, .int .i64 i1] ++ List.replicate (Try.f32.ntmps - List.length ([.slice l0.p l0.n l0.c, .int .i64 i1] : List Value)) none) = B_signalboxref04_List_Drop l0 i1 := by kernel_rfl
theorem S_signalboxref04_List_Drop (l0 : Sl) (i1 : Int) {h : Hp} {Q : Value → Hp → Prop} (hb : B_signalboxref04_List_Drop l0 i1 h Q) : N_signalboxref04_List_Drop l0 i1 h Q :=
  Nf.of_ev Try.call32 Try.func32 (c := bodyOf Try.f32) rfl mixed C_signalboxref04_List_Drop D_signalboxref04_List_Drop 400 (args := [.slice l0.p l0.n l0.c, .int .i64 i1]) (by rw [E_signalboxref04_List_Drop]; exact hb)
def C_signalboxref04_List_Advance : List (Nat × List Nat) := [(4, [1, 6, 7, 10, 11, 12])]
def D_signalboxref04_List_Advance : List (Nat × List Nat) := []
def T_signalboxref04_List_Advance_4 (ticks1 : Int) (left6 : Sl) (due7 : Sl) (t10 : Sl) (t11 : Int) (t12 : Int) : Env := mkEnv [(1, .int .i64 ticks1), (6, .slice left6.p left6.n left6.c), (7, .slice due7.p due7.n due7.c), (10, .slice t10.p t10.n t10.c), (11, .int .i64 t11), (12, .int .i64 t12)] 38 0
def K_signalboxref04_List_Advance_4 (ticks1 : Int) (left6 : Sl) (due7 : Sl) (t10 : Sl) (t11 : Int) (t12 : Int) : M Value := Cut Try.prog 33 (todoOf Try.f33 4) (T_signalboxref04_List_Advance_4 ticks1 left6 due7 t10 t11 t12)
def B_signalboxref04_List_Advance (l0 : Sl) (ticks1 : Int) : M Value :=
  K_signalboxref04_List_Advance_4 ticks1 (Sl.mk none 0 0) (Sl.mk none 0 0) l0 (l0.n : Int) (0 : Int)
def B_signalboxref04_List_Advance_4 (ticks1 : Int) (left6 : Sl) (due7 : Sl) (t10 : Sl) (t11 : Int) (t12 : Int) : M Value :=
  mIf (decide (t12 < t11)) (
    mIdx t10 t12 2 fun (x14 : Addr) =>
    mLdI .i64 x14 fun (x15_0 : Int) =>
    mLdI .i64 (x14.add 1) fun (x15_1 : Int) =>
    mNew #[.int .i64 (0 : Int), .int .i64 (0 : Int)] 55 fun (x9 : Addr) =>
    mSt x9 (.int .i64 x15_0) <|
    mSt (x9.add 1) (.int .i64 x15_1) <|
    mLdI .i64 (x9.add 1) fun (x17 : Int) =>
    mIf (decide (x17 ≤ ticks1)) (
      mLdI .i64 x9 fun (x22 : Int) =>
      mNew #[.int .i64 x22] 3 fun (x23 : Addr) =>
      mApp 3 1 8 #[.int .i64 (0 : Int)] due7 ⟨(some x23), 1, 1⟩ fun (x24 : Sl) =>
      K_signalboxref04_List_Advance_4 ticks1 left6 x24 t10 t11 (IntKind.i64.wrap (t12 + (1 : Int)))) (
      mLdI .i64 x9 fun (x27 : Int) =>
      mLdI .i64 (x9.add 1) fun (x29 : Int) =>
      mNew #[.int .i64 x27, .int .i64 (IntKind.i64.wrap (x29 - ticks1))] 55 fun (x33 : Addr) =>
      mApp 55 2 16 #[.int .i64 (0 : Int), .int .i64 (0 : Int)] left6 ⟨(some x33), 1, 1⟩ fun (x34 : Sl) =>
      K_signalboxref04_List_Advance_4 ticks1 x34 due7 t10 t11 (IntKind.i64.wrap (t12 + (1 : Int))))) (
    mRet (.tuple #[.slice left6.p left6.n left6.c, .slice due7.p due7.n due7.c]))
theorem E_signalboxref04_List_Advance (l0 : Sl) (ticks1 : Int) : ev Try.prog 33 Try.f33.results.toList C_signalboxref04_List_Advance D_signalboxref04_List_Advance 400 false [.code (bodyOf Try.f33)] (List.map some [.slice l0.p l0.n l0.c, .int .i64 ticks1] ++ List.replicate (Try.f33.ntmps - List.length ([.slice l0.p l0.n l0.c, .int .i64 ticks1] : List Value)) none) = B_signalboxref04_List_Advance l0 ticks1 := by kernel_rfl
theorem S_signalboxref04_List_Advance (l0 : Sl) (ticks1 : Int) {h : Hp} {Q : Value → Hp → Prop} (hb : B_signalboxref04_List_Advance l0 ticks1 h Q) : N_signalboxref04_List_Advance l0 ticks1 h Q :=
  Nf.of_ev Try.call33 Try.func33 (c := bodyOf Try.f33) rfl mixed C_signalboxref04_List_Advance D_signalboxref04_List_Advance 400 (args := [.slice l0.p l0.n l0.c, .int .i64 ticks1]) (by rw [E_signalboxref04_List_Advance]; exact hb)
theorem E_signalboxref04_List_Advance_4 (ticks1 : Int) (left6 : Sl) (due7 : Sl) (t10 : Sl) (t11 : Int) (t12 : Int) : ev Try.prog 33 Try.f33.results.toList C_signalboxref04_List_Advance D_signalboxref04_List_Advance 400 true (todoOf Try.f33 4) (T_signalboxref04_List_Advance_4 ticks1 left6 due7 t10 t11 t12) = B_signalboxref04_List_Advance_4 ticks1 left6 due7 t10 t11 t12 := by kernel_rfl
theorem S_signalboxref04_List_Advance_4 (ticks1 : Int) (left6 : Sl) (due7 : Sl) (t10 : Sl) (t11 : Int) (t12 : Int) {h : Hp} {Q : Value → Hp → Prop} (hb : B_signalboxref04_List_Advance_4 ticks1 left6 due7 t10 t11 t12 h Q) : K_signalboxref04_List_Advance_4 ticks1 left6 due7 t10 t11 t12 h Q :=
  Cut.of_ev Try.func33 mixed C_signalboxref04_List_Advance D_signalboxref04_List_Advance 400 (by rw [E_signalboxref04_List_Advance_4]; exact hb)
def C_signalboxlaw04_DeltaParts : List (Nat × List Nat) := [(7, [1, 2, 7, 8, 19, 20, 21])]
def D_signalboxlaw04_DeltaParts : List (Nat × List Nat) := []
def T_signalboxlaw04_DeltaParts_7 (a1 : Int) (b2 : Int) (x7 : Option Addr) (y8 : Option Addr) (t19 : Sl) (t20 : Int) (t21 : Int) : Env := mkEnv [(1, .int .u16 a1), (2, .int .u16 b2), (7, .pointer x7), (8, .pointer y8), (19, .slice t19.p t19.n t19.c), (20, .int .i64 t20), (21, .int .i64 t21)] 70 0
def K_signalboxlaw04_DeltaParts_7 (a1 : Int) (b2 : Int) (x7 : Option Addr) (y8 : Option Addr) (t19 : Sl) (t20 : Int) (t21 : Int) : M Value := Cut Try.prog 5 (todoOf Try.f5 7) (T_signalboxlaw04_DeltaParts_7 a1 b2 x7 y8 t19 t20 t21)
def B_signalboxlaw04_DeltaParts (acts0 : Sl) (a1 : Int) (b2 : Int) : M Value :=
  mBind (N_signalboxlaw04_fixed) fun r12 =>
  unB r12 fun (x12 : Bool) =>
  mIf (!x12) (
    mRet (.bool false)) (
    mIf (decide ((acts0.n : Int) > (100 : Int))) (
      mRet (.bool true)) (
      mBind (N_delta_New) fun r17 =>
      unP r17 fun (x17 : Option Addr) =>
      mBind (N_delta_New) fun r18 =>
      unP r18 fun (x18 : Option Addr) =>
      K_signalboxlaw04_DeltaParts_7 a1 b2 x17 x18 acts0 (acts0.n : Int) (0 : Int)))
def B_signalboxlaw04_DeltaParts_7 (a1 : Int) (b2 : Int) (x7 : Option Addr) (y8 : Option Addr) (t19 : Sl) (t20 : Int) (t21 : Int) : M Value :=
  mIf (decide (t21 < t20)) (
    mIdx t19 t21 3 fun (x23 : Addr) =>
    mLdI .u8 x23 fun (x24_0 : Int) =>
    mLdI .i64 (x23.add 1) fun (x24_1 : Int) =>
    mLdI .i64 (x23.add 2) fun (x24_2 : Int) =>
    mNew #[.int .u8 (0 : Int), .int .i64 (0 : Int), .int .i64 (0 : Int)] 39 fun (x10 : Addr) =>
    mSt x10 (.int .u8 x24_0) <|
    mSt (x10.add 1) (.int .i64 x24_1) <|
    mSt (x10.add 2) (.int .i64 x24_2) <|
    mLdI .i64 (x10.add 1) fun (x27 : Int) =>
    mLdI .i64 (x10.add 2) fun (x29 : Int) =>
    mBind (N_delta_List_Put x7 x27 x29) fun r30 =>
    unI .i64 r30 fun (_x30 : Int) =>
    mLdI .i64 (x10.add 1) fun (x33 : Int) =>
    mLdI .i64 (x10.add 2) fun (x35 : Int) =>
    mBind (N_delta_List_Put y8 x33 x35) fun r36 =>
    unI .i64 r36 fun (_x36 : Int) =>
    K_signalboxlaw04_DeltaParts_7 a1 b2 x7 y8 t19 t20 (IntKind.i64.wrap (t21 + (1 : Int)))) (
    mBind (N_delta_List_Advance x7 (IntKind.i64.wrap a1)) fun r41 =>
    unL r41 fun (x41 : Sl) =>
    mBind (N_delta_List_Advance x7 (IntKind.i64.wrap b2)) fun r45 =>
    unL r45 fun (x45 : Sl) =>
    mApp 3 1 8 #[.int .i64 (0 : Int)] x41 x45 fun (x46 : Sl) =>
    mBind (N_delta_List_Advance y8 (IntKind.i64.wrap ((IntKind.i64.wrap a1) + (IntKind.i64.wrap b2)))) fun r54 =>
    unL r54 fun (x54 : Sl) =>
    mBind (N_signalboxlaw04_same x46 x54) fun r55 =>
    unB r55 fun (x55 : Bool) =>
    mBind (mIf x55 (mBind (N_delta_List_Keys x7) fun r58 =>
      unL r58 fun (x58 : Sl) =>
      mBind (N_delta_List_Keys y8) fun r60 =>
      unL r60 fun (x60 : Sl) =>
      mBind (N_signalboxlaw04_same x58 x60) fun r61 =>
      unB r61 fun (x61 : Bool) =>
      mRet x61) (mRet false)) fun (b26 : Bool) =>
    mBind (mIf b26 (mBind (N_delta_List_Gaps x7) fun r65 =>
      unL r65 fun (x65 : Sl) =>
      mBind (N_delta_List_Gaps y8) fun r67 =>
      unL r67 fun (x67 : Sl) =>
      mBind (N_signalboxlaw04_same x65 x67) fun r68 =>
      unB r68 fun (x68 : Bool) =>
      mRet x68) (mRet false)) fun (b30 : Bool) =>
    mRet (.bool b30))
theorem E_signalboxlaw04_DeltaParts (acts0 : Sl) (a1 : Int) (b2 : Int) : ev Try.prog 5 Try.f5.results.toList C_signalboxlaw04_DeltaParts D_signalboxlaw04_DeltaParts 400 false [.code (bodyOf Try.f5)] (List.map some [.slice acts0.p acts0.n acts0.c, .int .u16 a1, .int .u16 b2] ++ List.replicate (Try.f5.ntmps - List.length ([.slice acts0.p acts0.n acts0.c, .int .u16 a1, .int .u16 b2] : List Value)) none) = B_signalboxlaw04_DeltaParts acts0 a1 b2 := by kernel_rfl
theorem S_signalboxlaw04_DeltaParts (acts0 : Sl) (a1 : Int) (b2 : Int) {h : Hp} {Q : Value → Hp → Prop} (hb : B_signalboxlaw04_DeltaParts acts0 a1 b2 h Q) : N_signalboxlaw04_DeltaParts acts0 a1 b2 h Q :=
  Nf.of_ev Try.call5 Try.func5 (c := bodyOf Try.f5) rfl mixed C_signalboxlaw04_DeltaParts D_signalboxlaw04_DeltaParts 400 (args := [.slice acts0.p acts0.n acts0.c, .int .u16 a1, .int .u16 b2]) (by rw [E_signalboxlaw04_DeltaParts]; exact hb)
theorem E_signalboxlaw04_DeltaParts_7 (a1 : Int) (b2 : Int) (x7 : Option Addr) (y8 : Option Addr) (t19 : Sl) (t20 : Int) (t21 : Int) : ev Try.prog 5 Try.f5.results.toList C_signalboxlaw04_DeltaParts D_signalboxlaw04_DeltaParts 400 true (todoOf Try.f5 7) (T_signalboxlaw04_DeltaParts_7 a1 b2 x7 y8 t19 t20 t21) = B_signalboxlaw04_DeltaParts_7 a1 b2 x7 y8 t19 t20 t21 := by kernel_rfl
theorem S_signalboxlaw04_DeltaParts_7 (a1 : Int) (b2 : Int) (x7 : Option Addr) (y8 : Option Addr) (t19 : Sl) (t20 : Int) (t21 : Int) {h : Hp} {Q : Value → Hp → Prop} (hb : B_signalboxlaw04_DeltaParts_7 a1 b2 x7 y8 t19 t20 t21 h Q) : K_signalboxlaw04_DeltaParts_7 a1 b2 x7 y8 t19 t20 t21 h Q :=
  Cut.of_ev Try.func5 mixed C_signalboxlaw04_DeltaParts D_signalboxlaw04_DeltaParts 400 (by rw [E_signalboxlaw04_DeltaParts_7]; exact hb)
def C_signalboxlaw04_DeltaPlays : List (Nat × List Nat) := [(8, [1, 5, 6, 28, 29, 30]), (19, [1, 5, 6, 8, 10, 28, 29, 30]), (30, [1, 5, 6, 8, 11, 28, 29, 30]), (35, [1, 5, 6, 12, 13, 14, 28, 29, 30, 102, 103, 104])]
def D_signalboxlaw04_DeltaPlays : List (Nat × List Nat) := [(37, [])]
def T_signalboxlaw04_DeltaPlays_8 (key1 : Int) (l5 : Option Addr) (r6 : Sl) (t28 : Sl) (t29 : Int) (t30 : Int) : Env := mkEnv [(1, .int .i64 key1), (5, .pointer l5), (6, .slice r6.p r6.n r6.c), (28, .slice t28.p t28.n t28.c), (29, .int .i64 t29), (30, .int .i64 t30)] 184 0
def K_signalboxlaw04_DeltaPlays_8 (key1 : Int) (l5 : Option Addr) (r6 : Sl) (t28 : Sl) (t29 : Int) (t30 : Int) : M Value := Cut Try.prog 6 (todoOf Try.f6 8) (T_signalboxlaw04_DeltaPlays_8 key1 l5 r6 t28 t29 t30)
def T_signalboxlaw04_DeltaPlays_19 (key1 : Int) (l5 : Option Addr) (r6 : Sl) (a8 : Addr) (want10 : Int) (t28 : Sl) (t29 : Int) (t30 : Int) : Env := mkEnv [(1, .int .i64 key1), (5, .pointer l5), (6, .slice r6.p r6.n r6.c), (8, .pointer (some a8)), (10, .int .i64 want10), (28, .slice t28.p t28.n t28.c), (29, .int .i64 t29), (30, .int .i64 t30)] 184 0
def K_signalboxlaw04_DeltaPlays_19 (key1 : Int) (l5 : Option Addr) (r6 : Sl) (a8 : Addr) (want10 : Int) (t28 : Sl) (t29 : Int) (t30 : Int) : M Value := Cut Try.prog 6 (todoOf Try.f6 19) (T_signalboxlaw04_DeltaPlays_19 key1 l5 r6 a8 want10 t28 t29 t30)
def T_signalboxlaw04_DeltaPlays_30 (key1 : Int) (l5 : Option Addr) (r6 : Sl) (a8 : Addr) (due11 : Sl) (t28 : Sl) (t29 : Int) (t30 : Int) : Env := mkEnv [(1, .int .i64 key1), (5, .pointer l5), (6, .slice r6.p r6.n r6.c), (8, .pointer (some a8)), (11, .slice due11.p due11.n due11.c), (28, .slice t28.p t28.n t28.c), (29, .int .i64 t29), (30, .int .i64 t30)] 184 0
def K_signalboxlaw04_DeltaPlays_30 (key1 : Int) (l5 : Option Addr) (r6 : Sl) (a8 : Addr) (due11 : Sl) (t28 : Sl) (t29 : Int) (t30 : Int) : M Value := Cut Try.prog 6 (todoOf Try.f6 30) (T_signalboxlaw04_DeltaPlays_30 key1 l5 r6 a8 due11 t28 t29 t30)
def T_signalboxlaw04_DeltaPlays_35 (key1 : Int) (l5 : Option Addr) (r6 : Sl) (keys12 : Sl) (gaps13 : Sl) (was14 : Int) (t28 : Sl) (t29 : Int) (t30 : Int) (t102 : Sl) (t103 : Int) (t104 : Int) : Env := mkEnv [(1, .int .i64 key1), (5, .pointer l5), (6, .slice r6.p r6.n r6.c), (12, .slice keys12.p keys12.n keys12.c), (13, .slice gaps13.p gaps13.n gaps13.c), (14, .int .i64 was14), (28, .slice t28.p t28.n t28.c), (29, .int .i64 t29), (30, .int .i64 t30), (102, .slice t102.p t102.n t102.c), (103, .int .i64 t103), (104, .int .i64 t104)] 184 0
def K_signalboxlaw04_DeltaPlays_35 (key1 : Int) (l5 : Option Addr) (r6 : Sl) (keys12 : Sl) (gaps13 : Sl) (was14 : Int) (t28 : Sl) (t29 : Int) (t30 : Int) (t102 : Sl) (t103 : Int) (t104 : Int) : M Value := Cut Try.prog 6 (todoOf Try.f6 35) (T_signalboxlaw04_DeltaPlays_35 key1 l5 r6 keys12 gaps13 was14 t28 t29 t30 t102 t103 t104)
def B_signalboxlaw04_DeltaPlays (acts0 : Sl) (key1 : Int) : M Value :=
  mBind (N_signalboxlaw04_fixed) fun r22 =>
  unB r22 fun (x22 : Bool) =>
  mIf (!x22) (
    mRet (.bool false)) (
    mIf (decide ((acts0.n : Int) > (150 : Int))) (
      mRet (.bool true)) (
      mBind (N_delta_New) fun r27 =>
      unP r27 fun (x27 : Option Addr) =>
      K_signalboxlaw04_DeltaPlays_8 key1 x27 (Sl.mk none 0 0) acts0 (acts0.n : Int) (0 : Int)))
def B_signalboxlaw04_DeltaPlays_8 (key1 : Int) (l5 : Option Addr) (r6 : Sl) (t28 : Sl) (t29 : Int) (t30 : Int) : M Value :=
  mIf (decide (t30 < t29)) (
    mIdx t28 t30 3 fun (x32 : Addr) =>
    mLdI .u8 x32 fun (x33_0 : Int) =>
    mLdI .i64 (x32.add 1) fun (x33_1 : Int) =>
    mLdI .i64 (x32.add 2) fun (x33_2 : Int) =>
    mNew #[.int .u8 (0 : Int), .int .i64 (0 : Int), .int .i64 (0 : Int)] 39 fun (x8 : Addr) =>
    mSt x8 (.int .u8 x33_0) <|
    mSt (x8.add 1) (.int .i64 x33_1) <|
    mSt (x8.add 2) (.int .i64 x33_2) <|
    mLdI .i64 (x8.add 1) fun (x36 : Int) =>
    mBind (N_signalboxref04_List_Find r6 x36) fun r37 =>
    unI .i64 r37 fun (x37 : Int) =>
    mLdI .u8 x8 fun (x39 : Int) =>
    mGuard ((3 : Int) ≠ 0) <|
    mIf ((Int.tmod x39 (3 : Int)) == (0 : Int)) (
      mLdI .i64 (x8.add 2) fun (x51 : Int) =>
      mBind (mIf (decide (x51 < (0 : Int))) (mRet true) (mLdI .i64 (x8.add 2) fun (x55 : Int) =>
        mRet (decide (x55 > (16777216 : Int))))) fun (b17 : Bool) =>
      mIf b17 (
        K_signalboxlaw04_DeltaPlays_19 key1 l5 r6 x8 (5 : Int) t28 t29 t30) (
        mIf (decide (x37 ≥ (0 : Int))) (
          K_signalboxlaw04_DeltaPlays_19 key1 l5 r6 x8 (10 : Int) t28 t29 t30) (
          mLdI .i64 (x8.add 1) fun (x45 : Int) =>
          mLdI .i64 (x8.add 2) fun (x47 : Int) =>
          mBind (N_signalboxref04_List_Put r6 x45 x47) fun r48 =>
          unL r48 fun (x48 : Sl) =>
          K_signalboxlaw04_DeltaPlays_19 key1 l5 x48 x8 (0 : Int) t28 t29 t30))) (
      mIf ((Int.tmod x39 (3 : Int)) == (1 : Int)) (
        mLdI .i64 (x8.add 1) fun (x73 : Int) =>
        mBind (N_delta_List_Drop l5 x73) fun r74 =>
        unB r74 fun (x74 : Bool) =>
        mIf (!(x74 == (decide (x37 ≥ (0 : Int))))) (
          mRet (.bool false)) (
          mIf (decide (x37 ≥ (0 : Int))) (
            mBind (N_signalboxref04_List_Drop r6 x37) fun r82 =>
            unL r82 fun (x82 : Sl) =>
            K_signalboxlaw04_DeltaPlays_35 key1 l5 x82 (Sl.mk none 0 0) (Sl.mk none 0 0) (0 : Int) t28 t29 t30 x82 (x82.n : Int) (0 : Int)) (
            K_signalboxlaw04_DeltaPlays_35 key1 l5 r6 (Sl.mk none 0 0) (Sl.mk none 0 0) (0 : Int) t28 t29 t30 r6 (r6.n : Int) (0 : Int)))) (
        mIf ((Int.tmod x39 (3 : Int)) == (2 : Int)) (
          mLdI .i64 (x8.add 2) fun (x86 : Int) =>
          mIf (decide (x86 ≥ (0 : Int))) (
            mLdI .i64 (x8.add 2) fun (x91 : Int) =>
            mBind (N_signalboxref04_List_Advance r6 x91) fun r92 =>
            un2 unL unL r92 fun (x92_0 : Sl) (x92_1 : Sl) =>
            K_signalboxlaw04_DeltaPlays_30 key1 l5 x92_0 x8 x92_1 t28 t29 t30) (
            K_signalboxlaw04_DeltaPlays_30 key1 l5 r6 x8 (Sl.mk none 0 0) t28 t29 t30)) (
          K_signalboxlaw04_DeltaPlays_35 key1 l5 r6 (Sl.mk none 0 0) (Sl.mk none 0 0) (0 : Int) t28 t29 t30 r6 (r6.n : Int) (0 : Int))))) (
    mRet (.bool true))
def B_signalboxlaw04_DeltaPlays_19 (key1 : Int) (l5 : Option Addr) (r6 : Sl) (a8 : Addr) (want10 : Int) (t28 : Sl) (t29 : Int) (t30 : Int) : M Value :=
  mLdI .i64 (a8.add 1) fun (x63 : Int) =>
  mLdI .i64 (a8.add 2) fun (x65 : Int) =>
  mBind (N_delta_List_Put l5 x63 x65) fun r66 =>
  unI .i64 r66 fun (x66 : Int) =>
  mIf (x66 != want10) (
    mRet (.bool false)) (
    K_signalboxlaw04_DeltaPlays_35 key1 l5 r6 (Sl.mk none 0 0) (Sl.mk none 0 0) (0 : Int) t28 t29 t30 r6 (r6.n : Int) (0 : Int))
def B_signalboxlaw04_DeltaPlays_30 (key1 : Int) (l5 : Option Addr) (r6 : Sl) (a8 : Addr) (due11 : Sl) (t28 : Sl) (t29 : Int) (t30 : Int) : M Value :=
  mLdI .i64 (a8.add 2) fun (x97 : Int) =>
  mBind (N_delta_List_Advance l5 x97) fun r98 =>
  unL r98 fun (x98 : Sl) =>
  mBind (N_signalboxlaw04_same x98 due11) fun r100 =>
  unB r100 fun (x100 : Bool) =>
  mIf (!x100) (
    mRet (.bool false)) (
    K_signalboxlaw04_DeltaPlays_35 key1 l5 r6 (Sl.mk none 0 0) (Sl.mk none 0 0) (0 : Int) t28 t29 t30 r6 (r6.n : Int) (0 : Int))
def B_signalboxlaw04_DeltaPlays_35 (key1 : Int) (l5 : Option Addr) (r6 : Sl) (keys12 : Sl) (gaps13 : Sl) (was14 : Int) (t28 : Sl) (t29 : Int) (t30 : Int) (t102 : Sl) (t103 : Int) (t104 : Int) : M Value :=
  mIf (decide (t104 < t103)) (
    mIdx t102 t104 2 fun (x106 : Addr) =>
    mLdI .i64 x106 fun (x107_0 : Int) =>
    mLdI .i64 (x106.add 1) fun (x107_1 : Int) =>
    mNew #[.int .i64 (0 : Int), .int .i64 (0 : Int)] 55 fun (x16 : Addr) =>
    mSt x16 (.int .i64 x107_0) <|
    mSt (x16.add 1) (.int .i64 x107_1) <|
    mAnd (
      mLdI .i64 x16 fun (x110_69 : Int) =>
      mAnd (
        mNew #[.int .i64 x110_69] 3 fun (x111_88 : Addr) =>
        mAnd (
          mApp 3 1 8 #[.int .i64 (0 : Int)] keys12 ⟨(some x111_88), 1, 1⟩ fun (x112_100 : Sl) =>
          mLdI .i64 (x16.add 1) fun (x115_101 : Int) =>
          mNew #[.int .i64 (IntKind.i64.wrap (x115_101 - was14))] 3 fun (x118_102 : Addr) =>
          mApp 3 1 8 #[.int .i64 (0 : Int)] gaps13 ⟨(some x118_102), 1, 1⟩ fun (x119_103 : Sl) =>
          mLdI .i64 (x16.add 1) fun (x121_105 : Int) =>
          K_signalboxlaw04_DeltaPlays_35 key1 l5 r6 x112_100 x119_103 x121_105 t28 t29 t30 t102 t103 (IntKind.i64.wrap (t104 + (1 : Int)))) (
          mLdI .i64 (x16.add 1) fun (x115_89 : Int) =>
          mAnd (
            mApp 3 1 8 #[.int .i64 (0 : Int)] keys12 ⟨(some x111_88), 1, 1⟩ fun (x112_95 : Sl) =>
            mNew #[.int .i64 (IntKind.i64.wrap (x115_89 - was14))] 3 fun (x118_96 : Addr) =>
            mApp 3 1 8 #[.int .i64 (0 : Int)] gaps13 ⟨(some x118_96), 1, 1⟩ fun (x119_97 : Sl) =>
            mLdI .i64 (x16.add 1) fun (x121_99 : Int) =>
            K_signalboxlaw04_DeltaPlays_35 key1 l5 r6 x112_95 x119_97 x121_99 t28 t29 t30 t102 t103 (IntKind.i64.wrap (t104 + (1 : Int)))) (
            mNew #[.int .i64 (IntKind.i64.wrap (x115_89 - was14))] 3 fun (x118_90 : Addr) =>
            mApp 3 1 8 #[.int .i64 (0 : Int)] keys12 ⟨(some x111_88), 1, 1⟩ fun (x112_91 : Sl) =>
            mApp 3 1 8 #[.int .i64 (0 : Int)] gaps13 ⟨(some x118_90), 1, 1⟩ fun (x119_92 : Sl) =>
            mLdI .i64 (x16.add 1) fun (x121_94 : Int) =>
            K_signalboxlaw04_DeltaPlays_35 key1 l5 r6 x112_91 x119_92 x121_94 t28 t29 t30 t102 t103 (IntKind.i64.wrap (t104 + (1 : Int)))))) (
        mLdI .i64 (x16.add 1) fun (x115_70 : Int) =>
        mAnd (
          mNew #[.int .i64 x110_69] 3 fun (x111_77 : Addr) =>
          mAnd (
            mApp 3 1 8 #[.int .i64 (0 : Int)] keys12 ⟨(some x111_77), 1, 1⟩ fun (x112_83 : Sl) =>
            mNew #[.int .i64 (IntKind.i64.wrap (x115_70 - was14))] 3 fun (x118_84 : Addr) =>
            mApp 3 1 8 #[.int .i64 (0 : Int)] gaps13 ⟨(some x118_84), 1, 1⟩ fun (x119_85 : Sl) =>
            mLdI .i64 (x16.add 1) fun (x121_87 : Int) =>
            K_signalboxlaw04_DeltaPlays_35 key1 l5 r6 x112_83 x119_85 x121_87 t28 t29 t30 t102 t103 (IntKind.i64.wrap (t104 + (1 : Int)))) (
            mNew #[.int .i64 (IntKind.i64.wrap (x115_70 - was14))] 3 fun (x118_78 : Addr) =>
            mApp 3 1 8 #[.int .i64 (0 : Int)] keys12 ⟨(some x111_77), 1, 1⟩ fun (x112_79 : Sl) =>
            mApp 3 1 8 #[.int .i64 (0 : Int)] gaps13 ⟨(some x118_78), 1, 1⟩ fun (x119_80 : Sl) =>
            mLdI .i64 (x16.add 1) fun (x121_82 : Int) =>
            K_signalboxlaw04_DeltaPlays_35 key1 l5 r6 x112_79 x119_80 x121_82 t28 t29 t30 t102 t103 (IntKind.i64.wrap (t104 + (1 : Int))))) (
          mNew #[.int .i64 (IntKind.i64.wrap (x115_70 - was14))] 3 fun (x118_71 : Addr) =>
          mNew #[.int .i64 x110_69] 3 fun (x111_72 : Addr) =>
          mApp 3 1 8 #[.int .i64 (0 : Int)] keys12 ⟨(some x111_72), 1, 1⟩ fun (x112_73 : Sl) =>
          mApp 3 1 8 #[.int .i64 (0 : Int)] gaps13 ⟨(some x118_71), 1, 1⟩ fun (x119_74 : Sl) =>
          mLdI .i64 (x16.add 1) fun (x121_76 : Int) =>
          K_signalboxlaw04_DeltaPlays_35 key1 l5 r6 x112_73 x119_74 x121_76 t28 t29 t30 t102 t103 (IntKind.i64.wrap (t104 + (1 : Int)))))) (
      mLdI .i64 (x16.add 1) fun (x115 : Int) =>
      mAnd (
        mLdI .i64 x16 fun (x110_51 : Int) =>
        mAnd (
          mNew #[.int .i64 x110_51] 3 fun (x111_58 : Addr) =>
          mAnd (
            mApp 3 1 8 #[.int .i64 (0 : Int)] keys12 ⟨(some x111_58), 1, 1⟩ fun (x112_64 : Sl) =>
            mNew #[.int .i64 (IntKind.i64.wrap (x115 - was14))] 3 fun (x118_65 : Addr) =>
            mApp 3 1 8 #[.int .i64 (0 : Int)] gaps13 ⟨(some x118_65), 1, 1⟩ fun (x119_66 : Sl) =>
            mLdI .i64 (x16.add 1) fun (x121_68 : Int) =>
            K_signalboxlaw04_DeltaPlays_35 key1 l5 r6 x112_64 x119_66 x121_68 t28 t29 t30 t102 t103 (IntKind.i64.wrap (t104 + (1 : Int)))) (
            mNew #[.int .i64 (IntKind.i64.wrap (x115 - was14))] 3 fun (x118_59 : Addr) =>
            mApp 3 1 8 #[.int .i64 (0 : Int)] keys12 ⟨(some x111_58), 1, 1⟩ fun (x112_60 : Sl) =>
            mApp 3 1 8 #[.int .i64 (0 : Int)] gaps13 ⟨(some x118_59), 1, 1⟩ fun (x119_61 : Sl) =>
            mLdI .i64 (x16.add 1) fun (x121_63 : Int) =>
            K_signalboxlaw04_DeltaPlays_35 key1 l5 r6 x112_60 x119_61 x121_63 t28 t29 t30 t102 t103 (IntKind.i64.wrap (t104 + (1 : Int))))) (
          mNew #[.int .i64 (IntKind.i64.wrap (x115 - was14))] 3 fun (x118_52 : Addr) =>
          mNew #[.int .i64 x110_51] 3 fun (x111_53 : Addr) =>
          mApp 3 1 8 #[.int .i64 (0 : Int)] keys12 ⟨(some x111_53), 1, 1⟩ fun (x112_54 : Sl) =>
          mApp 3 1 8 #[.int .i64 (0 : Int)] gaps13 ⟨(some x118_52), 1, 1⟩ fun (x119_55 : Sl) =>
          mLdI .i64 (x16.add 1) fun (x121_57 : Int) =>
          K_signalboxlaw04_DeltaPlays_35 key1 l5 r6 x112_54 x119_55 x121_57 t28 t29 t30 t102 t103 (IntKind.i64.wrap (t104 + (1 : Int))))) (
        mNew #[.int .i64 (IntKind.i64.wrap (x115 - was14))] 3 fun (x118 : Addr) =>
        mLdI .i64 x16 fun (x110 : Int) =>
        mNew #[.int .i64 x110] 3 fun (x111 : Addr) =>
        mApp 3 1 8 #[.int .i64 (0 : Int)] keys12 ⟨(some x111), 1, 1⟩ fun (x112 : Sl) =>
        mApp 3 1 8 #[.int .i64 (0 : Int)] gaps13 ⟨(some x118), 1, 1⟩ fun (x119 : Sl) =>
        mLdI .i64 (x16.add 1) fun (x121 : Int) =>
        K_signalboxlaw04_DeltaPlays_35 key1 l5 r6 x112 x119 x121 t28 t29 t30 t102 t103 (IntKind.i64.wrap (t104 + (1 : Int)))))) (
    mBind (N_delta_List_Next l5) fun r125 =>
    un2 (unI .i64) unB r125 fun (x125_0 : Int) (x125_1 : Bool) =>
    mBind (N_delta_List_Keys l5) fun r129 =>
    unL r129 fun (x129 : Sl) =>
    mBind (N_signalboxlaw04_same x129 keys12) fun r131 =>
    unB r131 fun (x131 : Bool) =>
    mBind (mIf (!x131) (mRet true) (mBind (N_delta_List_Gaps l5) fun r135 =>
      unL r135 fun (x135 : Sl) =>
      mBind (N_signalboxlaw04_same x135 gaps13) fun r137 =>
      unB r137 fun (x137 : Bool) =>
      mRet (!x137))) fun (b111 : Bool) =>
    mBind (mIf (b111 || (!(x125_1 == (decide ((r6.n : Int) > (0 : Int)))))) (mRet true) (mBind (mIf x125_1 (mIdx r6 (0 : Int) 2 fun (x152 : Addr) =>
      mLdI .i64 (x152.add 1) fun (x154 : Int) =>
      mRet (x125_0 != x154)) (mRet false)) fun (b115 : Bool) =>
      mRet b115)) fun (b116 : Bool) =>
    mIf b116 (
      mRet (.bool false)) (
      mBind (N_delta_List_Due l5 key1) fun r161 =>
      un2 (unI .i64) unB r161 fun (x161_0 : Int) (x161_1 : Bool) =>
      mBind (N_signalboxref04_List_Find r6 key1) fun r166 =>
      unI .i64 r166 fun (x166 : Int) =>
      mBind (mIf (!(x161_1 == (decide (x166 ≥ (0 : Int))))) (mRet true) (mBind (mIf x161_1 (mIdx r6 x166 2 fun (x177 : Addr) =>
        mLdI .i64 (x177.add 1) fun (x179 : Int) =>
        mRet (x161_0 != x179)) (mRet false)) fun (b122 : Bool) =>
        mRet b122)) fun (b123 : Bool) =>
      mIf b123 (
        mRet (.bool false)) (
        K_signalboxlaw04_DeltaPlays_8 key1 l5 r6 t28 t29 (IntKind.i64.wrap (t30 + (1 : Int))))))
theorem E_signalboxlaw04_DeltaPlays (acts0 : Sl) (key1 : Int) : ev Try.prog 6 Try.f6.results.toList C_signalboxlaw04_DeltaPlays D_signalboxlaw04_DeltaPlays 400 false [.code (bodyOf Try.f6)] (List.map some [.slice acts0.p acts0.n acts0.c, .int .i64 key1] ++ List.replicate (Try.f6.ntmps - List.length ([.slice acts0.p acts0.n acts0.c, .int .i64 key1] : List Value)) none) = B_signalboxlaw04_DeltaPlays acts0 key1 := by kernel_rfl
theorem S_signalboxlaw04_DeltaPlays (acts0 : Sl) (key1 : Int) {h : Hp} {Q : Value → Hp → Prop} (hb : B_signalboxlaw04_DeltaPlays acts0 key1 h Q) : N_signalboxlaw04_DeltaPlays acts0 key1 h Q :=
  Nf.of_ev Try.call6 Try.func6 (c := bodyOf Try.f6) rfl mixed C_signalboxlaw04_DeltaPlays D_signalboxlaw04_DeltaPlays 400 (args := [.slice acts0.p acts0.n acts0.c, .int .i64 key1]) (by rw [E_signalboxlaw04_DeltaPlays]; exact hb)
theorem E_signalboxlaw04_DeltaPlays_8 (key1 : Int) (l5 : Option Addr) (r6 : Sl) (t28 : Sl) (t29 : Int) (t30 : Int) : ev Try.prog 6 Try.f6.results.toList C_signalboxlaw04_DeltaPlays D_signalboxlaw04_DeltaPlays 400 true (todoOf Try.f6 8) (T_signalboxlaw04_DeltaPlays_8 key1 l5 r6 t28 t29 t30) = B_signalboxlaw04_DeltaPlays_8 key1 l5 r6 t28 t29 t30 := by kernel_rfl
theorem S_signalboxlaw04_DeltaPlays_8 (key1 : Int) (l5 : Option Addr) (r6 : Sl) (t28 : Sl) (t29 : Int) (t30 : Int) {h : Hp} {Q : Value → Hp → Prop} (hb : B_signalboxlaw04_DeltaPlays_8 key1 l5 r6 t28 t29 t30 h Q) : K_signalboxlaw04_DeltaPlays_8 key1 l5 r6 t28 t29 t30 h Q :=
  Cut.of_ev Try.func6 mixed C_signalboxlaw04_DeltaPlays D_signalboxlaw04_DeltaPlays 400 (by rw [E_signalboxlaw04_DeltaPlays_8]; exact hb)
theorem E_signalboxlaw04_DeltaPlays_19 (key1 : Int) (l5 : Option Addr) (r6 : Sl) (a8 : Addr) (want10 : Int) (t28 : Sl) (t29 : Int) (t30 : Int) : ev Try.prog 6 Try.f6.results.toList C_signalboxlaw04_DeltaPlays D_signalboxlaw04_DeltaPlays 400 true (todoOf Try.f6 19) (T_signalboxlaw04_DeltaPlays_19 key1 l5 r6 a8 want10 t28 t29 t30) = B_signalboxlaw04_DeltaPlays_19 key1 l5 r6 a8 want10 t28 t29 t30 := by kernel_rfl
theorem S_signalboxlaw04_DeltaPlays_19 (key1 : Int) (l5 : Option Addr) (r6 : Sl) (a8 : Addr) (want10 : Int) (t28 : Sl) (t29 : Int) (t30 : Int) {h : Hp} {Q : Value → Hp → Prop} (hb : B_signalboxlaw04_DeltaPlays_19 key1 l5 r6 a8 want10 t28 t29 t30 h Q) : K_signalboxlaw04_DeltaPlays_19 key1 l5 r6 a8 want10 t28 t29 t30 h Q :=
  Cut.of_ev Try.func6 mixed C_signalboxlaw04_DeltaPlays D_signalboxlaw04_DeltaPlays 400 (by rw [E_signalboxlaw04_DeltaPlays_19]; exact hb)
theorem E_signalboxlaw04_DeltaPlays_30 (key1 : Int) (l5 : Option Addr) (r6 : Sl) (a8 : Addr) (due11 : Sl) (t28 : Sl) (t29 : Int) (t30 : Int) : ev Try.prog 6 Try.f6.results.toList C_signalboxlaw04_DeltaPlays D_signalboxlaw04_DeltaPlays 400 true (todoOf Try.f6 30) (T_signalboxlaw04_DeltaPlays_30 key1 l5 r6 a8 due11 t28 t29 t30) = B_signalboxlaw04_DeltaPlays_30 key1 l5 r6 a8 due11 t28 t29 t30 := by kernel_rfl
theorem S_signalboxlaw04_DeltaPlays_30 (key1 : Int) (l5 : Option Addr) (r6 : Sl) (a8 : Addr) (due11 : Sl) (t28 : Sl) (t29 : Int) (t30 : Int) {h : Hp} {Q : Value → Hp → Prop} (hb : B_signalboxlaw04_DeltaPlays_30 key1 l5 r6 a8 due11 t28 t29 t30 h Q) : K_signalboxlaw04_DeltaPlays_30 key1 l5 r6 a8 due11 t28 t29 t30 h Q :=
  Cut.of_ev Try.func6 mixed C_signalboxlaw04_DeltaPlays D_signalboxlaw04_DeltaPlays 400 (by rw [E_signalboxlaw04_DeltaPlays_30]; exact hb)
theorem E_signalboxlaw04_DeltaPlays_35 (key1 : Int) (l5 : Option Addr) (r6 : Sl) (keys12 : Sl) (gaps13 : Sl) (was14 : Int) (t28 : Sl) (t29 : Int) (t30 : Int) (t102 : Sl) (t103 : Int) (t104 : Int) : ev Try.prog 6 Try.f6.results.toList C_signalboxlaw04_DeltaPlays D_signalboxlaw04_DeltaPlays 400 true (todoOf Try.f6 35) (T_signalboxlaw04_DeltaPlays_35 key1 l5 r6 keys12 gaps13 was14 t28 t29 t30 t102 t103 t104) = B_signalboxlaw04_DeltaPlays_35 key1 l5 r6 keys12 gaps13 was14 t28 t29 t30 t102 t103 t104 := by kernel_rfl
theorem S_signalboxlaw04_DeltaPlays_35 (key1 : Int) (l5 : Option Addr) (r6 : Sl) (keys12 : Sl) (gaps13 : Sl) (was14 : Int) (t28 : Sl) (t29 : Int) (t30 : Int) (t102 : Sl) (t103 : Int) (t104 : Int) {h : Hp} {Q : Value → Hp → Prop} (hb : B_signalboxlaw04_DeltaPlays_35 key1 l5 r6 keys12 gaps13 was14 t28 t29 t30 t102 t103 t104 h Q) : K_signalboxlaw04_DeltaPlays_35 key1 l5 r6 keys12 gaps13 was14 t28 t29 t30 t102 t103 t104 h Q :=
  Cut.of_ev Try.func6 mixed C_signalboxlaw04_DeltaPlays D_signalboxlaw04_DeltaPlays 400 (by rw [E_signalboxlaw04_DeltaPlays_35]; exact hb)
end Go.Proofs.Ytinjifhjjkdmoaa
