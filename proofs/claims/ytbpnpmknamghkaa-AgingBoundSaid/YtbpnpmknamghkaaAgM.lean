/- What the functions of this layer come to, as forms of the small logic; written by program. Conditions: none. -/
import Derived.Test.YtbpnpmknamghkaaSbU
import Derived.Test.YtbpnpmknamghkaaChecked
import Derived.KernelRfl
set_option maxRecDepth 100000
namespace Go.Proofs.Ytbpnpmknamghkaa
open Go Go.Sb
theorem mixed : Try.prog.follows .mixedOrders = true := by kernel_rfl
def N_signalboxlaw51_fixed : M Value := Nf Try.prog 27 #[]
def N_aging_New (step0 : Int) : M Value := Nf Try.prog 28 #[.int .i64 step0]
def N_aging_Line_Join (l0 : Option Addr) (who1 : Int) (base2 : Int) : M Value := Nf Try.prog 29 #[.pointer l0, .int .i64 who1, .int .i64 base2]
def N_aging_Line_Bound (l0 : Option Addr) (who1 : Int) : M Value := Nf Try.prog 30 #[.pointer l0, .int .i64 who1]
def N_aging_Line_Turn (l0 : Option Addr) : M Value := Nf Try.prog 31 #[.pointer l0]
def N_aging_Line_Leave (l0 : Option Addr) (who1 : Int) : M Value := Nf Try.prog 32 #[.pointer l0, .int .i64 who1]
def N_aging_Line_All (l0 : Option Addr) : M Value := Nf Try.prog 33 #[.pointer l0]
def N_aging_Line_Priority (l0 : Option Addr) (who1 : Int) : M Value := Nf Try.prog 34 #[.pointer l0, .int .i64 who1]
def N_aging_Line_find (l0 : Option Addr) (who1 : Int) : M Value := Nf Try.prog 65 #[.pointer l0, .int .i64 who1]
def N_aging_Line_before (l0 : Option Addr) (a1_0 : Int) (a1_1 : Int) (a1_2 : Int) (b2_0 : Int) (b2_1 : Int) (b2_2 : Int) : M Value := Nf Try.prog 66 #[.pointer l0, .agg #[.int .i64 a1_0, .int .i64 a1_1, .int .i64 a1_2], .agg #[.int .i64 b2_0, .int .i64 b2_1, .int .i64 b2_2]]
def N_aging_Line_drop (l0 : Option Addr) (at1 : Int) : M Value := Nf Try.prog 67 #[.pointer l0, .int .i64 at1]
def N_aging_Line_priority (l0 : Option Addr) (p1_0 : Int) (p1_1 : Int) (p1_2 : Int) : M Value := Nf Try.prog 68 #[.pointer l0, .agg #[.int .i64 p1_0, .int .i64 p1_1, .int .i64 p1_2]]
def N_slices_IndexFunc_aging_party_aging_party (s0 : Sl) (f1g : Nat) (f1f : Array Value) (f1c : Array Value) : M Value := Nf Try.prog 80 #[.slice s0.p s0.n s0.c, .func (.func f1g) f1f f1c]
def N_aging_Line_find_1 (p0_0 : Int) (p0_1 : Int) (p0_2 : Int) (fv1 : Option Addr) : M Value := Nf Try.prog 81 #[.agg #[.int .i64 p0_0, .int .i64 p0_1, .int .i64 p0_2], .pointer fv1]
def N_slices_Delete_aging_party_aging_party (s0 : Sl) (i1 : Int) (j2 : Int) : M Value := Nf Try.prog 82 #[.slice s0.p s0.n s0.c, .int .i64 i1, .int .i64 j2]
def N_signalboxlaw51_AgingBound (step0 : Int) (first1 : Sl) (base2 : Int) (joins3 : Sl) : M Value := Nf Try.prog 7 #[.int .u8 step0, .slice first1.p first1.n first1.c, .int .u8 base2, .slice joins3.p joins3.n joins3.c]
def N_signalboxlaw51_AgingPlays (step0 : Int) (l1 : Sl) : M Value := Nf Try.prog 8 #[.int .i64 step0, .slice l1.p l1.n l1.c]
def C_signalboxlaw51_fixed : List (Nat × List Nat) := []
def D_signalboxlaw51_fixed : List (Nat × List Nat) := []
def B_signalboxlaw51_fixed : M Value :=
  mBind (N_aging_New (1 : Int)) fun r10 =>
  unP r10 fun (x10 : Option Addr) =>
  mBind (N_aging_Line_Join x10 (7 : Int) (0 : Int)) fun r12 =>
  unI .i64 r12 fun (x12 : Int) =>
  mBind (N_aging_Line_Join x10 (8 : Int) (2 : Int)) fun r14 =>
  unI .i64 r14 fun (x14 : Int) =>
  mBind (N_aging_Line_Turn x10) fun r17 =>
  un2 (unI .i64) unB r17 fun (x17_0 : Int) (x17_1 : Bool) =>
  mBind (N_aging_Line_Priority x10 (7 : Int)) fun r22 =>
  un2 (unI .i64) unB r22 fun (x22_0 : Int) (x22_1 : Bool) =>
  mBind (N_aging_Line_Bound x10 (7 : Int)) fun r27 =>
  un2 (unI .i64) unB r27 fun (x27_0 : Int) (x27_1 : Bool) =>
  mBind (mIf ((((((((x12 == (0 : Int)) && (x14 == (0 : Int))) && x17_1) && (x17_0 == (8 : Int))) && x22_1) && (x22_0 == (1 : Int))) && x27_1) && (x27_0 == (64 : Int))) (mBind (N_aging_Line_Join x10 (7 : Int) (1 : Int)) fun r59 =>
    unI .i64 r59 fun (x59 : Int) =>
    mRet (x59 == (10 : Int))) (mRet false)) fun (b8 : Bool) =>
  mBind (mIf b8 (mBind (N_aging_Line_Join x10 (9 : Int) (64 : Int)) fun r64 =>
    unI .i64 r64 fun (x64 : Int) =>
    mRet (x64 == (5 : Int))) (mRet false)) fun (b10 : Bool) =>
  mBind (mIf b10 (mBind (N_aging_Line_Leave x10 (7 : Int)) fun r69 =>
    unB r69 fun (x69 : Bool) =>
    mRet x69) (mRet false)) fun (b12 : Bool) =>
  mBind (mIf b12 (mBind (N_aging_Line_Leave x10 (7 : Int)) fun r73 =>
    unB r73 fun (x73 : Bool) =>
    mRet (!x73)) (mRet false)) fun (b14 : Bool) =>
  mBind (mIf b14 (mBind (N_aging_New (0 : Int)) fun r77 =>
    unP r77 fun (x77 : Option Addr) =>
    mRet x77.isNone) (mRet false)) fun (b16 : Bool) =>
  mRet (.bool b16)
theorem E_signalboxlaw51_fixed : ev Try.prog 27 Try.f27.results.toList C_signalboxlaw51_fixed D_signalboxlaw51_fixed 400 false [.code (bodyOf Try.f27)] (List.map some [] ++ List.replicate (Try.f27.ntmps - List.length ([] : List Value)) none) = B_signalboxlaw51_fixed := by kernel_rfl
theorem S_signalboxlaw51_fixed {h : Hp} {Q : Value → Hp → Prop} (hb : B_signalboxlaw51_fixed h Q) : N_signalboxlaw51_fixed h Q :=
  Nf.of_ev Try.call27 Try.func27 (c := bodyOf Try.f27) rfl mixed C_signalboxlaw51_fixed D_signalboxlaw51_fixed 400 (args := []) (by rw [E_signalboxlaw51_fixed]; exact hb)
def C_aging_New : List (Nat × List Nat) := []
def D_aging_New : List (Nat × List Nat) := []
def B_aging_New (step0 : Int) : M Value :=
  mIf ((decide (step0 < (1 : Int))) || (decide (step0 > (1024 : Int)))) (
    mRet (.pointer none)) (
    mNew #[.int .i64 step0, .slice none (0) (0)] 103 fun (x11 : Addr) =>
    mRet (.pointer (some x11)))
theorem E_aging_New (step0 : Int) : ev Try.prog 28 Try.f28.results.toList C_aging_New D_aging_New 400 false [.code (bodyOf Try.f28)] (List.map some [.int .i64 step0] ++ List.replicate (Try.f28.ntmps - List.length ([.int .i64 step0] : List Value)) none) = B_aging_New step0 := by kernel_rfl
theorem S_aging_New (step0 : Int) {h : Hp} {Q : Value → Hp → Prop} (hb : B_aging_New step0 h Q) : N_aging_New step0 h Q :=
  Nf.of_ev Try.call28 Try.func28 (c := bodyOf Try.f28) rfl mixed C_aging_New D_aging_New 400 (args := [.int .i64 step0]) (by rw [E_aging_New]; exact hb)
def C_aging_Line_Join : List (Nat × List Nat) := []
def D_aging_Line_Join : List (Nat × List Nat) := []
def B_aging_Line_Join (l0 : Option Addr) (who1 : Int) (base2 : Int) : M Value :=
  mIf l0.isNone (
    mRet (.int .i64 (1 : Int))) (
    mIf ((decide (base2 < (0 : Int))) || (decide (base2 > (63 : Int)))) (
      mRet (.int .i64 (5 : Int))) (
      mBind (N_aging_Line_find l0 who1) fun r20 =>
      unI .i64 r20 fun (x20 : Int) =>
      mIf (decide (x20 ≥ (0 : Int))) (
        mRet (.int .i64 (10 : Int))) (
        mNil l0 fun (a3 : Addr) =>
        mLdL (a3.add 1) fun (x26 : Sl) =>
        mIf (decide ((x26.n : Int) ≥ (256 : Int))) (
          mRet (.int .i64 (7 : Int))) (
          mNil l0 fun (a7 : Addr) =>
          mLdL (a7.add 1) fun (x33 : Sl) =>
          mNew #[.int .i64 who1, .int .i64 base2, .int .i64 (0 : Int)] 105 fun (x37 : Addr) =>
          mApp 105 3 24 #[.int .i64 (0 : Int), .int .i64 (0 : Int), .int .i64 (0 : Int)] x33 ⟨(some x37), 1, 1⟩ fun (x38 : Sl) =>
          mNil l0 fun (a13 : Addr) =>
          mSt (a13.add 1) (.slice x38.p x38.n x38.c) <|
          mRet (.int .i64 (0 : Int))))))
theorem E_aging_Line_Join (l0 : Option Addr) (who1 : Int) (base2 : Int) : ev Try.prog 29 Try.f29.results.toList C_aging_Line_Join D_aging_Line_Join 400 false [.code (bodyOf Try.f29)] (List.map some [.pointer l0, .int .i64 who1, .int .i64 base2] ++ List.replicate (Try.f29.ntmps - List.length ([.pointer l0, .int .i64 who1, .int .i64 base2] : List Value)) none) = B_aging_Line_Join l0 who1 base2 := by kernel_rfl
theorem S_aging_Line_Join (l0 : Option Addr) (who1 : Int) (base2 : Int) {h : Hp} {Q : Value → Hp → Prop} (hb : B_aging_Line_Join l0 who1 base2 h Q) : N_aging_Line_Join l0 who1 base2 h Q :=
  Nf.of_ev Try.call29 Try.func29 (c := bodyOf Try.f29) rfl mixed C_aging_Line_Join D_aging_Line_Join 400 (args := [.pointer l0, .int .i64 who1, .int .i64 base2]) (by rw [E_aging_Line_Join]; exact hb)
def C_aging_Line_Bound : List (Nat × List Nat) := []
def D_aging_Line_Bound : List (Nat × List Nat) := []
def B_aging_Line_Bound (l0 : Option Addr) (who1 : Int) : M Value :=
  mBind (N_aging_Line_Priority l0 who1) fun r11 =>
  un2 (unI .i64) unB r11 fun (x11_0 : Int) (x11_1 : Bool) =>
  mIf (!x11_1) (
    mRet (.tuple #[.int .i64 (0 : Int), .bool false])) (
    mNil l0 fun (a3 : Addr) =>
    mLdI .i64 a3 fun (x22 : Int) =>
    mNil l0 fun (a7 : Addr) =>
    mLdL (a7.add 1) fun (x27 : Sl) =>
    mRet (.tuple #[.int .i64 (IntKind.i64.wrap ((IntKind.i64.wrap ((if (0 : Int) > (IntKind.i64.wrap ((64 : Int) - x11_0)) then (0 : Int) else (IntKind.i64.wrap ((64 : Int) - x11_0))) * x22)) + (x27.n : Int))), .bool true]))
theorem E_aging_Line_Bound (l0 : Option Addr) (who1 : Int) : ev Try.prog 30 Try.f30.results.toList C_aging_Line_Bound D_aging_Line_Bound 400 false [.code (bodyOf Try.f30)] (List.map some [.pointer l0, .int .i64 who1] ++ List.replicate (Try.f30.ntmps - List.length ([.pointer l0, .int .i64 who1] : List Value)) none) = B_aging_Line_Bound l0 who1 := by kernel_rfl
theorem S_aging_Line_Bound (l0 : Option Addr) (who1 : Int) {h : Hp} {Q : Value → Hp → Prop} (hb : B_aging_Line_Bound l0 who1 h Q) : N_aging_Line_Bound l0 who1 h Q :=
  Nf.of_ev Try.call30 Try.func30 (c := bodyOf Try.f30) rfl mixed C_aging_Line_Bound D_aging_Line_Bound 400 (args := [.pointer l0, .int .i64 who1]) (by rw [E_aging_Line_Bound]; exact hb)
def C_aging_Line_Turn : List (Nat × List Nat) := [(5, [0, 4, 22, 23, 24]), (12, [0, 7, 48, 49])]
def D_aging_Line_Turn : List (Nat × List Nat) := [(7, [])]
def T_aging_Line_Turn_5 (l0 : Option Addr) (best4 : Int) (t22 : Sl) (t23 : Int) (t24 : Int) : Env := mkEnv [(0, .pointer l0), (4, .int .i64 best4), (22, .slice t22.p t22.n t22.c), (23, .int .i64 t23), (24, .int .i64 t24)] 66 0
def K_aging_Line_Turn_5 (l0 : Option Addr) (best4 : Int) (t22 : Sl) (t23 : Int) (t24 : Int) : M Value := Cut Try.prog 31 (todoOf Try.f31 5) (T_aging_Line_Turn_5 l0 best4 t22 t23 t24)
def T_aging_Line_Turn_12 (l0 : Option Addr) (p7 : Addr) (t48 : Int) (t49 : Int) : Env := mkEnv [(0, .pointer l0), (7, .pointer (some p7)), (48, .int .i64 t48), (49, .int .i64 t49)] 66 0
def K_aging_Line_Turn_12 (l0 : Option Addr) (p7 : Addr) (t48 : Int) (t49 : Int) : M Value := Cut Try.prog 31 (todoOf Try.f31 12) (T_aging_Line_Turn_12 l0 p7 t48 t49)
def B_aging_Line_Turn (l0 : Option Addr) : M Value :=
  mBind (mIf l0.isNone (mRet true) (mNil l0 fun (a2 : Addr) =>
    mLdL (a2.add 1) fun (x15 : Sl) =>
    mRet ((x15.n : Int) == (0 : Int)))) fun (b5 : Bool) =>
  mIf b5 (
    mRet (.tuple #[.int .i64 (0 : Int), .bool false])) (
    mNil l0 fun (a7 : Addr) =>
    mLdL (a7.add 1) fun (x22 : Sl) =>
    K_aging_Line_Turn_5 l0 (0 : Int) x22 (x22.n : Int) (0 : Int))
def B_aging_Line_Turn_5 (l0 : Option Addr) (best4 : Int) (t22 : Sl) (t23 : Int) (t24 : Int) : M Value :=
  mIf (decide (t24 < t23)) (
    mIdx t22 t24 3 fun (x27 : Addr) =>
    mLdI .i64 x27 fun (x28_0 : Int) =>
    mLdI .i64 (x27.add 1) fun (x28_1 : Int) =>
    mLdI .i64 (x27.add 2) fun (x28_2 : Int) =>
    mNew #[.int .i64 (0 : Int), .int .i64 (0 : Int), .int .i64 (0 : Int)] 105 fun (x6 : Addr) =>
    mSt x6 (.int .i64 x28_0) <|
    mSt (x6.add 1) (.int .i64 x28_1) <|
    mSt (x6.add 2) (.int .i64 x28_2) <|
    mNil l0 fun (a15 : Addr) =>
    mAnd (
      mLdI .i64 x6 fun (x30_25_0 : Int) =>
      mLdI .i64 (x6.add 1) fun (x30_25_1 : Int) =>
      mLdI .i64 (x6.add 2) fun (x30_25_2 : Int) =>
      mLdL (a15.add 1) fun (x34_26 : Sl) =>
      mIdx x34_26 best4 3 fun (x36_27 : Addr) =>
      mLdI .i64 x36_27 fun (x37_28_0 : Int) =>
      mLdI .i64 (x36_27.add 1) fun (x37_28_1 : Int) =>
      mLdI .i64 (x36_27.add 2) fun (x37_28_2 : Int) =>
      mBind (N_aging_Line_before l0 x30_25_0 x30_25_1 x30_25_2 x37_28_0 x37_28_1 x37_28_2) fun r38_29 =>
      unB r38_29 fun (x38_29 : Bool) =>
      mIf x38_29 (
        K_aging_Line_Turn_5 l0 t24 t22 t23 (IntKind.i64.wrap (t24 + (1 : Int)))) (
        K_aging_Line_Turn_5 l0 best4 t22 t23 (IntKind.i64.wrap (t24 + (1 : Int))))) (
      mLdL (a15.add 1) fun (x34 : Sl) =>
      mIdx x34 best4 3 fun (x36 : Addr) =>
      mAnd (
        mLdI .i64 x6 fun (x30_22_0 : Int) =>
        mLdI .i64 (x6.add 1) fun (x30_22_1 : Int) =>
        mLdI .i64 (x6.add 2) fun (x30_22_2 : Int) =>
        mLdI .i64 x36 fun (x37_23_0 : Int) =>
        mLdI .i64 (x36.add 1) fun (x37_23_1 : Int) =>
        mLdI .i64 (x36.add 2) fun (x37_23_2 : Int) =>
        mBind (N_aging_Line_before l0 x30_22_0 x30_22_1 x30_22_2 x37_23_0 x37_23_1 x37_23_2) fun r38_24 =>
        unB r38_24 fun (x38_24 : Bool) =>
        mIf x38_24 (
          K_aging_Line_Turn_5 l0 t24 t22 t23 (IntKind.i64.wrap (t24 + (1 : Int)))) (
          K_aging_Line_Turn_5 l0 best4 t22 t23 (IntKind.i64.wrap (t24 + (1 : Int))))) (
        mLdI .i64 x36 fun (x37_0 : Int) =>
        mLdI .i64 (x36.add 1) fun (x37_1 : Int) =>
        mLdI .i64 (x36.add 2) fun (x37_2 : Int) =>
        mLdI .i64 x6 fun (x30_0 : Int) =>
        mLdI .i64 (x6.add 1) fun (x30_1 : Int) =>
        mLdI .i64 (x6.add 2) fun (x30_2 : Int) =>
        mBind (N_aging_Line_before l0 x30_0 x30_1 x30_2 x37_0 x37_1 x37_2) fun r38 =>
        unB r38 fun (x38 : Bool) =>
        mIf x38 (
          K_aging_Line_Turn_5 l0 t24 t22 t23 (IntKind.i64.wrap (t24 + (1 : Int)))) (
          K_aging_Line_Turn_5 l0 best4 t22 t23 (IntKind.i64.wrap (t24 + (1 : Int))))))) (
    mBind (N_aging_Line_drop l0 best4) fun r43 =>
    unA r43 fun x43l =>
    unC x43l fun x43v0 x43l0 =>
    unI .i64 x43v0 fun (x43_0 : Int) =>
    unC x43l0 fun x43v1 x43l1 =>
    unI .i64 x43v1 fun (x43_1 : Int) =>
    unC x43l1 fun x43v2 x43l2 =>
    unI .i64 x43v2 fun (x43_2 : Int) =>
    unE x43l2 <|
    mNew #[.int .i64 (0 : Int), .int .i64 (0 : Int), .int .i64 (0 : Int)] 105 fun (x7 : Addr) =>
    mSt x7 (.int .i64 x43_0) <|
    mSt (x7.add 1) (.int .i64 x43_1) <|
    mSt (x7.add 2) (.int .i64 x43_2) <|
    mNil l0 fun (a34 : Addr) =>
    mLdL (a34.add 1) fun (x47 : Sl) =>
    K_aging_Line_Turn_12 l0 x7 (x47.n : Int) (0 : Int))
def B_aging_Line_Turn_12 (l0 : Option Addr) (p7 : Addr) (t48 : Int) (t49 : Int) : M Value :=
  mIf (decide (t49 < t48)) (
    mNil l0 fun (a38 : Addr) =>
    mLdL (a38.add 1) fun (x55 : Sl) =>
    mIdx x55 t49 3 fun (x57 : Addr) =>
    mLdI .i64 (x57.add 2) fun (x59 : Int) =>
    mIdx x55 t49 3 fun (x61 : Addr) =>
    mSt (x61.add 2) (.int .i64 (IntKind.i64.wrap (x59 + (1 : Int)))) <|
    K_aging_Line_Turn_12 l0 p7 t48 (IntKind.i64.wrap (t49 + (1 : Int)))) (
    mLdI .i64 p7 fun (x65 : Int) =>
    mRet (.tuple #[.int .i64 x65, .bool true]))
theorem E_aging_Line_Turn (l0 : Option Addr) : ev Try.prog 31 Try.f31.results.toList C_aging_Line_Turn D_aging_Line_Turn 400 false [.code (bodyOf Try.f31)] (List.map some [.pointer l0] ++ List.replicate (Try.f31.ntmps - List.length ([.pointer l0] : List Value)) none) = B_aging_Line_Turn l0 := by kernel_rfl
theorem S_aging_Line_Turn (l0 : Option Addr) {h : Hp} {Q : Value → Hp → Prop} (hb : B_aging_Line_Turn l0 h Q) : N_aging_Line_Turn l0 h Q :=
  Nf.of_ev Try.call31 Try.func31 (c := bodyOf Try.f31) rfl mixed C_aging_Line_Turn D_aging_Line_Turn 400 (args := [.pointer l0]) (by rw [E_aging_Line_Turn]; exact hb)
theorem E_aging_Line_Turn_5 (l0 : Option Addr) (best4 : Int) (t22 : Sl) (t23 : Int) (t24 : Int) : ev Try.prog 31 Try.f31.results.toList C_aging_Line_Turn D_aging_Line_Turn 400 true (todoOf Try.f31 5) (T_aging_Line_Turn_5 l0 best4 t22 t23 t24) = B_aging_Line_Turn_5 l0 best4 t22 t23 t24 := by kernel_rfl
theorem S_aging_Line_Turn_5 (l0 : Option Addr) (best4 : Int) (t22 : Sl) (t23 : Int) (t24 : Int) {h : Hp} {Q : Value → Hp → Prop} (hb : B_aging_Line_Turn_5 l0 best4 t22 t23 t24 h Q) : K_aging_Line_Turn_5 l0 best4 t22 t23 t24 h Q :=
  Cut.of_ev Try.func31 mixed C_aging_Line_Turn D_aging_Line_Turn 400 (by rw [E_aging_Line_Turn_5]; exact hb)
theorem E_aging_Line_Turn_12 (l0 : Option Addr) (p7 : Addr) (t48 : Int) (t49 : Int) : ev Try.prog 31 Try.f31.results.toList C_aging_Line_Turn D_aging_Line_Turn 400 true (todoOf Try.f31 12) (T_aging_Line_Turn_12 l0 p7 t48 t49) = B_aging_Line_Turn_12 l0 p7 t48 t49 := by kernel_rfl
theorem S_aging_Line_Turn_12 (l0 : Option Addr) (p7 : Addr) (t48 : Int) (t49 : Int) {h : Hp} {Q : Value → Hp → Prop} (hb : B_aging_Line_Turn_12 l0 p7 t48 t49 h Q) : K_aging_Line_Turn_12 l0 p7 t48 t49 h Q :=
  Cut.of_ev Try.func31 mixed C_aging_Line_Turn D_aging_Line_Turn 400 (by rw [E_aging_Line_Turn_12]; exact hb)
def C_aging_Line_Leave : List (Nat × List Nat) := []
def D_aging_Line_Leave : List (Nat × List Nat) := []
def B_aging_Line_Leave (l0 : Option Addr) (who1 : Int) : M Value :=
  mBind (N_aging_Line_find l0 who1) fun r8 =>
  unI .i64 r8 fun (x8 : Int) =>
  mIf (decide (x8 < (0 : Int))) (
    mRet (.bool false)) (
    mBind (N_aging_Line_drop l0 x8) fun r13 =>
    unA r13 fun x13l =>
    unC x13l fun x13v0 x13l0 =>
    unI .i64 x13v0 fun (_x13_0 : Int) =>
    unC x13l0 fun x13v1 x13l1 =>
    unI .i64 x13v1 fun (_x13_1 : Int) =>
    unC x13l1 fun x13v2 x13l2 =>
    unI .i64 x13v2 fun (_x13_2 : Int) =>
    unE x13l2 <|
    mRet (.bool true))
theorem E_aging_Line_Leave (l0 : Option Addr) (who1 : Int) : ev Try.prog 32 Try.f32.results.toList C_aging_Line_Leave D_aging_Line_Leave 400 false [.code (bodyOf Try.f32)] (List.map some [.pointer l0, .int .i64 who1] ++ List.replicate (Try.f32.ntmps - List.length ([.pointer l0, .int .i64 who1] : List Value)) none) = B_aging_Line_Leave l0 who1 := by kernel_rfl
theorem S_aging_Line_Leave (l0 : Option Addr) (who1 : Int) {h : Hp} {Q : Value → Hp → Prop} (hb : B_aging_Line_Leave l0 who1 h Q) : N_aging_Line_Leave l0 who1 h Q :=
  Nf.of_ev Try.call32 Try.func32 (c := bodyOf Try.f32) rfl mixed C_aging_Line_Leave D_aging_Line_Leave 400 (args := [.pointer l0, .int .i64 who1]) (by rw [E_aging_Line_Leave]; exact hb)
def C_aging_Line_All : List (Nat × List Nat) := [(4, [3, 11, 12, 13])]
def D_aging_Line_All : List (Nat × List Nat) := []
def T_aging_Line_All_4 (out3 : Sl) (t11 : Sl) (t12 : Int) (t13 : Int) : Env := mkEnv [(3, .slice out3.p out3.n out3.c), (11, .slice t11.p t11.n t11.c), (12, .int .i64 t12), (13, .int .i64 t13)] 24 0
def K_aging_Line_All_4 (out3 : Sl) (t11 : Sl) (t12 : Int) (t13 : Int) : M Value := Cut Try.prog 33 (todoOf Try.f33 4) (T_aging_Line_All_4 out3 t11 t12 t13)
def B_aging_Line_All (l0 : Option Addr) : M Value :=
  mIf (!l0.isNone) (
    mNil l0 fun (a2 : Addr) =>
    mLdL (a2.add 1) fun (x11 : Sl) =>
    K_aging_Line_All_4 (Sl.mk none 0 0) x11 (x11.n : Int) (0 : Int)) (
    mRet (.slice none (0) (0)))
def B_aging_Line_All_4 (out3 : Sl) (t11 : Sl) (t12 : Int) (t13 : Int) : M Value :=
  mIf (decide (t13 < t12)) (
    mIdx t11 t13 3 fun (x15 : Addr) =>
    mLdI .i64 x15 fun (x16_0 : Int) =>
    mLdI .i64 (x15.add 1) fun (x16_1 : Int) =>
    mLdI .i64 (x15.add 2) fun (x16_2 : Int) =>
    mNew #[.int .i64 (0 : Int), .int .i64 (0 : Int), .int .i64 (0 : Int)] 105 fun (x5 : Addr) =>
    mSt x5 (.int .i64 x16_0) <|
    mSt (x5.add 1) (.int .i64 x16_1) <|
    mSt (x5.add 2) (.int .i64 x16_2) <|
    mLdI .i64 x5 fun (x19 : Int) =>
    mNew #[.int .i64 x19] 3 fun (x20 : Addr) =>
    mApp 3 1 8 #[.int .i64 (0 : Int)] out3 ⟨(some x20), 1, 1⟩ fun (x21 : Sl) =>
    K_aging_Line_All_4 x21 t11 t12 (IntKind.i64.wrap (t13 + (1 : Int)))) (
    mRet (.slice out3.p out3.n out3.c))
theorem E_aging_Line_All (l0 : Option Addr) : ev Try.prog 33 Try.f33.results.toList C_aging_Line_All D_aging_Line_All 400 false [.code (bodyOf Try.f33)] (List.map some [.pointer l0] ++ List.replicate (Try.f33.ntmps - List.length ([.pointer l0] : List Value)) none) = B_aging_Line_All l0 := by kernel_rfl
theorem S_aging_Line_All (l0 : Option Addr) {h : Hp} {Q : Value → Hp → Prop} (hb : B_aging_Line_All l0 h Q) : N_aging_Line_All l0 h Q :=
  Nf.of_ev Try.call33 Try.func33 (c := bodyOf Try.f33) rfl mixed C_aging_Line_All D_aging_Line_All 400 (args := [.pointer l0]) (by rw [E_aging_Line_All]; exact hb)
theorem E_aging_Line_All_4 (out3 : Sl) (t11 : Sl) (t12 : Int) (t13 : Int) : ev Try.prog 33 Try.f33.results.toList C_aging_Line_All D_aging_Line_All 400 true (todoOf Try.f33 4) (T_aging_Line_All_4 out3 t11 t12 t13) = B_aging_Line_All_4 out3 t11 t12 t13 := by kernel_rfl
theorem S_aging_Line_All_4 (out3 : Sl) (t11 : Sl) (t12 : Int) (t13 : Int) {h : Hp} {Q : Value → Hp → Prop} (hb : B_aging_Line_All_4 out3 t11 t12 t13 h Q) : K_aging_Line_All_4 out3 t11 t12 t13 h Q :=
  Cut.of_ev Try.func33 mixed C_aging_Line_All D_aging_Line_All 400 (by rw [E_aging_Line_All_4]; exact hb)
def C_aging_Line_Priority : List (Nat × List Nat) := []
def D_aging_Line_Priority : List (Nat × List Nat) := []
def B_aging_Line_Priority (l0 : Option Addr) (who1 : Int) : M Value :=
  mBind (N_aging_Line_find l0 who1) fun r9 =>
  unI .i64 r9 fun (x9 : Int) =>
  mIf (decide (x9 < (0 : Int))) (
    mRet (.tuple #[.int .i64 (0 : Int), .bool false])) (
    mNil l0 fun (a3 : Addr) =>
    mLdL (a3.add 1) fun (x16 : Sl) =>
    mIdx x16 x9 3 fun (x18 : Addr) =>
    mLdI .i64 x18 fun (x19_0 : Int) =>
    mLdI .i64 (x18.add 1) fun (x19_1 : Int) =>
    mLdI .i64 (x18.add 2) fun (x19_2 : Int) =>
    mBind (N_aging_Line_priority l0 x19_0 x19_1 x19_2) fun r20 =>
    unI .i64 r20 fun (x20 : Int) =>
    mRet (.tuple #[.int .i64 x20, .bool true]))
theorem E_aging_Line_Priority (l0 : Option Addr) (who1 : Int) : ev Try.prog 34 Try.f34.results.toList C_aging_Line_Priority D_aging_Line_Priority 400 false [.code (bodyOf Try.f34)] (List.map some [.pointer l0, .int .i64 who1] ++ List.replicate (Try.f34.ntmps - List.length ([.pointer l0, .int .i64 who1] : List Value)) none) = B_aging_Line_Priority l0 who1 := by kernel_rfl
theorem S_aging_Line_Priority (l0 : Option Addr) (who1 : Int) {h : Hp} {Q : Value → Hp → Prop} (hb : B_aging_Line_Priority l0 who1 h Q) : N_aging_Line_Priority l0 who1 h Q :=
  Nf.of_ev Try.call34 Try.func34 (c := bodyOf Try.f34) rfl mixed C_aging_Line_Priority D_aging_Line_Priority 400 (args := [.pointer l0, .int .i64 who1]) (by rw [E_aging_Line_Priority]; exact hb)
def C_aging_Line_find : List (Nat × List Nat) := []
def D_aging_Line_find : List (Nat × List Nat) := []
def B_aging_Line_find (l0 : Option Addr) (who1 : Int) : M Value :=
  mNew #[.int .i64 who1] 3 fun (x3 : Addr) =>
  mIf l0.isNone (
    mRet (.int .i64 (-1 : Int))) (
    mNil l0 fun (a3 : Addr) =>
    mLdL (a3.add 1) fun (x10 : Sl) =>
    mBind (N_slices_IndexFunc_aging_party_aging_party x10 (81) (#[]) (#[.pointer (some x3)])) fun r12 =>
    unI .i64 r12 fun (x12 : Int) =>
    mRet (.int .i64 x12))
theorem E_aging_Line_find (l0 : Option Addr) (who1 : Int) : ev Try.prog 65 Try.f65.results.toList C_aging_Line_find D_aging_Line_find 400 false [.code (bodyOf Try.f65)] (List.map some [.pointer l0, .int .i64 who1] ++ List.replicate (Try.f65.ntmps - List.length ([.pointer l0, .int .i64 who1] : List Value)) none) = B_aging_Line_find l0 who1 := by kernel_rfl
theorem S_aging_Line_find (l0 : Option Addr) (who1 : Int) {h : Hp} {Q : Value → Hp → Prop} (hb : B_aging_Line_find l0 who1 h Q) : N_aging_Line_find l0 who1 h Q :=
  Nf.of_ev Try.call65 Try.func65 (c := bodyOf Try.f65) rfl mixed C_aging_Line_find D_aging_Line_find 400 (args := [.pointer l0, .int .i64 who1]) (by rw [E_aging_Line_find]; exact hb)
def C_aging_Line_before : List (Nat × List Nat) := [(2, [4, 5, 7, 8])]
def D_aging_Line_before : List (Nat × List Nat) := [(1, [])]
def T_aging_Line_before_2 (a4 : Addr) (b5 : Addr) (x7 : Int) (y8 : Int) : Env := mkEnv [(4, .pointer (some a4)), (5, .pointer (some b5)), (7, .int .i64 x7), (8, .int .i64 y8)] 30 0
def K_aging_Line_before_2 (a4 : Addr) (b5 : Addr) (x7 : Int) (y8 : Int) : M Value := Cut Try.prog 66 (todoOf Try.f66 2) (T_aging_Line_before_2 a4 b5 x7 y8)
def B_aging_Line_before (l0 : Option Addr) (a1_0 : Int) (a1_1 : Int) (a1_2 : Int) (b2_0 : Int) (b2_1 : Int) (b2_2 : Int) : M Value :=
  mNew #[.int .i64 a1_0, .int .i64 a1_1, .int .i64 a1_2] 105 fun (x4 : Addr) =>
  mNew #[.int .i64 b2_0, .int .i64 b2_1, .int .i64 b2_2] 105 fun (x5 : Addr) =>
  mAnd (
    mLdI .i64 x4 fun (x10_7_0 : Int) =>
    mLdI .i64 (x4.add 1) fun (x10_7_1 : Int) =>
    mLdI .i64 (x4.add 2) fun (x10_7_2 : Int) =>
    mAnd (
      mBind (N_aging_Line_priority l0 x10_7_0 x10_7_1 x10_7_2) fun r11_11 =>
      unI .i64 r11_11 fun (x11_11 : Int) =>
      mLdI .i64 x5 fun (x13_12_0 : Int) =>
      mLdI .i64 (x5.add 1) fun (x13_12_1 : Int) =>
      mLdI .i64 (x5.add 2) fun (x13_12_2 : Int) =>
      mBind (N_aging_Line_priority l0 x13_12_0 x13_12_1 x13_12_2) fun r14_13 =>
      unI .i64 r14_13 fun (x14_13 : Int) =>
      K_aging_Line_before_2 x4 x5 x11_11 x14_13) (
      mLdI .i64 x5 fun (x13_8_0 : Int) =>
      mLdI .i64 (x5.add 1) fun (x13_8_1 : Int) =>
      mLdI .i64 (x5.add 2) fun (x13_8_2 : Int) =>
      mBind (N_aging_Line_priority l0 x10_7_0 x10_7_1 x10_7_2) fun r11_9 =>
      unI .i64 r11_9 fun (x11_9 : Int) =>
      mBind (N_aging_Line_priority l0 x13_8_0 x13_8_1 x13_8_2) fun r14_10 =>
      unI .i64 r14_10 fun (x14_10 : Int) =>
      K_aging_Line_before_2 x4 x5 x11_9 x14_10)) (
    mLdI .i64 x5 fun (x13_0 : Int) =>
    mLdI .i64 (x5.add 1) fun (x13_1 : Int) =>
    mLdI .i64 (x5.add 2) fun (x13_2 : Int) =>
    mLdI .i64 x4 fun (x10_0 : Int) =>
    mLdI .i64 (x4.add 1) fun (x10_1 : Int) =>
    mLdI .i64 (x4.add 2) fun (x10_2 : Int) =>
    mBind (N_aging_Line_priority l0 x10_0 x10_1 x10_2) fun r11 =>
    unI .i64 r11 fun (x11 : Int) =>
    mBind (N_aging_Line_priority l0 x13_0 x13_1 x13_2) fun r14 =>
    unI .i64 r14 fun (x14 : Int) =>
    K_aging_Line_before_2 x4 x5 x11 x14)
def B_aging_Line_before_2 (a4 : Addr) (b5 : Addr) (x7 : Int) (y8 : Int) : M Value :=
  mBind (mIf (decide (x7 > y8)) (mRet true) (mBind (mIf (x7 == y8) (mLdI .i64 (a4.add 2) fun (x24 : Int) =>
    mLdI .i64 (b5.add 2) fun (x26 : Int) =>
    mRet (decide (x24 > x26))) (mRet false)) fun (b18 : Bool) =>
    mRet b18)) fun (b19 : Bool) =>
  mRet (.bool b19)
theorem E_aging_Line_before (l0 : Option Addr) (a1_0 : Int) (a1_1 : Int) (a1_2 : Int) (b2_0 : Int) (b2_1 : Int) (b2_2 : Int) : ev Try.prog 66 Try.f66.results.toList C_aging_Line_before D_aging_Line_before 400 false [.code (bodyOf Try.f66)] (List.map some [.pointer l0, .agg #[.int .i64 a1_0, .int .i64 a1_1, .int .i64 a1_2], .agg #[.int .i64 b2_0, .int .i64 b2_1, .int .i64 b2_2]] ++ List.replicate (Try.f66.ntmps - List.length ([.pointer l0, .agg #[.int .i64 a1_0, .int .i64 a1_1, .int .i64 a1_2], .agg #[.int .i64 b2_0, .int .i64 b2_1, .int .i64 b2_2]] : List Value)) none) = B_aging_Line_before l0 a1_0 a1_1 a1_2 b2_0 b2_1 b2_2 := by kernel_rfl
theorem S_aging_Line_before (l0 : Option Addr) (a1_0 : Int) (a1_1 : Int) (a1_2 : Int) (b2_0 : Int) (b2_1 : Int) (b2_2 : Int) {h : Hp} {Q : Value → Hp → Prop} (hb : B_aging_Line_before l0 a1_0 a1_1 a1_2 b2_0 b2_1 b2_2 h Q) : N_aging_Line_before l0 a1_0 a1_1 a1_2 b2_0 b2_1 b2_2 h Q :=
  Nf.of_ev Try.call66 Try.func66 (c := bodyOf Try.f66) rfl mixed C_aging_Line_before D_aging_Line_before 400 (args := [.pointer l0, .agg #[.int .i64 a1_0, .int .i64 a1_1, .int .i64 a1_2], .agg #[.int .i64 b2_0, .int .i64 b2_1, .int .i64 b2_2]]) (by rw [E_aging_Line_before]; exact hb)
theorem E_aging_Line_before_2 (a4 : Addr) (b5 : Addr) (x7 : Int) (y8 : Int) : ev Try.prog 66 Try.f66.results.toList C_aging_Line_before D_aging_Line_before 400 true (todoOf Try.f66 2) (T_aging_Line_before_2 a4 b5 x7 y8) = B_aging_Line_before_2 a4 b5 x7 y8 := by kernel_rfl
theorem S_aging_Line_before_2 (a4 : Addr) (b5 : Addr) (x7 : Int) (y8 : Int) {h : Hp} {Q : Value → Hp → Prop} (hb : B_aging_Line_before_2 a4 b5 x7 y8 h Q) : K_aging_Line_before_2 a4 b5 x7 y8 h Q :=
  Cut.of_ev Try.func66 mixed C_aging_Line_before D_aging_Line_before 400 (by rw [E_aging_Line_before_2]; exact hb)
def C_aging_Line_drop : List (Nat × List Nat) := []
def D_aging_Line_drop : List (Nat × List Nat) := []
def B_aging_Line_drop (l0 : Option Addr) (at1 : Int) : M Value :=
  mNew #[.int .i64 (0 : Int), .int .i64 (0 : Int), .int .i64 (0 : Int)] 105 fun (x4 : Addr) =>
  mNil l0 fun (a3 : Addr) =>
  mLdL (a3.add 1) fun (x9 : Sl) =>
  mIdx x9 at1 3 fun (x11 : Addr) =>
  mLdI .i64 x11 fun (x12_0 : Int) =>
  mLdI .i64 (x11.add 1) fun (x12_1 : Int) =>
  mLdI .i64 (x11.add 2) fun (x12_2 : Int) =>
  mNew #[.int .i64 (0 : Int), .int .i64 (0 : Int), .int .i64 (0 : Int)] 105 fun (x5 : Addr) =>
  mSt x5 (.int .i64 x12_0) <|
  mSt (x5.add 1) (.int .i64 x12_1) <|
  mSt (x5.add 2) (.int .i64 x12_2) <|
  mNil l0 fun (a11 : Addr) =>
  mLdL (a11.add 1) fun (x17 : Sl) =>
  mBind (N_slices_Delete_aging_party_aging_party x17 at1 (IntKind.i64.wrap (at1 + (1 : Int)))) fun r21 =>
  unL r21 fun (x21 : Sl) =>
  mNil l0 fun (a16 : Addr) =>
  mSt (a16.add 1) (.slice x21.p x21.n x21.c) <|
  mLdI .i64 x5 fun (x24_0 : Int) =>
  mLdI .i64 (x5.add 1) fun (x24_1 : Int) =>
  mLdI .i64 (x5.add 2) fun (x24_2 : Int) =>
  mSt x4 (.int .i64 x24_0) <|
  mSt (x4.add 1) (.int .i64 x24_1) <|
  mSt (x4.add 2) (.int .i64 x24_2) <|
  mLdI .i64 x4 fun (q21_0 : Int) =>
  mLdI .i64 (x4.add 1) fun (q21_1 : Int) =>
  mLdI .i64 (x4.add 2) fun (q21_2 : Int) =>
  mRet (.agg #[.int .i64 q21_0, .int .i64 q21_1, .int .i64 q21_2])
theorem E_aging_Line_drop (l0 : Option Addr) (at1 : Int) : ev Try.prog 67 Try.f67.results.toList C_aging_Line_drop D_aging_Line_drop 400 false [.code (bodyOf Try.f67)] (List.map some [.pointer l0, .int .i64 at1] ++ List.replicate (Try.f67.ntmps - List.length ([.pointer l0, .int .i64 at1] : List Value)) none) = B_aging_Line_drop l0 at1 := by kernel_rfl
theorem S_aging_Line_drop (l0 : Option Addr) (at1 : Int) {h : Hp} {Q : Value → Hp → Prop} (hb : B_aging_Line_drop l0 at1 h Q) : N_aging_Line_drop l0 at1 h Q :=
  Nf.of_ev Try.call67 Try.func67 (c := bodyOf Try.f67) rfl mixed C_aging_Line_drop D_aging_Line_drop 400 (args := [.pointer l0, .int .i64 at1]) (by rw [E_aging_Line_drop]; exact hb)
def C_aging_Line_priority : List (Nat × List Nat) := []
def D_aging_Line_priority : List (Nat × List Nat) := []
def B_aging_Line_priority (l0 : Option Addr) (p1_0 : Int) (p1_1 : Int) (p1_2 : Int) : M Value :=
  mNew #[.int .i64 p1_0, .int .i64 p1_1, .int .i64 p1_2] 105 fun (x3 : Addr) =>
  mLdI .i64 (x3.add 1) fun (x6 : Int) =>
  mLdI .i64 (x3.add 2) fun (x8 : Int) =>
  mNil l0 fun (a7 : Addr) =>
  mLdI .i64 a7 fun (x12 : Int) =>
  mGuard (x12 ≠ 0) <|
  mRet (.int .i64 (IntKind.i64.wrap (x6 + (IntKind.i64.wrap (Int.tdiv x8 x12)))))
theorem E_aging_Line_priority (l0 : Option Addr) (p1_0 : Int) (p1_1 : Int) (p1_2 : Int) : ev Try.prog 68 Try.f68.results.toList C_aging_Line_priority D_aging_Line_priority 400 false [.code (bodyOf Try.f68)] (List.map some [.pointer l0, .agg #[.int .i64 p1_0, .int .i64 p1_1, .int .i64 p1_2]] ++ List.replicate (Try.f68.ntmps - List.length ([.pointer l0, .agg #[.int .i64 p1_0, .int .i64 p1_1, .int .i64 p1_2]] : List Value)) none) = B_aging_Line_priority l0 p1_0 p1_1 p1_2 := by kernel_rfl
theorem S_aging_Line_priority (l0 : Option Addr) (p1_0 : Int) (p1_1 : Int) (p1_2 : Int) {h : Hp} {Q : Value → Hp → Prop} (hb : B_aging_Line_priority l0 p1_0 p1_1 p1_2 h Q) : N_aging_Line_priority l0 p1_0 p1_1 p1_2 h Q :=
  Nf.of_ev Try.call68 Try.func68 (c := bodyOf Try.f68) rfl mixed C_aging_Line_priority D_aging_Line_priority 400 (args := [.pointer l0, .agg #[.int .i64 p1_0, .int .i64 p1_1, .int .i64 p1_2]]) (by rw [E_aging_Line_priority]; exact hb)
def C_slices_IndexFunc_aging_party_aging_party : List (Nat × List Nat) := [(2, [0, 1, 7, 8])]
def D_slices_IndexFunc_aging_party_aging_party : List (Nat × List Nat) := []
def T_slices_IndexFunc_aging_party_aging_party_2 (s0 : Sl) (f1g : Nat) (f1f : Array Value) (f1c : Array Value) (t7 : Int) (t8 : Int) : Env := mkEnv [(0, .slice s0.p s0.n s0.c), (1, .func (.func f1g) f1f f1c), (7, .int .i64 t7), (8, .int .i64 t8)] 19 0
def K_slices_IndexFunc_aging_party_aging_party_2 (s0 : Sl) (f1g : Nat) (f1f : Array Value) (f1c : Array Value) (t7 : Int) (t8 : Int) : M Value := Cut Try.prog 80 (todoOf Try.f80 2) (T_slices_IndexFunc_aging_party_aging_party_2 s0 f1g f1f f1c t7 t8)
def B_slices_IndexFunc_aging_party_aging_party (s0 : Sl) (f1g : Nat) (f1f : Array Value) (f1c : Array Value) : M Value :=
  K_slices_IndexFunc_aging_party_aging_party_2 s0 f1g f1f f1c (s0.n : Int) (0 : Int)
def B_slices_IndexFunc_aging_party_aging_party_2 (s0 : Sl) (f1g : Nat) (f1f : Array Value) (f1c : Array Value) (t7 : Int) (t8 : Int) : M Value :=
  mIf (decide (t8 < t7)) (
    mIdx s0 t8 3 fun (x14 : Addr) =>
    mLdI .i64 x14 fun (x15_0 : Int) =>
    mLdI .i64 (x14.add 1) fun (x15_1 : Int) =>
    mLdI .i64 (x14.add 2) fun (x15_2 : Int) =>
    mBind (Nf Try.prog f1g (f1f ++ #[.agg #[.int .i64 x15_0, .int .i64 x15_1, .int .i64 x15_2]] ++ f1c)) fun r16 =>
    unB r16 fun (x16 : Bool) =>
    mIf x16 (
      mRet (.int .i64 t8)) (
      K_slices_IndexFunc_aging_party_aging_party_2 s0 f1g f1f f1c t7 (IntKind.i64.wrap (t8 + (1 : Int))))) (
    mRet (.int .i64 (-1 : Int)))
theorem E_slices_IndexFunc_aging_party_aging_party (s0 : Sl) (f1g : Nat) (f1f : Array Value) (f1c : Array Value) : ev Try.prog 80 Try.f80.results.toList C_slices_IndexFunc_aging_party_aging_party D_slices_IndexFunc_aging_party_aging_party 400 false [.code (bodyOf Try.f80)] (List.map some [.slice s0.p s0.n s0.c, .func (.func f1g) f1f f1c] ++ List.replicate (Try.f80.ntmps - List.length ([.slice s0.p s0.n s0.c, .func (.func f1g) f1f f1c] : List Value)) none) = B_slices_IndexFunc_aging_party_aging_party s0 f1g f1f f1c := by kernel_rfl
theorem S_slices_IndexFunc_aging_party_aging_party (s0 : Sl) (f1g : Nat) (f1f : Array Value) (f1c : Array Value) {h : Hp} {Q : Value → Hp → Prop} (hb : B_slices_IndexFunc_aging_party_aging_party s0 f1g f1f f1c h Q) : N_slices_IndexFunc_aging_party_aging_party s0 f1g f1f f1c h Q :=
  Nf.of_ev Try.call80 Try.func80 (c := bodyOf Try.f80) rfl mixed C_slices_IndexFunc_aging_party_aging_party D_slices_IndexFunc_aging_party_aging_party 400 (args := [.slice s0.p s0.n s0.c, .func (.func f1g) f1f f1c]) (by rw [E_slices_IndexFunc_aging_party_aging_party]; exact hb)
theorem E_slices_IndexFunc_aging_party_aging_party_2 (s0 : Sl) (f1g : Nat) (f1f : Array Value) (f1c : Array Value) (t7 : Int) (t8 : Int) : ev Try.prog 80 Try.f80.results.toList C_slices_IndexFunc_aging_party_aging_party D_slices_IndexFunc_aging_party_aging_party 400 true (todoOf Try.f80 2) (T_slices_IndexFunc_aging_party_aging_party_2 s0 f1g f1f f1c t7 t8) = B_slices_IndexFunc_aging_party_aging_party_2 s0 f1g f1f f1c t7 t8 := by kernel_rfl
theorem S_slices_IndexFunc_aging_party_aging_party_2 (s0 : Sl) (f1g : Nat) (f1f : Array Value) (f1c : Array Value) (t7 : Int) (t8 : Int) {h : Hp} {Q : Value → Hp → Prop} (hb : B_slices_IndexFunc_aging_party_aging_party_2 s0 f1g f1f f1c t7 t8 h Q) : K_slices_IndexFunc_aging_party_aging_party_2 s0 f1g f1f f1c t7 t8 h Q :=
  Cut.of_ev Try.func80 mixed C_slices_IndexFunc_aging_party_aging_party D_slices_IndexFunc_aging_party_aging_party 400 (by rw [E_slices_IndexFunc_aging_party_aging_party_2]; exact hb)
def C_aging_Line_find_1 : List (Nat × List Nat) := []
def D_aging_Line_find_1 : List (Nat × List Nat) := []
def B_aging_Line_find_1 (p0_0 : Int) (p0_1 : Int) (p0_2 : Int) (fv1 : Option Addr) : M Value :=
  mNew #[.int .i64 p0_0, .int .i64 p0_1, .int .i64 p0_2] 105 fun (x2 : Addr) =>
  mLdI .i64 x2 fun (x5 : Int) =>
  mNil fv1 fun (a5 : Addr) =>
  mLdI .i64 a5 fun (x6 : Int) =>
  mRet (.bool (x5 == x6))
theorem E_aging_Line_find_1 (p0_0 : Int) (p0_1 : Int) (p0_2 : Int) (fv1 : Option Addr) : ev Try.prog 81 Try.f81.results.toList C_aging_Line_find_1 D_aging_Line_find_1 400 false [.code (bodyOf Try.f81)] (List.map some [.agg #[.int .i64 p0_0, .int .i64 p0_1, .int .i64 p0_2], .pointer fv1] ++ List.replicate (Try.f81.ntmps - List.length ([.agg #[.int .i64 p0_0, .int .i64 p0_1, .int .i64 p0_2], .pointer fv1] : List Value)) none) = B_aging_Line_find_1 p0_0 p0_1 p0_2 fv1 := by kernel_rfl
theorem S_aging_Line_find_1 (p0_0 : Int) (p0_1 : Int) (p0_2 : Int) (fv1 : Option Addr) {h : Hp} {Q : Value → Hp → Prop} (hb : B_aging_Line_find_1 p0_0 p0_1 p0_2 fv1 h Q) : N_aging_Line_find_1 p0_0 p0_1 p0_2 fv1 h Q :=
  Nf.of_ev Try.call81 Try.func81 (c := bodyOf Try.f81) rfl mixed C_aging_Line_find_1 D_aging_Line_find_1 400 (args := [.agg #[.int .i64 p0_0, .int .i64 p0_1, .int .i64 p0_2], .pointer fv1]) (by rw [E_aging_Line_find_1]; exact hb)
def C_slices_Delete_aging_party_aging_party : List (Nat × List Nat) := []
def D_slices_Delete_aging_party_aging_party : List (Nat × List Nat) := [(5, [])]
def B_slices_Delete_aging_party_aging_party (s0 : Sl) (i1 : Int) (j2 : Int) : M Value :=
  mSlc s0 3 i1 j2 (s0.n : Int) fun (_x13 : Sl) =>
  mIf (i1 == j2) (
    mRet (.slice s0.p s0.n s0.c)) (
    mSlc s0 3 (0 : Int) i1 (s0.c : Int) fun (x22 : Sl) =>
    mSlc s0 3 j2 (s0.n : Int) (s0.c : Int) fun (x25 : Sl) =>
    mApp 105 3 24 #[.int .i64 (0 : Int), .int .i64 (0 : Int), .int .i64 (0 : Int)] x22 x25 fun (x26 : Sl) =>
    mSlc x26 3 (x26.n : Int) (s0.n : Int) (x26.c : Int) fun (x31 : Sl) =>
    mClear 3 #[.int .i64 (0 : Int), .int .i64 (0 : Int), .int .i64 (0 : Int)] x31 <|
    mRet (.slice x26.p x26.n x26.c))
theorem E_slices_Delete_aging_party_aging_party (s0 : Sl) (i1 : Int) (j2 : Int) : ev Try.prog 82 Try.f82.results.toList C_slices_Delete_aging_party_aging_party D_slices_Delete_aging_party_aging_party 400 false [.code (bodyOf Try.f82)] (List.map some [.slice s0.p s0.n s0.c, .int .i64 i1, .int .i64 j2] ++ List.replicate (Try.f82.ntmps - List.length ([.slice s0.p s0.n s0.c, .int .i64 i1, .int .i64 j2] : List Value)) none) = B_slices_Delete_aging_party_aging_party s0 i1 j2 := by kernel_rfl
theorem S_slices_Delete_aging_party_aging_party (s0 : Sl) (i1 : Int) (j2 : Int) {h : Hp} {Q : Value → Hp → Prop} (hb : B_slices_Delete_aging_party_aging_party s0 i1 j2 h Q) : N_slices_Delete_aging_party_aging_party s0 i1 j2 h Q :=
  Nf.of_ev Try.call82 Try.func82 (c := bodyOf Try.f82) rfl mixed C_slices_Delete_aging_party_aging_party D_slices_Delete_aging_party_aging_party 400 (args := [.slice s0.p s0.n s0.c, .int .i64 i1, .int .i64 j2]) (by rw [E_slices_Delete_aging_party_aging_party]; exact hb)
def C_signalboxlaw51_AgingBound : List (Nat × List Nat) := [(7, [2, 3, 9, 32, 33, 34]), (16, [3, 9, 59, 60]), (21, [3, 9, 59, 60])]
def D_signalboxlaw51_AgingBound : List (Nat × List Nat) := []
def T_signalboxlaw51_AgingBound_7 (base2 : Int) (joins3 : Sl) (l9 : Option Addr) (t32 : Sl) (t33 : Int) (t34 : Int) : Env := mkEnv [(2, .int .u8 base2), (3, .slice joins3.p joins3.n joins3.c), (9, .pointer l9), (32, .slice t32.p t32.n t32.c), (33, .int .i64 t33), (34, .int .i64 t34)] 91 0
def K_signalboxlaw51_AgingBound_7 (base2 : Int) (joins3 : Sl) (l9 : Option Addr) (t32 : Sl) (t33 : Int) (t34 : Int) : M Value := Cut Try.prog 7 (todoOf Try.f7 7) (T_signalboxlaw51_AgingBound_7 base2 joins3 l9 t32 t33 t34)
def T_signalboxlaw51_AgingBound_16 (joins3 : Sl) (l9 : Option Addr) (t59 : Int) (t60 : Int) : Env := mkEnv [(3, .slice joins3.p joins3.n joins3.c), (9, .pointer l9), (59, .int .i64 t59), (60, .int .i64 t60)] 91 0
def K_signalboxlaw51_AgingBound_16 (joins3 : Sl) (l9 : Option Addr) (t59 : Int) (t60 : Int) : M Value := Cut Try.prog 7 (todoOf Try.f7 16) (T_signalboxlaw51_AgingBound_16 joins3 l9 t59 t60)
def T_signalboxlaw51_AgingBound_21 (joins3 : Sl) (l9 : Option Addr) (t59 : Int) (t60 : Int) : Env := mkEnv [(3, .slice joins3.p joins3.n joins3.c), (9, .pointer l9), (59, .int .i64 t59), (60, .int .i64 t60)] 91 0
def K_signalboxlaw51_AgingBound_21 (joins3 : Sl) (l9 : Option Addr) (t59 : Int) (t60 : Int) : M Value := Cut Try.prog 7 (todoOf Try.f7 21) (T_signalboxlaw51_AgingBound_21 joins3 l9 t59 t60)
def B_signalboxlaw51_AgingBound (step0 : Int) (first1 : Sl) (base2 : Int) (joins3 : Sl) : M Value :=
  mBind (N_signalboxlaw51_fixed) fun r17 =>
  unB r17 fun (x17 : Bool) =>
  mIf (!x17) (
    mRet (.bool false)) (
    mIf ((decide ((first1.n : Int) > (40 : Int))) || (decide ((joins3.n : Int) > (300 : Int)))) (
      mRet (.bool true)) (
      mGuard ((4 : Int) ≠ 0) <|
      mBind (N_aging_New (IntKind.i64.wrap ((1 : Int) + (IntKind.i64.wrap (Int.tmod step0 (4 : Int)))))) fun r31 =>
      unP r31 fun (x31 : Option Addr) =>
      K_signalboxlaw51_AgingBound_7 base2 joins3 x31 first1 (first1.n : Int) (0 : Int)))
def B_signalboxlaw51_AgingBound_7 (base2 : Int) (joins3 : Sl) (l9 : Option Addr) (t32 : Sl) (t33 : Int) (t34 : Int) : M Value :=
  mIf (decide (t34 < t33)) (
    mIdx t32 t34 1 fun (x37 : Addr) =>
    mLdI .u8 x37 fun (x38 : Int) =>
    mGuard ((64 : Int) ≠ 0) <|
    mBind (N_aging_Line_Join l9 (IntKind.i64.wrap ((1000 : Int) + t34)) (IntKind.i64.wrap (Int.tmod x38 (64 : Int)))) fun r45 =>
    unI .i64 r45 fun (_x45 : Int) =>
    K_signalboxlaw51_AgingBound_7 base2 joins3 l9 t32 t33 (IntKind.i64.wrap (t34 + (1 : Int)))) (
    mGuard ((64 : Int) ≠ 0) <|
    mBind (N_aging_Line_Join l9 (1 : Int) (IntKind.i64.wrap (Int.tmod base2 (64 : Int)))) fun r51 =>
    unI .i64 r51 fun (_x51 : Int) =>
    mBind (N_aging_Line_Bound l9 (1 : Int)) fun r54 =>
    un2 (unI .i64) unB r54 fun (x54_0 : Int) (x54_1 : Bool) =>
    mIf (!x54_1) (
      mRet (.bool false)) (
      K_signalboxlaw51_AgingBound_16 joins3 l9 x54_0 (0 : Int)))
def B_signalboxlaw51_AgingBound_16 (joins3 : Sl) (l9 : Option Addr) (t59 : Int) (t60 : Int) : M Value :=
  mIf (decide (t60 < t59)) (
    mIf (decide (t60 < (joins3.n : Int))) (
      mIdx joins3 t60 1 fun (x72 : Addr) =>
      mLdI .u8 x72 fun (x73 : Int) =>
      mGuard ((64 : Int) ≠ 0) <|
      mBind (N_aging_Line_Join l9 (IntKind.i64.wrap ((2000 : Int) + t60)) (IntKind.i64.wrap (Int.tmod x73 (64 : Int)))) fun r76 =>
      unI .i64 r76 fun (_x76 : Int) =>
      K_signalboxlaw51_AgingBound_21 joins3 l9 t59 t60) (
      mBind (N_aging_Line_Join l9 (IntKind.i64.wrap ((2000 : Int) + t60)) (63 : Int)) fun r80 =>
      unI .i64 r80 fun (_x80 : Int) =>
      K_signalboxlaw51_AgingBound_21 joins3 l9 t59 t60)) (
    mRet (.bool false))
def B_signalboxlaw51_AgingBound_21 (joins3 : Sl) (l9 : Option Addr) (t59 : Int) (t60 : Int) : M Value :=
  mBind (N_aging_Line_Turn l9) fun r83 =>
  un2 (unI .i64) unB r83 fun (x83_0 : Int) (x83_1 : Bool) =>
  mIf (!x83_1) (
    mRet (.bool false)) (
    mIf (x83_0 == (1 : Int)) (
      mRet (.bool true)) (
      K_signalboxlaw51_AgingBound_16 joins3 l9 t59 (IntKind.i64.wrap (t60 + (1 : Int)))))
theorem E_signalboxlaw51_AgingBound (step0 : Int) (first1 : Sl) (base2 : Int) (joins3 : Sl) : ev Try.prog 7 Try.f7.results.toList C_signalboxlaw51_AgingBound D_signalboxlaw51_AgingBound 400 false [.code (bodyOf Try.f7)] (List.map some [.int .u8 step0, .slice first1.p first1.n first1.c, .int .u8 base2, .slice joins3.p joins3.n joins3.c] ++ List.replicate (Try.f7.ntmps - List.length ([.int .u8 step0, .slice first1.p first1.n first1.c, .int .u8 base2, .slice joins3.p joins3.n joins3.c] : List Value)) none) = B_signalboxlaw51_AgingBound step0 first1 base2 joins3 := by kernel_rfl
theorem S_signalboxlaw51_AgingBound (step0 : Int) (first1 : Sl) (base2 : Int) (joins3 : Sl) {h : Hp} {Q : Value → Hp → Prop} (hb : B_signalboxlaw51_AgingBound step0 first1 base2 joins3 h Q) : N_signalboxlaw51_AgingBound step0 first1 base2 joins3 h Q :=
  Nf.of_ev Try.call7 Try.func7 (c := bodyOf Try.f7) rfl mixed C_signalboxlaw51_AgingBound D_signalboxlaw51_AgingBound 400 (args := [.int .u8 step0, .slice first1.p first1.n first1.c, .int .u8 base2, .slice joins3.p joins3.n joins3.c]) (by rw [E_signalboxlaw51_AgingBound]; exact hb)
theorem E_signalboxlaw51_AgingBound_7 (base2 : Int) (joins3 : Sl) (l9 : Option Addr) (t32 : Sl) (t33 : Int) (t34 : Int) : ev Try.prog 7 Try.f7.results.toList C_signalboxlaw51_AgingBound D_signalboxlaw51_AgingBound 400 true (todoOf Try.f7 7) (T_signalboxlaw51_AgingBound_7 base2 joins3 l9 t32 t33 t34) = B_signalboxlaw51_AgingBound_7 base2 joins3 l9 t32 t33 t34 := by kernel_rfl
theorem S_signalboxlaw51_AgingBound_7 (base2 : Int) (joins3 : Sl) (l9 : Option Addr) (t32 : Sl) (t33 : Int) (t34 : Int) {h : Hp} {Q : Value → Hp → Prop} (hb : B_signalboxlaw51_AgingBound_7 base2 joins3 l9 t32 t33 t34 h Q) : K_signalboxlaw51_AgingBound_7 base2 joins3 l9 t32 t33 t34 h Q :=
  Cut.of_ev Try.func7 mixed C_signalboxlaw51_AgingBound D_signalboxlaw51_AgingBound 400 (by rw [E_signalboxlaw51_AgingBound_7]; exact hb)
theorem E_signalboxlaw51_AgingBound_16 (joins3 : Sl) (l9 : Option Addr) (t59 : Int) (t60 : Int) : ev Try.prog 7 Try.f7.results.toList C_signalboxlaw51_AgingBound D_signalboxlaw51_AgingBound 400 true (todoOf Try.f7 16) (T_signalboxlaw51_AgingBound_16 joins3 l9 t59 t60) = B_signalboxlaw51_AgingBound_16 joins3 l9 t59 t60 := by kernel_rfl
theorem S_signalboxlaw51_AgingBound_16 (joins3 : Sl) (l9 : Option Addr) (t59 : Int) (t60 : Int) {h : Hp} {Q : Value → Hp → Prop} (hb : B_signalboxlaw51_AgingBound_16 joins3 l9 t59 t60 h Q) : K_signalboxlaw51_AgingBound_16 joins3 l9 t59 t60 h Q :=
  Cut.of_ev Try.func7 mixed C_signalboxlaw51_AgingBound D_signalboxlaw51_AgingBound 400 (by rw [E_signalboxlaw51_AgingBound_16]; exact hb)
theorem E_signalboxlaw51_AgingBound_21 (joins3 : Sl) (l9 : Option Addr) (t59 : Int) (t60 : Int) : ev Try.prog 7 Try.f7.results.toList C_signalboxlaw51_AgingBound D_signalboxlaw51_AgingBound 400 true (todoOf Try.f7 21) (T_signalboxlaw51_AgingBound_21 joins3 l9 t59 t60) = B_signalboxlaw51_AgingBound_21 joins3 l9 t59 t60 := by kernel_rfl
theorem S_signalboxlaw51_AgingBound_21 (joins3 : Sl) (l9 : Option Addr) (t59 : Int) (t60 : Int) {h : Hp} {Q : Value → Hp → Prop} (hb : B_signalboxlaw51_AgingBound_21 joins3 l9 t59 t60 h Q) : K_signalboxlaw51_AgingBound_21 joins3 l9 t59 t60 h Q :=
  Cut.of_ev Try.func7 mixed C_signalboxlaw51_AgingBound D_signalboxlaw51_AgingBound 400 (by rw [E_signalboxlaw51_AgingBound_21]; exact hb)
def C_signalboxlaw51_AgingPlays : List (Nat × List Nat) := [(13, [0, 5, 10, 11, 80, 81, 82]), (17, [0, 5, 10, 11, 13, 14, 80, 81, 82, 86, 87, 88]), (30, [0, 5, 10, 11, 13, 17, 80, 81, 82]), (35, [0, 5, 10, 11, 18, 80, 81, 82, 136, 137, 138]), (59, [0, 5, 10, 11, 26, 80, 81, 82, 247, 248, 249])]
def D_signalboxlaw51_AgingPlays : List (Nat × List Nat) := [(48, []), (54, [])]
def T_signalboxlaw51_AgingPlays_13 (step0 : Int) (x5 : Option Addr) (row10 : Sl) (turns11 : Int) (t80 : Sl) (t81 : Int) (t82 : Int) : Env := mkEnv [(0, .int .i64 step0), (5, .pointer x5), (10, .slice row10.p row10.n row10.c), (11, .int .i64 turns11), (80, .slice t80.p t80.n t80.c), (81, .int .i64 t81), (82, .int .i64 t82)] 287 0
def K_signalboxlaw51_AgingPlays_13 (step0 : Int) (x5 : Option Addr) (row10 : Sl) (turns11 : Int) (t80 : Sl) (t81 : Int) (t82 : Int) : M Value := Cut Try.prog 8 (todoOf Try.f8 13) (T_signalboxlaw51_AgingPlays_13 step0 x5 row10 turns11 t80 t81 t82)
def T_signalboxlaw51_AgingPlays_17 (step0 : Int) (x5 : Option Addr) (row10 : Sl) (turns11 : Int) (a13 : Addr) (at14 : Int) (t80 : Sl) (t81 : Int) (t82 : Int) (t86 : Sl) (t87 : Int) (t88 : Int) : Env := mkEnv [(0, .int .i64 step0), (5, .pointer x5), (10, .slice row10.p row10.n row10.c), (11, .int .i64 turns11), (13, .pointer (some a13)), (14, .int .i64 at14), (80, .slice t80.p t80.n t80.c), (81, .int .i64 t81), (82, .int .i64 t82), (86, .slice t86.p t86.n t86.c), (87, .int .i64 t87), (88, .int .i64 t88)] 287 0
def K_signalboxlaw51_AgingPlays_17 (step0 : Int) (x5 : Option Addr) (row10 : Sl) (turns11 : Int) (a13 : Addr) (at14 : Int) (t80 : Sl) (t81 : Int) (t82 : Int) (t86 : Sl) (t87 : Int) (t88 : Int) : M Value := Cut Try.prog 8 (todoOf Try.f8 17) (T_signalboxlaw51_AgingPlays_17 step0 x5 row10 turns11 a13 at14 t80 t81 t82 t86 t87 t88)
def T_signalboxlaw51_AgingPlays_30 (step0 : Int) (x5 : Option Addr) (row10 : Sl) (turns11 : Int) (a13 : Addr) (want17 : Int) (t80 : Sl) (t81 : Int) (t82 : Int) : Env := mkEnv [(0, .int .i64 step0), (5, .pointer x5), (10, .slice row10.p row10.n row10.c), (11, .int .i64 turns11), (13, .pointer (some a13)), (17, .int .i64 want17), (80, .slice t80.p t80.n t80.c), (81, .int .i64 t81), (82, .int .i64 t82)] 287 0
def K_signalboxlaw51_AgingPlays_30 (step0 : Int) (x5 : Option Addr) (row10 : Sl) (turns11 : Int) (a13 : Addr) (want17 : Int) (t80 : Sl) (t81 : Int) (t82 : Int) : M Value := Cut Try.prog 8 (todoOf Try.f8 30) (T_signalboxlaw51_AgingPlays_30 step0 x5 row10 turns11 a13 want17 t80 t81 t82)
def T_signalboxlaw51_AgingPlays_35 (step0 : Int) (x5 : Option Addr) (row10 : Sl) (turns11 : Int) (best18 : Int) (t80 : Sl) (t81 : Int) (t82 : Int) (t136 : Sl) (t137 : Int) (t138 : Int) : Env := mkEnv [(0, .int .i64 step0), (5, .pointer x5), (10, .slice row10.p row10.n row10.c), (11, .int .i64 turns11), (18, .int .i64 best18), (80, .slice t80.p t80.n t80.c), (81, .int .i64 t81), (82, .int .i64 t82), (136, .slice t136.p t136.n t136.c), (137, .int .i64 t137), (138, .int .i64 t138)] 287 0
def K_signalboxlaw51_AgingPlays_35 (step0 : Int) (x5 : Option Addr) (row10 : Sl) (turns11 : Int) (best18 : Int) (t80 : Sl) (t81 : Int) (t82 : Int) (t136 : Sl) (t137 : Int) (t138 : Int) : M Value := Cut Try.prog 8 (todoOf Try.f8 35) (T_signalboxlaw51_AgingPlays_35 step0 x5 row10 turns11 best18 t80 t81 t82 t136 t137 t138)
def T_signalboxlaw51_AgingPlays_59 (step0 : Int) (x5 : Option Addr) (row10 : Sl) (turns11 : Int) (all26 : Sl) (t80 : Sl) (t81 : Int) (t82 : Int) (t247 : Sl) (t248 : Int) (t249 : Int) : Env := mkEnv [(0, .int .i64 step0), (5, .pointer x5), (10, .slice row10.p row10.n row10.c), (11, .int .i64 turns11), (26, .slice all26.p all26.n all26.c), (80, .slice t80.p t80.n t80.c), (81, .int .i64 t81), (82, .int .i64 t82), (247, .slice t247.p t247.n t247.c), (248, .int .i64 t248), (249, .int .i64 t249)] 287 0
def K_signalboxlaw51_AgingPlays_59 (step0 : Int) (x5 : Option Addr) (row10 : Sl) (turns11 : Int) (all26 : Sl) (t80 : Sl) (t81 : Int) (t82 : Int) (t247 : Sl) (t248 : Int) (t249 : Int) : M Value := Cut Try.prog 8 (todoOf Try.f8 59) (T_signalboxlaw51_AgingPlays_59 step0 x5 row10 turns11 all26 t80 t81 t82 t247 t248 t249)
def B_signalboxlaw51_AgingPlays (step0 : Int) (l1 : Sl) : M Value :=
  mBind (N_signalboxlaw51_fixed) fun r31 =>
  unB r31 fun (x31 : Bool) =>
  mIf (!x31) (
    mRet (.bool false)) (
    mIf (decide ((l1.n : Int) > (120 : Int))) (
      mRet (.bool true)) (
      mBind (N_aging_New step0) fun r37 =>
      unP r37 fun (x37 : Option Addr) =>
      mIf ((decide (step0 < (1 : Int))) || (decide (step0 > (1024 : Int)))) (
        mBind (N_aging_Line_Turn x37) fun r46 =>
        un2 (unI .i64) unB r46 fun (_x46_0 : Int) (x46_1 : Bool) =>
        mBind (N_aging_Line_Bound x37 (0 : Int)) fun r51 =>
        un2 (unI .i64) unB r51 fun (_x51_0 : Int) (x51_1 : Bool) =>
        mBind (mIf x37.isNone (mBind (N_aging_Line_Join x37 (0 : Int) (0 : Int)) fun r58 =>
          unI .i64 r58 fun (x58 : Int) =>
          mRet (x58 == (1 : Int))) (mRet false)) fun (b6 : Bool) =>
        mBind (mIf ((b6 && (!x46_1)) && (!x51_1)) (mBind (N_aging_Line_Leave x37 (0 : Int)) fun r71 =>
          unB r71 fun (x71 : Bool) =>
          mRet (!x71)) (mRet false)) fun (b8 : Bool) =>
        mBind (mIf b8 (mBind (N_aging_Line_All x37) fun r76 =>
          unL r76 fun (x76 : Sl) =>
          mRet ((x76.n : Int) == (0 : Int))) (mRet false)) fun (b10 : Bool) =>
        mRet (.bool b10)) (
        K_signalboxlaw51_AgingPlays_13 step0 x37 (Sl.mk none 0 0) (0 : Int) l1 (l1.n : Int) (0 : Int))))
def B_signalboxlaw51_AgingPlays_13 (step0 : Int) (x5 : Option Addr) (row10 : Sl) (turns11 : Int) (t80 : Sl) (t81 : Int) (t82 : Int) : M Value :=
  mIf (decide (t82 < t81)) (
    mIdx t80 t82 3 fun (x84 : Addr) =>
    mLdI .u8 x84 fun (x85_0 : Int) =>
    mLdI .i64 (x84.add 1) fun (x85_1 : Int) =>
    mLdI .i64 (x84.add 2) fun (x85_2 : Int) =>
    mNew #[.int .u8 (0 : Int), .int .i64 (0 : Int), .int .i64 (0 : Int)] 55 fun (x13 : Addr) =>
    mSt x13 (.int .u8 x85_0) <|
    mSt (x13.add 1) (.int .i64 x85_1) <|
    mSt (x13.add 2) (.int .i64 x85_2) <|
    K_signalboxlaw51_AgingPlays_17 step0 x5 row10 turns11 x13 (-1 : Int) t80 t81 t82 row10 (row10.n : Int) (0 : Int)) (
    mRet (.bool true))
def B_signalboxlaw51_AgingPlays_17 (step0 : Int) (x5 : Option Addr) (row10 : Sl) (turns11 : Int) (a13 : Addr) (at14 : Int) (t80 : Sl) (t81 : Int) (t82 : Int) (t86 : Sl) (t87 : Int) (t88 : Int) : M Value :=
  mIf (decide (t88 < t87)) (
    mIdx t86 t88 3 fun (x91 : Addr) =>
    mLdI .i64 x91 fun (x92_0 : Int) =>
    mLdI .i64 (x91.add 1) fun (x92_1 : Int) =>
    mLdI .i64 (x91.add 2) fun (x92_2 : Int) =>
    mNew #[.int .i64 (0 : Int), .int .i64 (0 : Int), .int .i64 (0 : Int)] 57 fun (x16 : Addr) =>
    mSt x16 (.int .i64 x92_0) <|
    mSt (x16.add 1) (.int .i64 x92_1) <|
    mSt (x16.add 2) (.int .i64 x92_2) <|
    mLdI .i64 x16 fun (x94 : Int) =>
    mLdI .i64 (a13.add 1) fun (x96 : Int) =>
    mIf (x94 == x96) (
      K_signalboxlaw51_AgingPlays_17 step0 x5 row10 turns11 a13 t88 t80 t81 t82 t86 t87 (IntKind.i64.wrap (t88 + (1 : Int)))) (
      K_signalboxlaw51_AgingPlays_17 step0 x5 row10 turns11 a13 at14 t80 t81 t82 t86 t87 (IntKind.i64.wrap (t88 + (1 : Int))))) (
    mLdI .u8 a13 fun (x101 : Int) =>
    mGuard ((3 : Int) ≠ 0) <|
    mIf ((Int.tmod x101 (3 : Int)) == (0 : Int)) (
      mLdI .i64 (a13.add 2) fun (x116 : Int) =>
      mBind (mIf (decide (x116 < (0 : Int))) (mRet true) (mLdI .i64 (a13.add 2) fun (x120 : Int) =>
        mRet (decide (x120 > (63 : Int))))) fun (b30 : Bool) =>
      mIf b30 (
        K_signalboxlaw51_AgingPlays_30 step0 x5 row10 turns11 a13 (5 : Int) t80 t81 t82) (
        mIf (decide (at14 ≥ (0 : Int))) (
          K_signalboxlaw51_AgingPlays_30 step0 x5 row10 turns11 a13 (10 : Int) t80 t81 t82) (
          mLdI .i64 (a13.add 1) fun (x107 : Int) =>
          mLdI .i64 (a13.add 2) fun (x109 : Int) =>
          mNew #[.int .i64 x107, .int .i64 x109, .int .i64 turns11] 57 fun (x112 : Addr) =>
          mApp 57 3 24 #[.int .i64 (0 : Int), .int .i64 (0 : Int), .int .i64 (0 : Int)] row10 ⟨(some x112), 1, 1⟩ fun (x113 : Sl) =>
          K_signalboxlaw51_AgingPlays_30 step0 x5 x113 turns11 a13 (0 : Int) t80 t81 t82))) (
      mIf ((Int.tmod x101 (3 : Int)) == (1 : Int)) (
        K_signalboxlaw51_AgingPlays_35 step0 x5 row10 turns11 (-1 : Int) t80 t81 t82 row10 (row10.n : Int) (0 : Int)) (
        mIf ((Int.tmod x101 (3 : Int)) == (2 : Int)) (
          mLdI .i64 (a13.add 1) fun (x223 : Int) =>
          mBind (N_aging_Line_Leave x5 x223) fun r224 =>
          unB r224 fun (x224 : Bool) =>
          mIf (!(x224 == (decide (at14 ≥ (0 : Int))))) (
            mRet (.bool false)) (
            mIf (decide (at14 ≥ (0 : Int))) (
              mSlc row10 3 (0 : Int) at14 (row10.c : Int) fun (x233 : Sl) =>
              mSlc row10 3 (IntKind.i64.wrap (at14 + (1 : Int))) (row10.n : Int) (row10.c : Int) fun (x238 : Sl) =>
              mNew #[] 57 fun (x230 : Addr) =>
              mApp 57 3 24 #[.int .i64 (0 : Int), .int .i64 (0 : Int), .int .i64 (0 : Int)] ⟨(some x230), 0, 0⟩ x233 fun (x234 : Sl) =>
              mApp 57 3 24 #[.int .i64 (0 : Int), .int .i64 (0 : Int), .int .i64 (0 : Int)] x234 x238 fun (x239 : Sl) =>
              mBind (N_aging_Line_All x5) fun r241 =>
              unL r241 fun (x241 : Sl) =>
              mIf ((x241.n : Int) != (x239.n : Int)) (
                mRet (.bool false)) (
                K_signalboxlaw51_AgingPlays_59 step0 x5 x239 turns11 x241 t80 t81 t82 x239 (x239.n : Int) (0 : Int))) (
              mBind (N_aging_Line_All x5) fun r241_46 =>
              unL r241_46 fun (x241_46 : Sl) =>
              mIf ((x241_46.n : Int) != (row10.n : Int)) (
                mRet (.bool false)) (
                K_signalboxlaw51_AgingPlays_59 step0 x5 row10 turns11 x241_46 t80 t81 t82 row10 (row10.n : Int) (0 : Int))))) (
          mBind (N_aging_Line_All x5) fun r241_47 =>
          unL r241_47 fun (x241_47 : Sl) =>
          mIf ((x241_47.n : Int) != (row10.n : Int)) (
            mRet (.bool false)) (
            K_signalboxlaw51_AgingPlays_59 step0 x5 row10 turns11 x241_47 t80 t81 t82 row10 (row10.n : Int) (0 : Int))))))
def B_signalboxlaw51_AgingPlays_30 (step0 : Int) (x5 : Option Addr) (row10 : Sl) (turns11 : Int) (a13 : Addr) (want17 : Int) (t80 : Sl) (t81 : Int) (t82 : Int) : M Value :=
  mLdI .i64 (a13.add 1) fun (x128 : Int) =>
  mLdI .i64 (a13.add 2) fun (x130 : Int) =>
  mBind (N_aging_Line_Join x5 x128 x130) fun r131 =>
  unI .i64 r131 fun (x131 : Int) =>
  mIf (x131 != want17) (
    mRet (.bool false)) (
    mBind (N_aging_Line_All x5) fun r241 =>
    unL r241 fun (x241 : Sl) =>
    mIf ((x241.n : Int) != (row10.n : Int)) (
      mRet (.bool false)) (
      K_signalboxlaw51_AgingPlays_59 step0 x5 row10 turns11 x241 t80 t81 t82 row10 (row10.n : Int) (0 : Int)))
def B_signalboxlaw51_AgingPlays_35 (step0 : Int) (x5 : Option Addr) (row10 : Sl) (turns11 : Int) (best18 : Int) (t80 : Sl) (t81 : Int) (t82 : Int) (t136 : Sl) (t137 : Int) (t138 : Int) : M Value :=
  mIf (decide (t138 < t137)) (
    mIdx t136 t138 3 fun (x141 : Addr) =>
    mLdI .i64 x141 fun (x142_0 : Int) =>
    mLdI .i64 (x141.add 1) fun (x142_1 : Int) =>
    mLdI .i64 (x141.add 2) fun (x142_2 : Int) =>
    mNew #[.int .i64 (0 : Int), .int .i64 (0 : Int), .int .i64 (0 : Int)] 57 fun (x20 : Addr) =>
    mSt x20 (.int .i64 x142_0) <|
    mSt (x20.add 1) (.int .i64 x142_1) <|
    mSt (x20.add 2) (.int .i64 x142_2) <|
    mIf (decide (best18 < (0 : Int))) (
      K_signalboxlaw51_AgingPlays_35 step0 x5 row10 turns11 t138 t80 t81 t82 t136 t137 (IntKind.i64.wrap (t138 + (1 : Int)))) (
      mIdx row10 best18 3 fun (x148 : Addr) =>
      mLdI .i64 x148 fun (x149_0 : Int) =>
      mLdI .i64 (x148.add 1) fun (x149_1 : Int) =>
      mLdI .i64 (x148.add 2) fun (x149_2 : Int) =>
      mNew #[.int .i64 (0 : Int), .int .i64 (0 : Int), .int .i64 (0 : Int)] 57 fun (x21 : Addr) =>
      mSt x21 (.int .i64 x149_0) <|
      mSt (x21.add 1) (.int .i64 x149_1) <|
      mSt (x21.add 2) (.int .i64 x149_2) <|
      mLdI .i64 (x20.add 1) fun (x151 : Int) =>
      mLdI .i64 (x20.add 2) fun (x154 : Int) =>
      mGuard (step0 ≠ 0) <|
      mLdI .i64 (x21.add 1) fun (x160 : Int) =>
      mLdI .i64 (x21.add 2) fun (x163 : Int) =>
      mGuard (step0 ≠ 0) <|
      mBind (mIf (decide ((IntKind.i64.wrap (x151 + (IntKind.i64.wrap (Int.tdiv (IntKind.i64.wrap (turns11 - x154)) step0)))) > (IntKind.i64.wrap (x160 + (IntKind.i64.wrap (Int.tdiv (IntKind.i64.wrap (turns11 - x163)) step0)))))) (mRet true) (mBind (mIf ((IntKind.i64.wrap (x151 + (IntKind.i64.wrap (Int.tdiv (IntKind.i64.wrap (turns11 - x154)) step0)))) == (IntKind.i64.wrap (x160 + (IntKind.i64.wrap (Int.tdiv (IntKind.i64.wrap (turns11 - x163)) step0))))) (mLdI .i64 (x20.add 2) fun (x177 : Int) =>
        mLdI .i64 (x21.add 2) fun (x179 : Int) =>
        mRet (decide (x177 < x179))) (mRet false)) fun (b76 : Bool) =>
        mRet b76)) fun (b77 : Bool) =>
      mIf b77 (
        K_signalboxlaw51_AgingPlays_35 step0 x5 row10 turns11 t138 t80 t81 t82 t136 t137 (IntKind.i64.wrap (t138 + (1 : Int)))) (
        K_signalboxlaw51_AgingPlays_35 step0 x5 row10 turns11 best18 t80 t81 t82 t136 t137 (IntKind.i64.wrap (t138 + (1 : Int)))))) (
    mBind (N_aging_Line_Turn x5) fun r187 =>
    un2 (unI .i64) unB r187 fun (x187_0 : Int) (x187_1 : Bool) =>
    mBind (mIf (!(x187_1 == (decide (best18 ≥ (0 : Int))))) (mRet true) (mBind (mIf x187_1 (mIdx row10 best18 3 fun (x200 : Addr) =>
      mLdI .i64 x200 fun (x202 : Int) =>
      mRet (x187_0 != x202)) (mRet false)) fun (b82 : Bool) =>
      mRet b82)) fun (b83 : Bool) =>
    mIf b83 (
      mRet (.bool false)) (
      mIf x187_1 (
        mSlc row10 3 (0 : Int) best18 (row10.c : Int) fun (x210 : Sl) =>
        mSlc row10 3 (IntKind.i64.wrap (best18 + (1 : Int))) (row10.n : Int) (row10.c : Int) fun (x215 : Sl) =>
        mNew #[] 57 fun (x207 : Addr) =>
        mApp 57 3 24 #[.int .i64 (0 : Int), .int .i64 (0 : Int), .int .i64 (0 : Int)] ⟨(some x207), 0, 0⟩ x210 fun (x211 : Sl) =>
        mApp 57 3 24 #[.int .i64 (0 : Int), .int .i64 (0 : Int), .int .i64 (0 : Int)] x211 x215 fun (x216 : Sl) =>
        mBind (N_aging_Line_All x5) fun r241 =>
        unL r241 fun (x241 : Sl) =>
        mIf ((x241.n : Int) != (x216.n : Int)) (
          mRet (.bool false)) (
          K_signalboxlaw51_AgingPlays_59 step0 x5 x216 (IntKind.i64.wrap (turns11 + (1 : Int))) x241 t80 t81 t82 x216 (x216.n : Int) (0 : Int))) (
        mBind (N_aging_Line_All x5) fun r241_90 =>
        unL r241_90 fun (x241_90 : Sl) =>
        mIf ((x241_90.n : Int) != (row10.n : Int)) (
          mRet (.bool false)) (
          K_signalboxlaw51_AgingPlays_59 step0 x5 row10 turns11 x241_90 t80 t81 t82 row10 (row10.n : Int) (0 : Int)))))
def B_signalboxlaw51_AgingPlays_59 (step0 : Int) (x5 : Option Addr) (row10 : Sl) (turns11 : Int) (all26 : Sl) (t80 : Sl) (t81 : Int) (t82 : Int) (t247 : Sl) (t248 : Int) (t249 : Int) : M Value :=
  mIf (decide (t249 < t248)) (
    mIdx t247 t249 3 fun (x252 : Addr) =>
    mLdI .i64 x252 fun (x253_0 : Int) =>
    mLdI .i64 (x252.add 1) fun (x253_1 : Int) =>
    mLdI .i64 (x252.add 2) fun (x253_2 : Int) =>
    mNew #[.int .i64 (0 : Int), .int .i64 (0 : Int), .int .i64 (0 : Int)] 57 fun (x28 : Addr) =>
    mSt x28 (.int .i64 x253_0) <|
    mSt (x28.add 1) (.int .i64 x253_1) <|
    mSt (x28.add 2) (.int .i64 x253_2) <|
    mLdI .i64 x28 fun (x257 : Int) =>
    mBind (N_aging_Line_Priority x5 x257) fun r258 =>
    un2 (unI .i64) unB r258 fun (x258_0 : Int) (x258_1 : Bool) =>
    mIdx all26 t249 1 fun (x263 : Addr) =>
    mLdI .i64 x263 fun (x264 : Int) =>
    mLdI .i64 x28 fun (x266 : Int) =>
    mBind (mIf ((x264 != x266) || (!x258_1)) (mRet true) (mLdI .i64 (x28.add 1) fun (x275 : Int) =>
      mLdI .i64 (x28.add 2) fun (x278 : Int) =>
      mGuard (step0 ≠ 0) <|
      mRet (x258_0 != (IntKind.i64.wrap (x275 + (IntKind.i64.wrap (Int.tdiv (IntKind.i64.wrap (turns11 - x278)) step0))))))) fun (b107 : Bool) =>
    mIf b107 (
      mRet (.bool false)) (
      K_signalboxlaw51_AgingPlays_59 step0 x5 row10 turns11 all26 t80 t81 t82 t247 t248 (IntKind.i64.wrap (t249 + (1 : Int))))) (
    K_signalboxlaw51_AgingPlays_13 step0 x5 row10 turns11 t80 t81 (IntKind.i64.wrap (t82 + (1 : Int))))
theorem E_signalboxlaw51_AgingPlays (step0 : Int) (l1 : Sl) : ev Try.prog 8 Try.f8.results.toList C_signalboxlaw51_AgingPlays D_signalboxlaw51_AgingPlays 400 false [.code (bodyOf Try.f8)] (List.map some [.int .i64 step0, .slice l1.p l1.n l1.c] ++ List.replicate (Try.f8.ntmps - List.length ([.int .i64 step0, .slice l1.p l1.n l1.c] : List Value)) none) = B_signalboxlaw51_AgingPlays step0 l1 := by kernel_rfl
theorem S_signalboxlaw51_AgingPlays (step0 : Int) (l1 : Sl) {h : Hp} {Q : Value → Hp → Prop} (hb : B_signalboxlaw51_AgingPlays step0 l1 h Q) : N_signalboxlaw51_AgingPlays step0 l1 h Q :=
  Nf.of_ev Try.call8 Try.func8 (c := bodyOf Try.f8) rfl mixed C_signalboxlaw51_AgingPlays D_signalboxlaw51_AgingPlays 400 (args := [.int .i64 step0, .slice l1.p l1.n l1.c]) (by rw [E_signalboxlaw51_AgingPlays]; exact hb)
theorem E_signalboxlaw51_AgingPlays_13 (step0 : Int) (x5 : Option Addr) (row10 : Sl) (turns11 : Int) (t80 : Sl) (t81 : Int) (t82 : Int) : ev Try.prog 8 Try.f8.results.toList C_signalboxlaw51_AgingPlays D_signalboxlaw51_AgingPlays 400 true (todoOf Try.f8 13) (T_signalboxlaw51_AgingPlays_13 step0 x5 row10 turns11 t80 t81 t82) = B_signalboxlaw51_AgingPlays_13 step0 x5 row10 turns11 t80 t81 t82 := by kernel_rfl
theorem S_signalboxlaw51_AgingPlays_13 (step0 : Int) (x5 : Option Addr) (row10 : Sl) (turns11 : Int) (t80 : Sl) (t81 : Int) (t82 : Int) {h : Hp} {Q : Value → Hp → Prop} (hb : B_signalboxlaw51_AgingPlays_13 step0 x5 row10 turns11 t80 t81 t82 h Q) : K_signalboxlaw51_AgingPlays_13 step0 x5 row10 turns11 t80 t81 t82 h Q :=
  Cut.of_ev Try.func8 mixed C_signalboxlaw51_AgingPlays D_signalboxlaw51_AgingPlays 400 (by rw [E_signalboxlaw51_AgingPlays_13]; exact hb)
theorem E_signalboxlaw51_AgingPlays_17 (step0 : Int) (x5 : Option Addr) (row10 : Sl) (turns11 : Int) (a13 : Addr) (at14 : Int) (t80 : Sl) (t81 : Int) (t82 : Int) (t86 : Sl) (t87 : Int) (t88 : Int) : ev Try.prog 8 Try.f8.results.toList C_signalboxlaw51_AgingPlays D_signalboxlaw51_AgingPlays 400 true (todoOf Try.f8 17) (T_signalboxlaw51_AgingPlays_17 step0 x5 row10 turns11 a13 at14 t80 t81 t82 t86 t87 t88) = B_signalboxlaw51_AgingPlays_17 step0 x5 row10 turns11 a13 at14 t80 t81 t82 t86 t87 t88 := by kernel_rfl
theorem S_signalboxlaw51_AgingPlays_17 (step0 : Int) (x5 : Option Addr) (row10 : Sl) (turns11 : Int) (a13 : Addr) (at14 : Int) (t80 : Sl) (t81 : Int) (t82 : Int) (t86 : Sl) (t87 : Int) (t88 : Int) {h : Hp} {Q : Value → Hp → Prop} (hb : B_signalboxlaw51_AgingPlays_17 step0 x5 row10 turns11 a13 at14 t80 t81 t82 t86 t87 t88 h Q) : K_signalboxlaw51_AgingPlays_17 step0 x5 row10 turns11 a13 at14 t80 t81 t82 t86 t87 t88 h Q :=
  Cut.of_ev Try.func8 mixed C_signalboxlaw51_AgingPlays D_signalboxlaw51_AgingPlays 400 (by rw [E_signalboxlaw51_AgingPlays_17]; exact hb)
theorem E_signalboxlaw51_AgingPlays_30 (step0 : Int) (x5 : Option Addr) (row10 : Sl) (turns11 : Int) (a13 : Addr) (want17 : Int) (t80 : Sl) (t81 : Int) (t82 : Int) : ev Try.prog 8 Try.f8.results.toList C_signalboxlaw51_AgingPlays D_signalboxlaw51_AgingPlays 400 true (todoOf Try.f8 30) (T_signalboxlaw51_AgingPlays_30 step0 x5 row10 turns11 a13 want17 t80 t81 t82) = B_signalboxlaw51_AgingPlays_30 step0 x5 row10 turns11 a13 want17 t80 t81 t82 := by kernel_rfl
theorem S_signalboxlaw51_AgingPlays_30 (step0 : Int) (x5 : Option Addr) (row10 : Sl) (turns11 : Int) (a13 : Addr) (want17 : Int) (t80 : Sl) (t81 : Int) (t82 : Int) {h : Hp} {Q : Value → Hp → Prop} (hb : B_signalboxlaw51_AgingPlays_30 step0 x5 row10 turns11 a13 want17 t80 t81 t82 h Q) : K_signalboxlaw51_AgingPlays_30 step0 x5 row10 turns11 a13 want17 t80 t81 t82 h Q :=
  Cut.of_ev Try.func8 mixed C_signalboxlaw51_AgingPlays D_signalboxlaw51_AgingPlays 400 (by rw [E_signalboxlaw51_AgingPlays_30]; exact hb)
theorem E_signalboxlaw51_AgingPlays_35 (step0 : Int) (x5 : Option Addr) (row10 : Sl) (turns11 : Int) (best18 : Int) (t80 : Sl) (t81 : Int) (t82 : Int) (t136 : Sl) (t137 : Int) (t138 : Int) : ev Try.prog 8 Try.f8.results.toList C_signalboxlaw51_AgingPlays D_signalboxlaw51_AgingPlays 400 true (todoOf Try.f8 35) (T_signalboxlaw51_AgingPlays_35 step0 x5 row10 turns11 best18 t80 t81 t82 t136 t137 t138) = B_signalboxlaw51_AgingPlays_35 step0 x5 row10 turns11 best18 t80 t81 t82 t136 t137 t138 := by kernel_rfl
theorem S_signalboxlaw51_AgingPlays_35 (step0 : Int) (x5 : Option Addr) (row10 : Sl) (turns11 : Int) (best18 : Int) (t80 : Sl) (t81 : Int) (t82 : Int) (t136 : Sl) (t137 : Int) (t138 : Int) {h : Hp} {Q : Value → Hp → Prop} (hb : B_signalboxlaw51_AgingPlays_35 step0 x5 row10 turns11 best18 t80 t81 t82 t136 t137 t138 h Q) : K_signalboxlaw51_AgingPlays_35 step0 x5 row10 turns11 best18 t80 t81 t82 t136 t137 t138 h Q :=
  Cut.of_ev Try.func8 mixed C_signalboxlaw51_AgingPlays D_signalboxlaw51_AgingPlays 400 (by rw [E_signalboxlaw51_AgingPlays_35]; exact hb)
theorem E_signalboxlaw51_AgingPlays_59 (step0 : Int) (x5 : Option Addr) (row10 : Sl) (turns11 : Int) (all26 : Sl) (t80 : Sl) (t81 : Int) (t82 : Int) (t247 : Sl) (t248 : Int) (t249 : Int) : ev Try.prog 8 Try.f8.results.toList C_signalboxlaw51_AgingPlays D_signalboxlaw51_AgingPlays 400 true (todoOf Try.f8 59) (T_signalboxlaw51_AgingPlays_59 step0 x5 row10 turns11 all26 t80 t81 t82 t247 t248 t249) = B_signalboxlaw51_AgingPlays_59 step0 x5 row10 turns11 all26 t80 t81 t82 t247 t248 t249 := by kernel_rfl
theorem S_signalboxlaw51_AgingPlays_59 (step0 : Int) (x5 : Option Addr) (row10 : Sl) (turns11 : Int) (all26 : Sl) (t80 : Sl) (t81 : Int) (t82 : Int) (t247 : Sl) (t248 : Int) (t249 : Int) {h : Hp} {Q : Value → Hp → Prop} (hb : B_signalboxlaw51_AgingPlays_59 step0 x5 row10 turns11 all26 t80 t81 t82 t247 t248 t249 h Q) : K_signalboxlaw51_AgingPlays_59 step0 x5 row10 turns11 all26 t80 t81 t82 t247 t248 t249 h Q :=
  Cut.of_ev Try.func8 mixed C_signalboxlaw51_AgingPlays D_signalboxlaw51_AgingPlays 400 (by rw [E_signalboxlaw51_AgingPlays_59]; exact hb)
end Go.Proofs.Ytbpnpmknamghkaa
