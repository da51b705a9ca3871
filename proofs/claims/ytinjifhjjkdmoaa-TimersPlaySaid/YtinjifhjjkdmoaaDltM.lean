/- What the functions of this layer come to, as forms of the small logic; written by program. Conditions: none. -/
import Derived.Test.YtinjifhjjkdmoaaSbU
import Derived.Test.YtinjifhjjkdmoaaChecked
import Derived.KernelRfl
set_option maxRecDepth 100000
namespace Go.Proofs.Ytinjifhjjkdmoaa
open Go Go.Sb
theorem mixed : Try.prog.follows .mixedOrders = true := by kernel_rfl
def N_delta_New : M Value := Nf Try.prog 23 #[]
def N_delta_List_Put (l0 : Option Addr) (key1 : Int) (ticks2 : Int) : M Value := Nf Try.prog 24 #[.pointer l0, .int .i64 key1, .int .i64 ticks2]
def N_delta_List_Advance (l0 : Option Addr) (ticks1 : Int) : M Value := Nf Try.prog 25 #[.pointer l0, .int .i64 ticks1]
def N_delta_List_Keys (l0 : Option Addr) : M Value := Nf Try.prog 27 #[.pointer l0]
def N_delta_List_Gaps (l0 : Option Addr) : M Value := Nf Try.prog 28 #[.pointer l0]
def N_delta_List_Drop (l0 : Option Addr) (key1 : Int) : M Value := Nf Try.prog 31 #[.pointer l0, .int .i64 key1]
def N_delta_List_Next (l0 : Option Addr) : M Value := Nf Try.prog 34 #[.pointer l0]
def N_delta_List_Due (l0 : Option Addr) (key1 : Int) : M Value := Nf Try.prog 35 #[.pointer l0, .int .i64 key1]
def N_delta_List_link (l0 : Option Addr) (key1 : Int) : M Value := Nf Try.prog 67 #[.pointer l0, .int .i64 key1]
def N_delta_List_cut (l0 : Option Addr) (at1 : Option Addr) : M Value := Nf Try.prog 68 #[.pointer l0, .pointer at1]
def N_delta_List_each (l0 : Option Addr) (see1g : Nat) (see1f : Array Value) (see1c : Array Value) : M Value := Nf Try.prog 69 #[.pointer l0, .func (.func see1g) see1f see1c]
def N_delta_List_Keys_1 (n0 : Option Addr) (fv1 : Option Addr) : M Value := Nf Try.prog 70 #[.pointer n0, .pointer fv1]
def N_delta_List_Gaps_1 (n0 : Option Addr) (fv1 : Option Addr) : M Value := Nf Try.prog 71 #[.pointer n0, .pointer fv1]
def C_delta_New : List (Nat × List Nat) := []
def D_delta_New : List (Nat × List Nat) := []
def B_delta_New : M Value :=
  mNew #[.pointer none, .int .i64 (0 : Int)] 102 fun (x2 : Addr) =>
  mRet (.pointer (some x2))
theorem E_delta_New : ev Try.prog 23 Try.f23.results.toList C_delta_New D_delta_New 400 false [.code (bodyOf Try.f23)] (List.map some [] ++ List.replicate (Try.f23.ntmps - List.length ([] : List Value)) none) = B_delta_New := by kernel_rfl
theorem S_delta_New {h : Hp} {Q : Value → Hp → Prop} (hb : B_delta_New h Q) : N_delta_New h Q :=
  Nf.of_ev Try.call23 Try.func23 (c := bodyOf Try.f23) rfl mixed C_delta_New D_delta_New 400 (args := []) (by rw [E_delta_New]; exact hb)
def C_delta_List_Put : List (Nat × List Nat) := [(11, [0, 1, 2, 9]), (17, [0, 9, 10])]
def D_delta_List_Put : List (Nat × List Nat) := []
def T_delta_List_Put_11 (l0 : Option Addr) (key1 : Int) (ticks2 : Int) (at9 : Addr) : Env := mkEnv [(0, .pointer l0), (1, .int .i64 key1), (2, .int .i64 ticks2), (9, .pointer (some at9))] 99 0
def K_delta_List_Put_11 (l0 : Option Addr) (key1 : Int) (ticks2 : Int) (at9 : Addr) : M Value := Cut Try.prog 24 (todoOf Try.f24 11) (T_delta_List_Put_11 l0 key1 ticks2 at9)
def T_delta_List_Put_17 (l0 : Option Addr) (at9 : Addr) (x10 : Addr) : Env := mkEnv [(0, .pointer l0), (9, .pointer (some at9)), (10, .pointer (some x10))] 99 0
def K_delta_List_Put_17 (l0 : Option Addr) (at9 : Addr) (x10 : Addr) : M Value := Cut Try.prog 24 (todoOf Try.f24 17) (T_delta_List_Put_17 l0 at9 x10)
def B_delta_List_Put (l0 : Option Addr) (key1 : Int) (ticks2 : Int) : M Value :=
  mBind (N_delta_List_link l0 key1) fun r14 =>
  un2 unP (unI .i64) r14 fun (x14_0 : Option Addr) (_x14_1 : Int) =>
  mIf l0.isNone (
    mRet (.int .i64 (1 : Int))) (
    mIf ((decide (ticks2 < (0 : Int))) || (decide (ticks2 > (16777216 : Int)))) (
      mRet (.int .i64 (5 : Int))) (
      mIf (!x14_0.isNone) (
        mRet (.int .i64 (10 : Int))) (
        mNil l0 fun (a3 : Addr) =>
        mLdI .i64 (a3.add 1) fun (x34 : Int) =>
        mIf (decide (x34 ≥ (256 : Int))) (
          mRet (.int .i64 (7 : Int))) (
          mNil l0 fun (a7 : Addr) =>
          K_delta_List_Put_11 l0 key1 ticks2 a7))))
def B_delta_List_Put_11 (l0 : Option Addr) (key1 : Int) (ticks2 : Int) (at9 : Addr) : M Value :=
  mLdP at9 fun (x41 : Option Addr) =>
  mBind (mIf (!x41.isNone) (mLdP at9 fun (x46 : Option Addr) =>
    mNil x46 fun (a14 : Addr) =>
    mLdI .i64 (a14.add 1) fun (x49 : Int) =>
    mRet (decide (x49 ≤ ticks2))) (mRet false)) fun (b17 : Bool) =>
  mIf b17 (
    mLdP at9 fun (x56 : Option Addr) =>
    mNil x56 fun (a21 : Addr) =>
    mLdI .i64 (a21.add 1) fun (x59 : Int) =>
    mLdP at9 fun (x63 : Option Addr) =>
    mNil x63 fun (a27 : Addr) =>
    K_delta_List_Put_11 l0 key1 (IntKind.i64.wrap (ticks2 - x59)) (a27.add 2)) (
    mLdP at9 fun (x70 : Option Addr) =>
    mNew #[.int .i64 key1, .int .i64 ticks2, .pointer x70] 107 fun (x72 : Addr) =>
    mLdP (x72.add 2) fun (x76 : Option Addr) =>
    mIf (!x76.isNone) (
      mLdP (x72.add 2) fun (x81 : Option Addr) =>
      mNil x81 fun (a39 : Addr) =>
      mLdI .i64 (a39.add 1) fun (x84 : Int) =>
      mNil x81 fun (a43 : Addr) =>
      mSt (a43.add 1) (.int .i64 (IntKind.i64.wrap (x84 - ticks2))) <|
      K_delta_List_Put_17 l0 at9 x72) (
      K_delta_List_Put_17 l0 at9 x72))
def B_delta_List_Put_17 (l0 : Option Addr) (at9 : Addr) (x10 : Addr) : M Value :=
  mSt at9 (.pointer (some x10)) <|
  mNil l0 fun (a49 : Addr) =>
  mLdI .i64 (a49.add 1) fun (x95 : Int) =>
  mNil l0 fun (a53 : Addr) =>
  mSt (a53.add 1) (.int .i64 (IntKind.i64.wrap (x95 + (1 : Int)))) <|
  mRet (.int .i64 (0 : Int))
theorem E_delta_List_Put (l0 : Option Addr) (key1 : Int) (ticks2 : Int) : ev Try.prog 24 Try.f24.results.toList C_delta_List_Put D_delta_List_Put 400 false [.code (bodyOf Try.f24)] (List.map some [.pointer l0, .int .i64 key1, .int .i64 ticks2] ++ List.replicate (Try.f24.ntmps - List.length ([.pointer l0, .int .i64 key1, .int .i64 ticks2] : List Value)) none) = B_delta_List_Put l0 key1 ticks2 := by kernel_rfl
theorem S_delta_List_Put (l0 : Option Addr) (key1 : Int) (ticks2 : Int) {h : Hp} {Q : Value → Hp → Prop} (hb : B_delta_List_Put l0 key1 ticks2 h Q) : N_delta_List_Put l0 key1 ticks2 h Q :=
  Nf.of_ev Try.call24 Try.func24 (c := bodyOf Try.f24) rfl mixed C_delta_List_Put D_delta_List_Put 400 (args := [.pointer l0, .int .i64 key1, .int .i64 ticks2]) (by rw [E_delta_List_Put]; exact hb)
theorem E_delta_List_Put_11 (l0 : Option Addr) (key1 : Int) (ticks2 : Int) (at9 : Addr) : ev Try.prog 24 Try.f24.results.toList C_delta_List_Put D_delta_List_Put 400 true (todoOf Try.f24 11) (T_delta_List_Put_11 l0 key1 ticks2 at9) = B_delta_List_Put_11 l0 key1 ticks2 at9 := by kernel_rfl
theorem S_delta_List_Put_11 (l0 : Option Addr) (key1 : Int) (ticks2 : Int) (at9 : Addr) {h : Hp} {Q : Value → Hp → Prop} (hb : B_delta_List_Put_11 l0 key1 ticks2 at9 h Q) : K_delta_List_Put_11 l0 key1 ticks2 at9 h Q :=
  Cut.of_ev Try.func24 mixed C_delta_List_Put D_delta_List_Put 400 (by rw [E_delta_List_Put_11]; exact hb)
theorem E_delta_List_Put_17 (l0 : Option Addr) (at9 : Addr) (x10 : Addr) : ev Try.prog 24 Try.f24.results.toList C_delta_List_Put D_delta_List_Put 400 true (todoOf Try.f24 17) (T_delta_List_Put_17 l0 at9 x10) = B_delta_List_Put_17 l0 at9 x10 := by kernel_rfl
theorem S_delta_List_Put_17 (l0 : Option Addr) (at9 : Addr) (x10 : Addr) {h : Hp} {Q : Value → Hp → Prop} (hb : B_delta_List_Put_17 l0 at9 x10 h Q) : K_delta_List_Put_17 l0 at9 x10 h Q :=
  Cut.of_ev Try.func24 mixed C_delta_List_Put D_delta_List_Put 400 (by rw [E_delta_List_Put_17]; exact hb)
def C_delta_List_Advance : List (Nat × List Nat) := [(4, [0, 1, 5])]
def D_delta_List_Advance : List (Nat × List Nat) := []
def T_delta_List_Advance_4 (l0 : Option Addr) (ticks1 : Int) (out5 : Sl) : Env := mkEnv [(0, .pointer l0), (1, .int .i64 ticks1), (5, .slice out5.p out5.n out5.c)] 75 0
def K_delta_List_Advance_4 (l0 : Option Addr) (ticks1 : Int) (out5 : Sl) : M Value := Cut Try.prog 25 (todoOf Try.f25 4) (T_delta_List_Advance_4 l0 ticks1 out5)
def B_delta_List_Advance (l0 : Option Addr) (ticks1 : Int) : M Value :=
  mIf (l0.isNone || (decide (ticks1 < (0 : Int)))) (
    mRet (.slice none (0) (0))) (
    K_delta_List_Advance_4 l0 ticks1 (Sl.mk none 0 0))
def B_delta_List_Advance_4 (l0 : Option Addr) (ticks1 : Int) (out5 : Sl) : M Value :=
  mNil l0 fun (a2 : Addr) =>
  mLdP a2 fun (x15 : Option Addr) =>
  mBind (mIf (!x15.isNone) (mNil l0 fun (a6 : Addr) =>
    mLdP a6 fun (x21 : Option Addr) =>
    mNil x21 fun (a10 : Addr) =>
    mLdI .i64 (a10.add 1) fun (x24 : Int) =>
    mRet (decide (x24 ≤ ticks1))) (mRet false)) fun (b13 : Bool) =>
  mIf b13 (
    mNil l0 fun (a15 : Addr) =>
    mLdP a15 fun (x32 : Option Addr) =>
    mNil x32 fun (a19 : Addr) =>
    mLdI .i64 (a19.add 1) fun (x35 : Int) =>
    mNil l0 fun (a23 : Addr) =>
    mLdP a23 fun (x41 : Option Addr) =>
    mNil x41 fun (a27 : Addr) =>
    mLdI .i64 a27 fun (x44 : Int) =>
    mNew #[.int .i64 x44] 3 fun (x45 : Addr) =>
    mApp 3 1 8 #[.int .i64 (0 : Int)] out5 ⟨(some x45), 1, 1⟩ fun (x46 : Sl) =>
    mNil l0 fun (a33 : Addr) =>
    mLdP a33 fun (x50 : Option Addr) =>
    mNil x50 fun (a37 : Addr) =>
    mSt (a37.add 1) (.int .i64 (0 : Int)) <|
    mNil l0 fun (a41 : Addr) =>
    mBind (N_delta_List_cut l0 (some a41)) fun _r57 =>
    K_delta_List_Advance_4 l0 (IntKind.i64.wrap (ticks1 - x35)) x46) (
    mNil l0 fun (a45 : Addr) =>
    mLdP a45 fun (x61 : Option Addr) =>
    mIf (!x61.isNone) (
      mNil l0 fun (a49 : Addr) =>
      mLdP a49 fun (x66 : Option Addr) =>
      mNil x66 fun (a53 : Addr) =>
      mLdI .i64 (a53.add 1) fun (x69 : Int) =>
      mNil x66 fun (a57 : Addr) =>
      mSt (a57.add 1) (.int .i64 (IntKind.i64.wrap (x69 - ticks1))) <|
      mRet (.slice out5.p out5.n out5.c)) (
      mRet (.slice out5.p out5.n out5.c)))
theorem E_delta_List_Advance (l0 : Option Addr) (ticks1 : Int) : ev Try.prog 25 Try.f25.results.toList C_delta_List_Advance D_delta_List_Advance 400 false [.code (bodyOf Try.f25)] (List.map some [.pointer l0, .int .i64 ticks1] ++ List.replicate (Try.f25.ntmps - List.length ([.pointer l0, .int .i64 ticks1] : List Value)) none) = B_delta_List_Advance l0 ticks1 := by kernel_rfl
theorem S_delta_List_Advance (l0 : Option Addr) (ticks1 : Int) {h : Hp} {Q : Value → Hp → Prop} (hb : B_delta_List_Advance l0 ticks1 h Q) : N_delta_List_Advance l0 ticks1 h Q :=
  Nf.of_ev Try.call25 Try.func25 (c := bodyOf Try.f25) rfl mixed C_delta_List_Advance D_delta_List_Advance 400 (args := [.pointer l0, .int .i64 ticks1]) (by rw [E_delta_List_Advance]; exact hb)
theorem E_delta_List_Advance_4 (l0 : Option Addr) (ticks1 : Int) (out5 : Sl) : ev Try.prog 25 Try.f25.results.toList C_delta_List_Advance D_delta_List_Advance 400 true (todoOf Try.f25 4) (T_delta_List_Advance_4 l0 ticks1 out5) = B_delta_List_Advance_4 l0 ticks1 out5 := by kernel_rfl
theorem S_delta_List_Advance_4 (l0 : Option Addr) (ticks1 : Int) (out5 : Sl) {h : Hp} {Q : Value → Hp → Prop} (hb : B_delta_List_Advance_4 l0 ticks1 out5 h Q) : K_delta_List_Advance_4 l0 ticks1 out5 h Q :=
  Cut.of_ev Try.func25 mixed C_delta_List_Advance D_delta_List_Advance 400 (by rw [E_delta_List_Advance_4]; exact hb)
def C_delta_List_Keys : List (Nat × List Nat) := []
def D_delta_List_Keys : List (Nat × List Nat) := []
def B_delta_List_Keys (l0 : Option Addr) : M Value :=
  mNew #[.slice none (0) (0)] 22 fun (x3 : Addr) =>
  mBind (N_delta_List_each l0 (70) (#[]) (#[.pointer (some x3)])) fun _r6 =>
  mLdL x3 fun (x7 : Sl) =>
  mRet (.slice x7.p x7.n x7.c)
theorem E_delta_List_Keys (l0 : Option Addr) : ev Try.prog 27 Try.f27.results.toList C_delta_List_Keys D_delta_List_Keys 400 false [.code (bodyOf Try.f27)] (List.map some [.pointer l0] ++ List.replicate (Try.f27.ntmps - List.length ([.pointer l0] : List Value)) none) = B_delta_List_Keys l0 := by kernel_rfl
theorem S_delta_List_Keys (l0 : Option Addr) {h : Hp} {Q : Value → Hp → Prop} (hb : B_delta_List_Keys l0 h Q) : N_delta_List_Keys l0 h Q :=
  Nf.of_ev Try.call27 Try.func27 (c := bodyOf Try.f27) rfl mixed C_delta_List_Keys D_delta_List_Keys 400 (args := [.pointer l0]) (by rw [E_delta_List_Keys]; exact hb)
def C_delta_List_Gaps : List (Nat × List Nat) := []
def D_delta_List_Gaps : List (Nat × List Nat) := []
def B_delta_List_Gaps (l0 : Option Addr) : M Value :=
  mNew #[.slice none (0) (0)] 22 fun (x3 : Addr) =>
  mBind (N_delta_List_each l0 (71) (#[]) (#[.pointer (some x3)])) fun _r6 =>
  mLdL x3 fun (x7 : Sl) =>
  mRet (.slice x7.p x7.n x7.c)
theorem E_delta_List_Gaps (l0 : Option Addr) : ev Try.prog 28 Try.f28.results.toList C_delta_List_Gaps D_delta_List_Gaps 400 false [.code (bodyOf Try.f28)] (List.map some [.pointer l0] ++ List.replicate (Try.f28.ntmps - List.length ([.pointer l0] : List Value)) none) = B_delta_List_Gaps l0 := by kernel_rfl
theorem S_delta_List_Gaps (l0 : Option Addr) {h : Hp} {Q : Value → Hp → Prop} (hb : B_delta_List_Gaps l0 h Q) : N_delta_List_Gaps l0 h Q :=
  Nf.of_ev Try.call28 Try.func28 (c := bodyOf Try.f28) rfl mixed C_delta_List_Gaps D_delta_List_Gaps 400 (args := [.pointer l0]) (by rw [E_delta_List_Gaps]; exact hb)
def C_delta_List_Drop : List (Nat × List Nat) := []
def D_delta_List_Drop : List (Nat × List Nat) := []
def B_delta_List_Drop (l0 : Option Addr) (key1 : Int) : M Value :=
  mBind (N_delta_List_link l0 key1) fun r10 =>
  un2 unP (unI .i64) r10 fun (x10_0 : Option Addr) (_x10_1 : Int) =>
  mIf x10_0.isNone (
    mRet (.bool false)) (
    mBind (N_delta_List_cut l0 x10_0) fun _r17 =>
    mRet (.bool true))
theorem E_delta_List_Drop (l0 : Option Addr) (key1 : Int) : ev Try.prog 31 Try.f31.results.toList C_delta_List_Drop D_delta_List_Drop 400 false [.code (bodyOf Try.f31)] (List.map some [.pointer l0, .int .i64 key1] ++ List.replicate (Try.f31.ntmps - List.length ([.pointer l0, .int .i64 key1] : List Value)) none) = B_delta_List_Drop l0 key1 := by kernel_rfl
theorem S_delta_List_Drop (l0 : Option Addr) (key1 : Int) {h : Hp} {Q : Value → Hp → Prop} (hb : B_delta_List_Drop l0 key1 h Q) : N_delta_List_Drop l0 key1 h Q :=
  Nf.of_ev Try.call31 Try.func31 (c := bodyOf Try.f31) rfl mixed C_delta_List_Drop D_delta_List_Drop 400 (args := [.pointer l0, .int .i64 key1]) (by rw [E_delta_List_Drop]; exact hb)
def C_delta_List_Next : List (Nat × List Nat) := []
def D_delta_List_Next : List (Nat × List Nat) := []
def B_delta_List_Next (l0 : Option Addr) : M Value :=
  mBind (mIf l0.isNone (mRet true) (mNil l0 fun (a2 : Addr) =>
    mLdP a2 fun (x10 : Option Addr) =>
    mRet x10.isNone)) fun (b5 : Bool) =>
  mIf b5 (
    mRet (.tuple #[.int .i64 (0 : Int), .bool false])) (
    mNil l0 fun (a7 : Addr) =>
    mLdP a7 fun (x16 : Option Addr) =>
    mNil x16 fun (a11 : Addr) =>
    mLdI .i64 (a11.add 1) fun (x19 : Int) =>
    mRet (.tuple #[.int .i64 x19, .bool true]))
theorem E_delta_List_Next (l0 : Option Addr) : ev Try.prog 34 Try.f34.results.toList C_delta_List_Next D_delta_List_Next 400 false [.code (bodyOf Try.f34)] (List.map some [.pointer l0] ++ List.replicate (Try.f34.ntmps - List.length ([.pointer l0] : List Value)) none) = B_delta_List_Next l0 := by kernel_rfl
theorem S_delta_List_Next (l0 : Option Addr) {h : Hp} {Q : Value → Hp → Prop} (hb : B_delta_List_Next l0 h Q) : N_delta_List_Next l0 h Q :=
  Nf.of_ev Try.call34 Try.func34 (c := bodyOf Try.f34) rfl mixed C_delta_List_Next D_delta_List_Next 400 (args := [.pointer l0]) (by rw [E_delta_List_Next]; exact hb)
def C_delta_List_Due : List (Nat × List Nat) := []
def D_delta_List_Due : List (Nat × List Nat) := []
def B_delta_List_Due (l0 : Option Addr) (key1 : Int) : M Value :=
  mBind (N_delta_List_link l0 key1) fun r11 =>
  un2 unP (unI .i64) r11 fun (x11_0 : Option Addr) (x11_1 : Int) =>
  mRet (.tuple #[.int .i64 x11_1, .bool (!x11_0.isNone)])
theorem E_delta_List_Due (l0 : Option Addr) (key1 : Int) : ev Try.prog 35 Try.f35.results.toList C_delta_List_Due D_delta_List_Due 400 false [.code (bodyOf Try.f35)] (List.map some [.pointer l0, .int .i64 key1] ++ List.replicate (Try.f35.ntmps - List.length ([.pointer l0, .int .i64 key1] : List Value)) none) = B_delta_List_Due l0 key1 := by kernel_rfl
theorem S_delta_List_Due (l0 : Option Addr) (key1 : Int) {h : Hp} {Q : Value → Hp → Prop} (hb : B_delta_List_Due l0 key1 h Q) : N_delta_List_Due l0 key1 h Q :=
  Nf.of_ev Try.call35 Try.func35 (c := bodyOf Try.f35) rfl mixed C_delta_List_Due D_delta_List_Due 400 (args := [.pointer l0, .int .i64 key1]) (by rw [E_delta_List_Due]; exact hb)
def C_delta_List_link : List (Nat × List Nat) := [(5, [1, 6, 7])]
def D_delta_List_link : List (Nat × List Nat) := []
def T_delta_List_link_5 (key1 : Int) (due6 : Int) (at7 : Addr) : Env := mkEnv [(1, .int .i64 key1), (6, .int .i64 due6), (7, .pointer (some at7))] 40 0
def K_delta_List_link_5 (key1 : Int) (due6 : Int) (at7 : Addr) : M Value := Cut Try.prog 67 (todoOf Try.f67 5) (T_delta_List_link_5 key1 due6 at7)
def B_delta_List_link (l0 : Option Addr) (key1 : Int) : M Value :=
  mIf l0.isNone (
    mRet (.tuple #[.pointer none, .int .i64 (0 : Int)])) (
    mNil l0 fun (a2 : Addr) =>
    K_delta_List_link_5 key1 (0 : Int) a2)
def B_delta_List_link_5 (key1 : Int) (due6 : Int) (at7 : Addr) : M Value :=
  mLdP at7 fun (x15 : Option Addr) =>
  mIf (!x15.isNone) (
    mLdP at7 fun (x25 : Option Addr) =>
    mNil x25 fun (a9 : Addr) =>
    mLdI .i64 (a9.add 1) fun (x28 : Int) =>
    mLdP at7 fun (x32 : Option Addr) =>
    mNil x32 fun (a15 : Addr) =>
    mLdI .i64 a15 fun (x35 : Int) =>
    mIf (x35 == key1) (
      mRet (.tuple #[.pointer (some at7), .int .i64 (IntKind.i64.wrap (due6 + x28))])) (
      mLdP at7 fun (x19 : Option Addr) =>
      mNil x19 fun (a21 : Addr) =>
      K_delta_List_link_5 key1 (IntKind.i64.wrap (due6 + x28)) (a21.add 2))) (
    mRet (.tuple #[.pointer none, .int .i64 (0 : Int)]))
theorem E_delta_List_link (l0 : Option Addr) (key1 : Int) : ev Try.prog 67 Try.f67.results.toList C_delta_List_link D_delta_List_link 400 false [.code (bodyOf Try.f67)] (List.map some [.pointer l0, .int .i64 key1] ++ List.replicate (Try.f67.ntmps - List.length ([.pointer l0, .int .i64 key1] : List Value)) none) = B_delta_List_link l0 key1 := by kernel_rfl
theorem S_delta_List_link (l0 : Option Addr) (key1 : Int) {h : Hp} {Q : Value → Hp → Prop} (hb : B_delta_List_link l0 key1 h Q) : N_delta_List_link l0 key1 h Q :=
  Nf.of_ev Try.call67 Try.func67 (c := bodyOf Try.f67) rfl mixed C_delta_List_link D_delta_List_link 400 (args := [.pointer l0, .int .i64 key1]) (by rw [E_delta_List_link]; exact hb)
theorem E_delta_List_link_5 (key1 : Int) (due6 : Int) (at7 : Addr) : ev Try.prog 67 Try.f67.results.toList C_delta_List_link D_delta_List_link 400 true (todoOf Try.f67 5) (T_delta_List_link_5 key1 due6 at7) = B_delta_List_link_5 key1 due6 at7 := by kernel_rfl
theorem S_delta_List_link_5 (key1 : Int) (due6 : Int) (at7 : Addr) {h : Hp} {Q : Value → Hp → Prop} (hb : B_delta_List_link_5 key1 due6 at7 h Q) : K_delta_List_link_5 key1 due6 at7 h Q :=
  Cut.of_ev Try.func67 mixed C_delta_List_link D_delta_List_link 400 (by rw [E_delta_List_link_5]; exact hb)
def C_delta_List_cut : List (Nat × List Nat) := [(3, [0, 1, 4])]
def D_delta_List_cut : List (Nat × List Nat) := [(2, [0, 1, 2, 3, 4, 5, 6, 7, 8, 9, 10, 11])]
def T_delta_List_cut_3 (l0 : Option Addr) (at1 : Option Addr) (x4 : Option Addr) : Env := mkEnv [(0, .pointer l0), (1, .pointer at1), (4, .pointer x4)] 40 0
def K_delta_List_cut_3 (l0 : Option Addr) (at1 : Option Addr) (x4 : Option Addr) : M Value := Cut Try.prog 68 (todoOf Try.f68 3) (T_delta_List_cut_3 l0 at1 x4)
def B_delta_List_cut (l0 : Option Addr) (at1 : Option Addr) : M Value :=
  mNil at1 fun (a2 : Addr) =>
  mLdP a2 fun (x7 : Option Addr) =>
  mNil x7 fun (a5 : Addr) =>
  mLdP (a5.add 2) fun (x11 : Option Addr) =>
  mIf (!x11.isNone) (
    mNil x7 fun (a9 : Addr) =>
    mLdP (a9.add 2) fun (x16 : Option Addr) =>
    mNil x16 fun (a13 : Addr) =>
    mLdI .i64 (a13.add 1) fun (x19 : Int) =>
    mNil x7 fun (a17 : Addr) =>
    mLdI .i64 (a17.add 1) fun (x23 : Int) =>
    mNil x16 fun (a21 : Addr) =>
    mSt (a21.add 1) (.int .i64 (IntKind.i64.wrap (x19 + x23))) <|
    K_delta_List_cut_3 l0 at1 x7) (
    K_delta_List_cut_3 l0 at1 x7)
def B_delta_List_cut_3 (l0 : Option Addr) (at1 : Option Addr) (x4 : Option Addr) : M Value :=
  mNil x4 fun (a25 : Addr) =>
  mLdP (a25.add 2) fun (x31 : Option Addr) =>
  mNil at1 fun (a29 : Addr) =>
  mSt a29 (.pointer x31) <|
  mNil l0 fun (a32 : Addr) =>
  mLdI .i64 (a32.add 1) fun (x36 : Int) =>
  mNil l0 fun (a36 : Addr) =>
  mSt (a36.add 1) (.int .i64 (IntKind.i64.wrap (x36 - (1 : Int)))) <|
  mRet (.tuple #[])
theorem E_delta_List_cut (l0 : Option Addr) (at1 : Option Addr) : ev Try.prog 68 Try.f68.results.toList C_delta_List_cut D_delta_List_cut 400 false [.code (bodyOf Try.f68)] (List.map some [.pointer l0, .pointer at1] ++ List.replicate (Try.f68.ntmps - List.length ([.pointer l0, .pointer at1] : List Value)) none) = B_delta_List_cut l0 at1 := by kernel_rfl
theorem S_delta_List_cut (l0 : Option Addr) (at1 : Option Addr) {h : Hp} {Q : Value → Hp → Prop} (hb : B_delta_List_cut l0 at1 h Q) : N_delta_List_cut l0 at1 h Q :=
  Nf.of_ev Try.call68 Try.func68 (c := bodyOf Try.f68) rfl mixed C_delta_List_cut D_delta_List_cut 400 (args := [.pointer l0, .pointer at1]) (by rw [E_delta_List_cut]; exact hb)
theorem E_delta_List_cut_3 (l0 : Option Addr) (at1 : Option Addr) (x4 : Option Addr) : ev Try.prog 68 Try.f68.results.toList C_delta_List_cut D_delta_List_cut 400 true (todoOf Try.f68 3) (T_delta_List_cut_3 l0 at1 x4) = B_delta_List_cut_3 l0 at1 x4 := by kernel_rfl
theorem S_delta_List_cut_3 (l0 : Option Addr) (at1 : Option Addr) (x4 : Option Addr) {h : Hp} {Q : Value → Hp → Prop} (hb : B_delta_List_cut_3 l0 at1 x4 h Q) : K_delta_List_cut_3 l0 at1 x4 h Q :=
  Cut.of_ev Try.func68 mixed C_delta_List_cut D_delta_List_cut 400 (by rw [E_delta_List_cut_3]; exact hb)
def C_delta_List_each : List (Nat × List Nat) := [(2, [1, 4])]
def D_delta_List_each : List (Nat × List Nat) := []
def T_delta_List_each_2 (see1g : Nat) (see1f : Array Value) (see1c : Array Value) (n4 : Option Addr) : Env := mkEnv [(1, .func (.func see1g) see1f see1c), (4, .pointer n4)] 20 0
def K_delta_List_each_2 (see1g : Nat) (see1f : Array Value) (see1c : Array Value) (n4 : Option Addr) : M Value := Cut Try.prog 69 (todoOf Try.f69 2) (T_delta_List_each_2 see1g see1f see1c n4)
def B_delta_List_each (l0 : Option Addr) (see1g : Nat) (see1f : Array Value) (see1c : Array Value) : M Value :=
  mIf l0.isNone (
    mRet (.tuple #[])) (
    mNil l0 fun (a2 : Addr) =>
    mLdP a2 fun (x10 : Option Addr) =>
    K_delta_List_each_2 see1g see1f see1c x10)
def B_delta_List_each_2 (see1g : Nat) (see1f : Array Value) (see1c : Array Value) (n4 : Option Addr) : M Value :=
  mIf (!n4.isNone) (
    mBind (Nf Try.prog see1g (see1f ++ #[.pointer n4] ++ see1c)) fun _r19 =>
    mNil n4 fun (a7 : Addr) =>
    mLdP (a7.add 2) fun (x16 : Option Addr) =>
    K_delta_List_each_2 see1g see1f see1c x16) (
    mRet (.tuple #[]))
theorem E_delta_List_each (l0 : Option Addr) (see1g : Nat) (see1f : Array Value) (see1c : Array Value) : ev Try.prog 69 Try.f69.results.toList C_delta_List_each D_delta_List_each 400 false [.code (bodyOf Try.f69)] (List.map some [.pointer l0, .func (.func see1g) see1f see1c] ++ List.replicate (Try.f69.ntmps - List.length ([.pointer l0, .func (.func see1g) see1f see1c] : List Value)) none) = B_delta_List_each l0 see1g see1f see1c := by kernel_rfl
theorem S_delta_List_each (l0 : Option Addr) (see1g : Nat) (see1f : Array Value) (see1c : Array Value) {h : Hp} {Q : Value → Hp → Prop} (hb : B_delta_List_each l0 see1g see1f see1c h Q) : N_delta_List_each l0 see1g see1f see1c h Q :=
  Nf.of_ev Try.call69 Try.func69 (c := bodyOf Try.f69) rfl mixed C_delta_List_each D_delta_List_each 400 (args := [.pointer l0, .func (.func see1g) see1f see1c]) (by rw [E_delta_List_each]; exact hb)
theorem E_delta_List_each_2 (see1g : Nat) (see1f : Array Value) (see1c : Array Value) (n4 : Option Addr) : ev Try.prog 69 Try.f69.results.toList C_delta_List_each D_delta_List_each 400 true (todoOf Try.f69 2) (T_delta_List_each_2 see1g see1f see1c n4) = B_delta_List_each_2 see1g see1f see1c n4 := by kernel_rfl
theorem S_delta_List_each_2 (see1g : Nat) (see1f : Array Value) (see1c : Array Value) (n4 : Option Addr) {h : Hp} {Q : Value → Hp → Prop} (hb : B_delta_List_each_2 see1g see1f see1c n4 h Q) : K_delta_List_each_2 see1g see1f see1c n4 h Q :=
  Cut.of_ev Try.func69 mixed C_delta_List_each D_delta_List_each 400 (by rw [E_delta_List_each_2]; exact hb)
def C_delta_List_Keys_1 : List (Nat × List Nat) := []
def D_delta_List_Keys_1 : List (Nat × List Nat) := [(0, [])]
def B_delta_List_Keys_1 (n0 : Option Addr) (fv1 : Option Addr) : M Value :=
  mNil n0 fun (a2 : Addr) =>
  mAnd (
    mNil fv1 fun (a18 : Addr) =>
    mLdL a18 fun (x3_17 : Sl) =>
    mLdI .i64 a2 fun (x7_19 : Int) =>
    mNew #[.int .i64 x7_19] 3 fun (x8_20 : Addr) =>
    mApp 3 1 8 #[.int .i64 (0 : Int)] x3_17 ⟨(some x8_20), 1, 1⟩ fun (x9_21 : Sl) =>
    mNil fv1 fun (a23 : Addr) =>
    mSt a23 (.slice x9_21.p x9_21.n x9_21.c) <|
    mRet (.tuple #[])) (
    mLdI .i64 a2 fun (x7 : Int) =>
    mAnd (
      mNil fv1 fun (a12 : Addr) =>
      mLdL a12 fun (x3_11 : Sl) =>
      mNew #[.int .i64 x7] 3 fun (x8_13 : Addr) =>
      mApp 3 1 8 #[.int .i64 (0 : Int)] x3_11 ⟨(some x8_13), 1, 1⟩ fun (x9_14 : Sl) =>
      mNil fv1 fun (a16 : Addr) =>
      mSt a16 (.slice x9_14.p x9_14.n x9_14.c) <|
      mRet (.tuple #[])) (
      mNew #[.int .i64 x7] 3 fun (x8 : Addr) =>
      mNil fv1 fun (a7 : Addr) =>
      mLdL a7 fun (x3 : Sl) =>
      mApp 3 1 8 #[.int .i64 (0 : Int)] x3 ⟨(some x8), 1, 1⟩ fun (x9 : Sl) =>
      mNil fv1 fun (a10 : Addr) =>
      mSt a10 (.slice x9.p x9.n x9.c) <|
      mRet (.tuple #[])))
theorem E_delta_List_Keys_1 (n0 : Option Addr) (fv1 : Option Addr) : ev Try.prog 70 Try.f70.results.toList C_delta_List_Keys_1 D_delta_List_Keys_1 400 false [.code (bodyOf Try.f70)] (List.map some [.pointer n0, .pointer fv1] ++ List.replicate (Try.f70.ntmps - List.length ([.pointer n0, .pointer fv1] : List Value)) none) = B_delta_List_Keys_1 n0 fv1 := by kernel_rfl
theorem S_delta_List_Keys_1 (n0 : Option Addr) (fv1 : Option Addr) {h : Hp} {Q : Value → Hp → Prop} (hb : B_delta_List_Keys_1 n0 fv1 h Q) : N_delta_List_Keys_1 n0 fv1 h Q :=
  Nf.of_ev Try.call70 Try.func70 (c := bodyOf Try.f70) rfl mixed C_delta_List_Keys_1 D_delta_List_Keys_1 400 (args := [.pointer n0, .pointer fv1]) (by rw [E_delta_List_Keys_1]; exact hb)
def C_delta_List_Gaps_1 : List (Nat × List Nat) := []
def D_delta_List_Gaps_1 : List (Nat × List Nat) := [(0, [])]
def B_delta_List_Gaps_1 (n0 : Option Addr) (fv1 : Option Addr) : M Value :=
  mNil n0 fun (a2 : Addr) =>
  mAnd (
    mNil fv1 fun (a18 : Addr) =>
    mLdL a18 fun (x3_17 : Sl) =>
    mLdI .i64 (a2.add 1) fun (x7_19 : Int) =>
    mNew #[.int .i64 x7_19] 3 fun (x8_20 : Addr) =>
    mApp 3 1 8 #[.int .i64 (0 : Int)] x3_17 ⟨(some x8_20), 1, 1⟩ fun (x9_21 : Sl) =>
    mNil fv1 fun (a23 : Addr) =>
    mSt a23 (.slice x9_21.p x9_21.n x9_21.c) <|
    mRet (.tuple #[])) (
    mLdI .i64 (a2.add 1) fun (x7 : Int) =>
    mAnd (
      mNil fv1 fun (a12 : Addr) =>
      mLdL a12 fun (x3_11 : Sl) =>
      mNew #[.int .i64 x7] 3 fun (x8_13 : Addr) =>
      mApp 3 1 8 #[.int .i64 (0 : Int)] x3_11 ⟨(some x8_13), 1, 1⟩ fun (x9_14 : Sl) =>
      mNil fv1 fun (a16 : Addr) =>
      mSt a16 (.slice x9_14.p x9_14.n x9_14.c) <|
      mRet (.tuple #[])) (
      mNew #[.int .i64 x7] 3 fun (x8 : Addr) =>
      mNil fv1 fun (a7 : Addr) =>
      mLdL a7 fun (x3 : Sl) =>
      mApp 3 1 8 #[.int .i64 (0 : Int)] x3 ⟨(some x8), 1, 1⟩ fun (x9 : Sl) =>
      mNil fv1 fun (a10 : Addr) =>
      mSt a10 (.slice x9.p x9.n x9.c) <|
      mRet (.tuple #[])))
theorem E_delta_List_Gaps_1 (n0 : Option Addr) (fv1 : Option Addr) : ev Try.prog 71 Try.f71.results.toList C_delta_List_Gaps_1 D_delta_List_Gaps_1 400 false [.code (bodyOf Try.f71)] (List.map some [.pointer n0, .pointer fv1] ++ List.replicate (Try.f71.ntmps - List.length ([.pointer n0, .pointer fv1] : List Value)) none) = B_delta_List_Gaps_1 n0 fv1 := by kernel_rfl
theorem S_delta_List_Gaps_1 (n0 : Option Addr) (fv1 : Option Addr) {h : Hp} {Q : Value → Hp → Prop} (hb : B_delta_List_Gaps_1 n0 fv1 h Q) : N_delta_List_Gaps_1 n0 fv1 h Q :=
  Nf.of_ev Try.call71 Try.func71 (c := bodyOf Try.f71) rfl mixed C_delta_List_Gaps_1 D_delta_List_Gaps_1 400 (args := [.pointer n0, .pointer fv1]) (by rw [E_delta_List_Gaps_1]; exact hb)
end Go.Proofs.Ytinjifhjjkdmoaa
