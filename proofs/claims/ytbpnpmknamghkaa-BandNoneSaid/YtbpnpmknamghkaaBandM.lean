/- What the functions of this layer come to, as forms of the small logic; written by program. Conditions: none. -/
import Derived.Test.YtbpnpmknamghkaaSbU
import Derived.Test.YtbpnpmknamghkaaChecked
import Derived.KernelRfl
set_option maxRecDepth 100000
namespace Go.Proofs.Ytbpnpmknamghkaa
open Go Go.Sb
theorem mixed : Try.prog.follows .mixedOrders = true := by kernel_rfl
def N_signalboxlaw02_fixed : M Value := Nf Try.prog 51 #[]
def N_band_Set_Put (s0 : Option Addr) (n1 : Int) : M Value := Nf Try.prog 52 #[.pointer s0, .int .i64 n1]
def N_band_Set_Drop (s0 : Option Addr) (n1 : Int) : M Value := Nf Try.prog 53 #[.pointer s0, .int .i64 n1]
def N_band_Set_Has (s0 : Option Addr) (n1 : Int) : M Value := Nf Try.prog 54 #[.pointer s0, .int .i64 n1]
def N_band_Set_Top (s0 : Option Addr) : M Value := Nf Try.prog 55 #[.pointer s0]
def N_band_Set_Next (s0 : Option Addr) (n1 : Int) : M Value := Nf Try.prog 56 #[.pointer s0, .int .i64 n1]
def N_band_Set_Len (s0 : Option Addr) : M Value := Nf Try.prog 57 #[.pointer s0]
def N_band_Set_Above (s0 : Option Addr) (n1 : Int) : M Value := Nf Try.prog 58 #[.pointer s0, .int .i64 n1]
def N_band_New (l0 : Sl) : M Value := Nf Try.prog 75 #[.slice l0.p l0.n l0.c]
def N_band_Set_may (s0 : Option Addr) (n1 : Int) : M Value := Nf Try.prog 76 #[.pointer s0, .int .i64 n1]
def N_math_bits_LeadingZeros64 (x0 : Int) : M Value := Nf Try.prog 77 #[.int .u64 x0]
def N_math_bits_OnesCount64 (x0 : Int) : M Value := Nf Try.prog 78 #[.int .u64 x0]
def N_signalboxlaw02_BandNone (n0 : Int) : M Value := Nf Try.prog 14 #[.int .i64 n0]
def N_math_bits_Len64 (x0 : Int) : M Value := Nf Try.prog 88 #[.int .u64 x0]
def C_signalboxlaw02_fixed : List (Nat × List Nat) := []
def D_signalboxlaw02_fixed : List (Nat × List Nat) := []
def B_signalboxlaw02_fixed : M Value :=
  mNew #[.int .i64 (3 : Int), .int .i64 (64 : Int), .int .i64 (5 : Int), .int .i64 (99 : Int)] 3 fun (x3 : Addr) =>
  mBind (N_band_New (Sl.mk (some x3) 4 4)) fun r4 =>
  unP r4 fun (x4 : Option Addr) =>
  mBind (N_band_Set_Above x4 (3 : Int)) fun r6 =>
  unL r6 fun (x6 : Sl) =>
  mBind (N_band_Set_Top x4) fun r8 =>
  unI .i64 r8 fun (x8 : Int) =>
  mBind (mIf (x8 == (64 : Int)) (mBind (N_band_Set_Len x4) fun r12 =>
    unI .i64 r12 fun (x12 : Int) =>
    mRet (x12 == (3 : Int))) (mRet false)) fun (b6 : Bool) =>
  mBind (mIf b6 (mBind (N_band_Set_Next x4 (3 : Int)) fun r17 =>
    unI .i64 r17 fun (x17 : Int) =>
    mRet (x17 == (5 : Int))) (mRet false)) fun (b8 : Bool) =>
  mBind (mIf (b8 && ((x6.n : Int) == (2 : Int))) (mIdx x6 (0 : Int) 1 fun (x27 : Addr) =>
    mLdI .i64 x27 fun (x28 : Int) =>
    mRet (x28 == (64 : Int))) (mRet false)) fun (b11 : Bool) =>
  mBind (mIf b11 (mBind (N_band_Set_Drop x4 (64 : Int)) fun r33 =>
    unB r33 fun (x33 : Bool) =>
    mRet x33) (mRet false)) fun (b13 : Bool) =>
  mBind (mIf b13 (mBind (N_band_Set_Drop x4 (64 : Int)) fun r37 =>
    unB r37 fun (x37 : Bool) =>
    mRet (!x37)) (mRet false)) fun (b15 : Bool) =>
  mBind (mIf b15 (mBind (N_band_Set_Top x4) fun r42 =>
    unI .i64 r42 fun (x42 : Int) =>
    mRet (x42 == (5 : Int))) (mRet false)) fun (b17 : Bool) =>
  mBind (mIf b17 (mBind (N_band_Set_Put x4 (-1 : Int)) fun r47 =>
    unB r47 fun (x47 : Bool) =>
    mRet (!x47)) (mRet false)) fun (b19 : Bool) =>
  mRet (.bool b19)
theorem E_signalboxlaw02_fixed : ev Try.prog 51 Try.f51.results.toList C_signalboxlaw02_fixed D_signalboxlaw02_fixed 400 false [.code (bodyOf Try.f51)] (List.map some [] ++ List.replicate (Try.f51.ntmps - List.length ([] : List Value)) none) = B_signalboxlaw02_fixed := by kernel_rfl
theorem S_signalboxlaw02_fixed {h : Hp} {Q : Value → Hp → Prop} (hb : B_signalboxlaw02_fixed h Q) : N_signalboxlaw02_fixed h Q :=
  Nf.of_ev Try.call51 Try.func51 (c := bodyOf Try.f51) rfl mixed C_signalboxlaw02_fixed D_signalboxlaw02_fixed 400 (args := []) (by rw [E_signalboxlaw02_fixed]; exact hb)
def C_band_Set_Put : List (Nat × List Nat) := []
def D_band_Set_Put : List (Nat × List Nat) := [(3, [])]
def B_band_Set_Put (s0 : Option Addr) (n1 : Int) : M Value :=
  mBind (N_band_Set_may s0 n1) fun r7 =>
  unB r7 fun (x7 : Bool) =>
  mBind (mIf (!x7) (mRet true) (mBind (N_band_Set_Has s0 n1) fun r12 =>
    unB r12 fun (x12 : Bool) =>
    mRet x12)) fun (b3 : Bool) =>
  mIf b3 (
    mRet (.bool false)) (
    mGuard ((64 : Int) ≠ 0) <|
    mNil s0 fun (a6 : Addr) =>
    mIdx ⟨(some a6), 2, 2⟩ (IntKind.i64.wrap (Int.tdiv n1 (64 : Int))) 1 fun (x19 : Addr) =>
    mGuard ((64 : Int) ≠ 0) <|
    mGuard (0 ≤ (IntKind.u64.wrap (Int.tmod n1 (64 : Int)))) <|
    mNil s0 fun (a12 : Addr) =>
    mLdI .u64 x19 fun (x20 : Int) =>
    mIdx ⟨(some a12), 2, 2⟩ (IntKind.i64.wrap (Int.tdiv n1 (64 : Int))) 1 fun (x28 : Addr) =>
    mSt x28 (.int .u64 (ior .u64 x20 (ishl .u64 (1 : Int) (IntKind.u64.wrap (Int.tmod n1 (64 : Int)))))) <|
    mRet (.bool true))
theorem E_band_Set_Put (s0 : Option Addr) (n1 : Int) : ev Try.prog 52 Try.f52.results.toList C_band_Set_Put D_band_Set_Put 400 false [.code (bodyOf Try.f52)] (List.map some [.pointer s0, .int .i64 n1] ++ List.replicate (Try.f52.ntmps - List.length ([.pointer s0, .int .i64 n1] : List Value)) none) = B_band_Set_Put s0 n1 := by kernel_rfl
theorem S_band_Set_Put (s0 : Option Addr) (n1 : Int) {h : Hp} {Q : Value → Hp → Prop} (hb : B_band_Set_Put s0 n1 h Q) : N_band_Set_Put s0 n1 h Q :=
  Nf.of_ev Try.call52 Try.func52 (c := bodyOf Try.f52) rfl mixed C_band_Set_Put D_band_Set_Put 400 (args := [.pointer s0, .int .i64 n1]) (by rw [E_band_Set_Put]; exact hb)
def C_band_Set_Drop : List (Nat × List Nat) := []
def D_band_Set_Drop : List (Nat × List Nat) := [(3, [])]
def B_band_Set_Drop (s0 : Option Addr) (n1 : Int) : M Value :=
  mBind (N_band_Set_Has s0 n1) fun r7 =>
  unB r7 fun (x7 : Bool) =>
  mIf (!x7) (
    mRet (.bool false)) (
    mGuard ((64 : Int) ≠ 0) <|
    mNil s0 fun (a4 : Addr) =>
    mIdx ⟨(some a4), 2, 2⟩ (IntKind.i64.wrap (Int.tdiv n1 (64 : Int))) 1 fun (x14 : Addr) =>
    mGuard ((64 : Int) ≠ 0) <|
    mGuard (0 ≤ (IntKind.u64.wrap (Int.tmod n1 (64 : Int)))) <|
    mNil s0 fun (a10 : Addr) =>
    mLdI .u64 x14 fun (x15 : Int) =>
    mIdx ⟨(some a10), 2, 2⟩ (IntKind.i64.wrap (Int.tdiv n1 (64 : Int))) 1 fun (x23 : Addr) =>
    mSt x23 (.int .u64 (iandn .u64 x15 (ishl .u64 (1 : Int) (IntKind.u64.wrap (Int.tmod n1 (64 : Int)))))) <|
    mRet (.bool true))
theorem E_band_Set_Drop (s0 : Option Addr) (n1 : Int) : ev Try.prog 53 Try.f53.results.toList C_band_Set_Drop D_band_Set_Drop 400 false [.code (bodyOf Try.f53)] (List.map some [.pointer s0, .int .i64 n1] ++ List.replicate (Try.f53.ntmps - List.length ([.pointer s0, .int .i64 n1] : List Value)) none) = B_band_Set_Drop s0 n1 := by kernel_rfl
theorem S_band_Set_Drop (s0 : Option Addr) (n1 : Int) {h : Hp} {Q : Value → Hp → Prop} (hb : B_band_Set_Drop s0 n1 h Q) : N_band_Set_Drop s0 n1 h Q :=
  Nf.of_ev Try.call53 Try.func53 (c := bodyOf Try.f53) rfl mixed C_band_Set_Drop D_band_Set_Drop 400 (args := [.pointer s0, .int .i64 n1]) (by rw [E_band_Set_Drop]; exact hb)
def C_band_Set_Has : List (Nat × List Nat) := []
def D_band_Set_Has : List (Nat × List Nat) := []
def B_band_Set_Has (s0 : Option Addr) (n1 : Int) : M Value :=
  mBind (N_band_Set_may s0 n1) fun r7 =>
  unB r7 fun (x7 : Bool) =>
  mBind (mIf x7 (mGuard ((64 : Int) ≠ 0) <|
    mNil s0 fun (a4 : Addr) =>
    mIdx ⟨(some a4), 2, 2⟩ (IntKind.i64.wrap (Int.tdiv n1 (64 : Int))) 1 fun (x14 : Addr) =>
    mLdI .u64 x14 fun (x15 : Int) =>
    mGuard ((64 : Int) ≠ 0) <|
    mGuard (0 ≤ (IntKind.u64.wrap (Int.tmod n1 (64 : Int)))) <|
    mRet ((iand .u64 (ishr .u64 x15 (IntKind.u64.wrap (Int.tmod n1 (64 : Int)))) (1 : Int)) == (1 : Int))) (mRet false)) fun (b10 : Bool) =>
  mRet (.bool b10)
theorem E_band_Set_Has (s0 : Option Addr) (n1 : Int) : ev Try.prog 54 Try.f54.results.toList C_band_Set_Has D_band_Set_Has 400 false [.code (bodyOf Try.f54)] (List.map some [.pointer s0, .int .i64 n1] ++ List.replicate (Try.f54.ntmps - List.length ([.pointer s0, .int .i64 n1] : List Value)) none) = B_band_Set_Has s0 n1 := by kernel_rfl
theorem S_band_Set_Has (s0 : Option Addr) (n1 : Int) {h : Hp} {Q : Value → Hp → Prop} (hb : B_band_Set_Has s0 n1 h Q) : N_band_Set_Has s0 n1 h Q :=
  Nf.of_ev Try.call54 Try.func54 (c := bodyOf Try.f54) rfl mixed C_band_Set_Has D_band_Set_Has 400 (args := [.pointer s0, .int .i64 n1]) (by rw [E_band_Set_Has]; exact hb)
def C_band_Set_Top : List (Nat × List Nat) := [(4, [0, 3])]
def D_band_Set_Top : List (Nat × List Nat) := []
def T_band_Set_Top_4 (s0 : Option Addr) (i3 : Int) : Env := mkEnv [(0, .pointer s0), (3, .int .i64 i3)] 26 0
def K_band_Set_Top_4 (s0 : Option Addr) (i3 : Int) : M Value := Cut Try.prog 55 (todoOf Try.f55 4) (T_band_Set_Top_4 s0 i3)
def B_band_Set_Top (s0 : Option Addr) : M Value :=
  mIf s0.isNone (
    mRet (.int .i64 (-1 : Int))) (
    K_band_Set_Top_4 s0 (1 : Int))
def B_band_Set_Top_4 (s0 : Option Addr) (i3 : Int) : M Value :=
  mIf (decide (i3 ≥ (0 : Int))) (
    mNil s0 fun (a2 : Addr) =>
    mIdx ⟨(some a2), 2, 2⟩ i3 1 fun (x15 : Addr) =>
    mLdI .u64 x15 fun (x16 : Int) =>
    mIf (x16 != (0 : Int)) (
      mBind (N_math_bits_LeadingZeros64 x16) fun r24 =>
      unI .i64 r24 fun (x24 : Int) =>
      mRet (.int .i64 (IntKind.i64.wrap ((IntKind.i64.wrap ((IntKind.i64.wrap ((IntKind.i64.wrap (i3 * (64 : Int))) + (64 : Int))) - (1 : Int))) - x24)))) (
      K_band_Set_Top_4 s0 (IntKind.i64.wrap (i3 - (1 : Int))))) (
    mRet (.int .i64 (-1 : Int)))
theorem E_band_Set_Top (s0 : Option Addr) : ev Try.prog 55 Try.f55.results.toList C_band_Set_Top D_band_Set_Top 400 false [.code (bodyOf Try.f55)] (List.map some [.pointer s0] ++ List.replicate (Try.f55.ntmps - List.length ([.pointer s0] : List Value)) none) = B_band_Set_Top s0 := by kernel_rfl
theorem S_band_Set_Top (s0 : Option Addr) {h : Hp} {Q : Value → Hp → Prop} (hb : B_band_Set_Top s0 h Q) : N_band_Set_Top s0 h Q :=
  Nf.of_ev Try.call55 Try.func55 (c := bodyOf Try.f55) rfl mixed C_band_Set_Top D_band_Set_Top 400 (args := [.pointer s0]) (by rw [E_band_Set_Top]; exact hb)
theorem E_band_Set_Top_4 (s0 : Option Addr) (i3 : Int) : ev Try.prog 55 Try.f55.results.toList C_band_Set_Top D_band_Set_Top 400 true (todoOf Try.f55 4) (T_band_Set_Top_4 s0 i3) = B_band_Set_Top_4 s0 i3 := by kernel_rfl
theorem S_band_Set_Top_4 (s0 : Option Addr) (i3 : Int) {h : Hp} {Q : Value → Hp → Prop} (hb : B_band_Set_Top_4 s0 i3 h Q) : K_band_Set_Top_4 s0 i3 h Q :=
  Cut.of_ev Try.func55 mixed C_band_Set_Top D_band_Set_Top 400 (by rw [E_band_Set_Top_4]; exact hb)
def C_band_Set_Next : List (Nat × List Nat) := []
def D_band_Set_Next : List (Nat × List Nat) := []
def B_band_Set_Next (s0 : Option Addr) (n1 : Int) : M Value :=
  mBind (N_band_Set_Above s0 n1) fun r8 =>
  unL r8 fun (x8 : Sl) =>
  mIf (decide ((x8.n : Int) > (0 : Int))) (
    mIdx x8 (IntKind.i64.wrap ((x8.n : Int) - (1 : Int))) 1 fun (x16 : Addr) =>
    mLdI .i64 x16 fun (x17 : Int) =>
    mRet (.int .i64 x17)) (
    mRet (.int .i64 (-1 : Int)))
theorem E_band_Set_Next (s0 : Option Addr) (n1 : Int) : ev Try.prog 56 Try.f56.results.toList C_band_Set_Next D_band_Set_Next 400 false [.code (bodyOf Try.f56)] (List.map some [.pointer s0, .int .i64 n1] ++ List.replicate (Try.f56.ntmps - List.length ([.pointer s0, .int .i64 n1] : List Value)) none) = B_band_Set_Next s0 n1 := by kernel_rfl
theorem S_band_Set_Next (s0 : Option Addr) (n1 : Int) {h : Hp} {Q : Value → Hp → Prop} (hb : B_band_Set_Next s0 n1 h Q) : N_band_Set_Next s0 n1 h Q :=
  Nf.of_ev Try.call56 Try.func56 (c := bodyOf Try.f56) rfl mixed C_band_Set_Next D_band_Set_Next 400 (args := [.pointer s0, .int .i64 n1]) (by rw [E_band_Set_Next]; exact hb)
def C_band_Set_Len : List (Nat × List Nat) := [(4, [3, 11, 12])]
def D_band_Set_Len : List (Nat × List Nat) := []
def T_band_Set_Len_4 (n3 : Int) (t11_0 : Int) (t11_1 : Int) (t12 : Int) : Env := mkEnv [(3, .int .i64 n3), (11, .agg #[.int .u64 t11_0, .int .u64 t11_1]), (12, .int .i64 t12)] 21 0
def K_band_Set_Len_4 (n3 : Int) (t11_0 : Int) (t11_1 : Int) (t12 : Int) : M Value := Cut Try.prog 57 (todoOf Try.f57 4) (T_band_Set_Len_4 n3 t11_0 t11_1 t12)
def B_band_Set_Len (s0 : Option Addr) : M Value :=
  mIf (!s0.isNone) (
    mNil s0 fun (a2 : Addr) =>
    mLdI .u64 a2 fun (x11_0 : Int) =>
    mLdI .u64 (a2.add 1) fun (x11_1 : Int) =>
    K_band_Set_Len_4 (0 : Int) x11_0 x11_1 (0 : Int)) (
    mRet (.int .i64 (0 : Int)))
def B_band_Set_Len_4 (n3 : Int) (t11_0 : Int) (t11_1 : Int) (t12 : Int) : M Value :=
  mIf (decide (t12 < (2 : Int))) (
    mIdxA [.int .u64 t11_0, .int .u64 t11_1] t12 fun x14v =>
    unI .u64 x14v fun (x14 : Int) =>
    mBind (N_math_bits_OnesCount64 x14) fun r17 =>
    unI .i64 r17 fun (x17 : Int) =>
    K_band_Set_Len_4 (IntKind.i64.wrap (n3 + x17)) t11_0 t11_1 (IntKind.i64.wrap (t12 + (1 : Int)))) (
    mRet (.int .i64 n3))
theorem E_band_Set_Len (s0 : Option Addr) : ev Try.prog 57 Try.f57.results.toList C_band_Set_Len D_band_Set_Len 400 false [.code (bodyOf Try.f57)] (List.map some [.pointer s0] ++ List.replicate (Try.f57.ntmps - List.length ([.pointer s0] : List Value)) none) = B_band_Set_Len s0 := by kernel_rfl
theorem S_band_Set_Len (s0 : Option Addr) {h : Hp} {Q : Value → Hp → Prop} (hb : B_band_Set_Len s0 h Q) : N_band_Set_Len s0 h Q :=
  Nf.of_ev Try.call57 Try.func57 (c := bodyOf Try.f57) rfl mixed C_band_Set_Len D_band_Set_Len 400 (args := [.pointer s0]) (by rw [E_band_Set_Len]; exact hb)
theorem E_band_Set_Len_4 (n3 : Int) (t11_0 : Int) (t11_1 : Int) (t12 : Int) : ev Try.prog 57 Try.f57.results.toList C_band_Set_Len D_band_Set_Len 400 true (todoOf Try.f57 4) (T_band_Set_Len_4 n3 t11_0 t11_1 t12) = B_band_Set_Len_4 n3 t11_0 t11_1 t12 := by kernel_rfl
theorem S_band_Set_Len_4 (n3 : Int) (t11_0 : Int) (t11_1 : Int) (t12 : Int) {h : Hp} {Q : Value → Hp → Prop} (hb : B_band_Set_Len_4 n3 t11_0 t11_1 t12 h Q) : K_band_Set_Len_4 n3 t11_0 t11_1 t12 h Q :=
  Cut.of_ev Try.func57 mixed C_band_Set_Len D_band_Set_Len 400 (by rw [E_band_Set_Len_4]; exact hb)
def C_band_Set_Above : List (Nat × List Nat) := [(5, [1, 5, 6])]
def D_band_Set_Above : List (Nat × List Nat) := []
def T_band_Set_Above_5 (n1 : Int) (out5 : Sl) (rest6 : Addr) : Env := mkEnv [(1, .int .i64 n1), (5, .slice out5.p out5.n out5.c), (6, .pointer (some rest6))] 26 0
def K_band_Set_Above_5 (n1 : Int) (out5 : Sl) (rest6 : Addr) : M Value := Cut Try.prog 58 (todoOf Try.f58 5) (T_band_Set_Above_5 n1 out5 rest6)
def B_band_Set_Above (s0 : Option Addr) (n1 : Int) : M Value :=
  mIf s0.isNone (
    mRet (.slice none (0) (0))) (
    mNil s0 fun (a2 : Addr) =>
    mLdI .u64 a2 fun (x12_0 : Int) =>
    mLdI .u64 (a2.add 1) fun (x12_1 : Int) =>
    mNew #[.int .u64 (0 : Int), .int .u64 (0 : Int)] 123 fun (x6 : Addr) =>
    mSt x6 (.int .u64 x12_0) <|
    mSt (x6.add 1) (.int .u64 x12_1) <|
    K_band_Set_Above_5 n1 (Sl.mk none 0 0) x6)
def B_band_Set_Above_5 (n1 : Int) (out5 : Sl) (rest6 : Addr) : M Value :=
  mBind (N_band_Set_Top (some rest6)) fun r13 =>
  unI .i64 r13 fun (x13 : Int) =>
  mIf (decide (x13 > (if (-1 : Int) > n1 then (-1 : Int) else n1))) (
    mBind (N_band_Set_Top (some rest6)) fun r17 =>
    unI .i64 r17 fun (x17 : Int) =>
    mNew #[.int .i64 x17] 3 fun (x20 : Addr) =>
    mApp 3 1 8 #[.int .i64 (0 : Int)] out5 ⟨(some x20), 1, 1⟩ fun (x21 : Sl) =>
    mBind (N_band_Set_Drop (some rest6) x17) fun r23 =>
    unB r23 fun (_x23 : Bool) =>
    mLdI .u64 rest6 fun (x24_0 : Int) =>
    mLdI .u64 (rest6.add 1) fun (x24_1 : Int) =>
    mNew #[.int .u64 (0 : Int), .int .u64 (0 : Int)] 123 fun (x6 : Addr) =>
    mSt x6 (.int .u64 x24_0) <|
    mSt (x6.add 1) (.int .u64 x24_1) <|
    K_band_Set_Above_5 n1 x21 x6) (
    mRet (.slice out5.p out5.n out5.c))
theorem E_band_Set_Above (s0 : Option Addr) (n1 : Int) : ev Try.prog 58 Try.f58.results.toList C_band_Set_Above D_band_Set_Above 400 false [.code (bodyOf Try.f58)] (List.map some [.pointer s0, .int .i64 n1] ++ List.replicate (Try.f58.ntmps - List.length ([.pointer s0, .int .i64 n1] : List Value)) none) = B_band_Set_Above s0 n1 := by kernel_rfl
theorem S_band_Set_Above (s0 : Option Addr) (n1 : Int) {h : Hp} {Q : Value → Hp → Prop} (hb : B_band_Set_Above s0 n1 h Q) : N_band_Set_Above s0 n1 h Q :=
  Nf.of_ev Try.call58 Try.func58 (c := bodyOf Try.f58) rfl mixed C_band_Set_Above D_band_Set_Above 400 (args := [.pointer s0, .int .i64 n1]) (by rw [E_band_Set_Above]; exact hb)
theorem E_band_Set_Above_5 (n1 : Int) (out5 : Sl) (rest6 : Addr) : ev Try.prog 58 Try.f58.results.toList C_band_Set_Above D_band_Set_Above 400 true (todoOf Try.f58 5) (T_band_Set_Above_5 n1 out5 rest6) = B_band_Set_Above_5 n1 out5 rest6 := by kernel_rfl
theorem S_band_Set_Above_5 (n1 : Int) (out5 : Sl) (rest6 : Addr) {h : Hp} {Q : Value → Hp → Prop} (hb : B_band_Set_Above_5 n1 out5 rest6 h Q) : K_band_Set_Above_5 n1 out5 rest6 h Q :=
  Cut.of_ev Try.func58 mixed C_band_Set_Above D_band_Set_Above 400 (by rw [E_band_Set_Above_5]; exact hb)
def C_band_New : List (Nat × List Nat) := [(3, [3, 8, 9, 10])]
def D_band_New : List (Nat × List Nat) := []
def T_band_New_3 (s3 : Addr) (t8 : Sl) (t9 : Int) (t10 : Int) : Env := mkEnv [(3, .pointer (some s3)), (8, .slice t8.p t8.n t8.c), (9, .int .i64 t9), (10, .int .i64 t10)] 19 0
def K_band_New_3 (s3 : Addr) (t8 : Sl) (t9 : Int) (t10 : Int) : M Value := Cut Try.prog 75 (todoOf Try.f75 3) (T_band_New_3 s3 t8 t9 t10)
def B_band_New (l0 : Sl) : M Value :=
  mNew #[.int .u64 (0 : Int), .int .u64 (0 : Int)] 123 fun (x7 : Addr) =>
  K_band_New_3 x7 l0 (l0.n : Int) (0 : Int)
def B_band_New_3 (s3 : Addr) (t8 : Sl) (t9 : Int) (t10 : Int) : M Value :=
  mIf (decide (t10 < t9)) (
    mIdx t8 t10 1 fun (x12 : Addr) =>
    mLdI .i64 x12 fun (x13 : Int) =>
    mBind (N_band_Set_Put (some s3) x13) fun r16 =>
    unB r16 fun (_x16 : Bool) =>
    K_band_New_3 s3 t8 t9 (IntKind.i64.wrap (t10 + (1 : Int)))) (
    mRet (.pointer (some s3)))
theorem E_band_New (l0 : Sl) : ev Try.prog 75 Try.f75.results.toList C_band_New D_band_New 400 false [.code (bodyOf Try.f75)] (List.map some [.slice l0.p l0.n l0.c] ++ List.replicate (Try.f75.ntmps - List.length ([.slice l0.p l0.n l0.c] : List Value)) none) = B_band_New l0 := by kernel_rfl
theorem S_band_New (l0 : Sl) {h : Hp} {Q : Value → Hp → Prop} (hb : B_band_New l0 h Q) : N_band_New l0 h Q :=
  Nf.of_ev Try.call75 Try.func75 (c := bodyOf Try.f75) rfl mixed C_band_New D_band_New 400 (args := [.slice l0.p l0.n l0.c]) (by rw [E_band_New]; exact hb)
theorem E_band_New_3 (s3 : Addr) (t8 : Sl) (t9 : Int) (t10 : Int) : ev Try.prog 75 Try.f75.results.toList C_band_New D_band_New 400 true (todoOf Try.f75 3) (T_band_New_3 s3 t8 t9 t10) = B_band_New_3 s3 t8 t9 t10 := by kernel_rfl
theorem S_band_New_3 (s3 : Addr) (t8 : Sl) (t9 : Int) (t10 : Int) {h : Hp} {Q : Value → Hp → Prop} (hb : B_band_New_3 s3 t8 t9 t10 h Q) : K_band_New_3 s3 t8 t9 t10 h Q :=
  Cut.of_ev Try.func75 mixed C_band_New D_band_New 400 (by rw [E_band_New_3]; exact hb)
def C_band_Set_may : List (Nat × List Nat) := []
def D_band_Set_may : List (Nat × List Nat) := []
def B_band_Set_may (s0 : Option Addr) (n1 : Int) : M Value :=
  mRet (.bool (((!s0.isNone) && (decide (n1 ≥ (0 : Int)))) && (decide (n1 ≤ (64 : Int)))))
theorem E_band_Set_may (s0 : Option Addr) (n1 : Int) : ev Try.prog 76 Try.f76.results.toList C_band_Set_may D_band_Set_may 400 false [.code (bodyOf Try.f76)] (List.map some [.pointer s0, .int .i64 n1] ++ List.replicate (Try.f76.ntmps - List.length ([.pointer s0, .int .i64 n1] : List Value)) none) = B_band_Set_may s0 n1 := by kernel_rfl
theorem S_band_Set_may (s0 : Option Addr) (n1 : Int) {h : Hp} {Q : Value → Hp → Prop} (hb : B_band_Set_may s0 n1 h Q) : N_band_Set_may s0 n1 h Q :=
  Nf.of_ev Try.call76 Try.func76 (c := bodyOf Try.f76) rfl mixed C_band_Set_may D_band_Set_may 400 (args := [.pointer s0, .int .i64 n1]) (by rw [E_band_Set_may]; exact hb)
def C_math_bits_LeadingZeros64 : List (Nat × List Nat) := []
def D_math_bits_LeadingZeros64 : List (Nat × List Nat) := []
def B_math_bits_LeadingZeros64 (x0 : Int) : M Value :=
  mBind (N_math_bits_Len64 x0) fun r4 =>
  unI .i64 r4 fun (x4 : Int) =>
  mRet (.int .i64 (IntKind.i64.wrap ((64 : Int) - x4)))
theorem E_math_bits_LeadingZeros64 (x0 : Int) : ev Try.prog 77 Try.f77.results.toList C_math_bits_LeadingZeros64 D_math_bits_LeadingZeros64 400 false [.code (bodyOf Try.f77)] (List.map some [.int .u64 x0] ++ List.replicate (Try.f77.ntmps - List.length ([.int .u64 x0] : List Value)) none) = B_math_bits_LeadingZeros64 x0 := by kernel_rfl
theorem S_math_bits_LeadingZeros64 (x0 : Int) {h : Hp} {Q : Value → Hp → Prop} (hb : B_math_bits_LeadingZeros64 x0 h Q) : N_math_bits_LeadingZeros64 x0 h Q :=
  Nf.of_ev Try.call77 Try.func77 (c := bodyOf Try.f77) rfl mixed C_math_bits_LeadingZeros64 D_math_bits_LeadingZeros64 400 (args := [.int .u64 x0]) (by rw [E_math_bits_LeadingZeros64]; exact hb)
def C_math_bits_OnesCount64 : List (Nat × List Nat) := []
def D_math_bits_OnesCount64 : List (Nat × List Nat) := []
def B_math_bits_OnesCount64 (x0 : Int) : M Value :=
  mGuard (0 ≤ (1 : Int)) <|
  mGuard (0 ≤ (2 : Int)) <|
  mGuard (0 ≤ (4 : Int)) <|
  mGuard (0 ≤ (8 : Int)) <|
  mGuard (0 ≤ (16 : Int)) <|
  mGuard (0 ≤ (32 : Int)) <|
  mRet (.int .i64 (iand .i64 (IntKind.i64.wrap (IntKind.u64.wrap ((IntKind.u64.wrap ((IntKind.u64.wrap ((iand .u64 (IntKind.u64.wrap ((ishr .u64 (IntKind.u64.wrap ((iand .u64 (ishr .u64 (IntKind.u64.wrap ((iand .u64 (ishr .u64 x0 (1 : Int)) (6148914691236517205 : Int)) + (iand .u64 x0 (6148914691236517205 : Int)))) (2 : Int)) (3689348814741910323 : Int)) + (iand .u64 (IntKind.u64.wrap ((iand .u64 (ishr .u64 x0 (1 : Int)) (6148914691236517205 : Int)) + (iand .u64 x0 (6148914691236517205 : Int)))) (3689348814741910323 : Int)))) (4 : Int)) + (IntKind.u64.wrap ((iand .u64 (ishr .u64 (IntKind.u64.wrap ((iand .u64 (ishr .u64 x0 (1 : Int)) (6148914691236517205 : Int)) + (iand .u64 x0 (6148914691236517205 : Int)))) (2 : Int)) (3689348814741910323 : Int)) + (iand .u64 (IntKind.u64.wrap ((iand .u64 (ishr .u64 x0 (1 : Int)) (6148914691236517205 : Int)) + (iand .u64 x0 (6148914691236517205 : Int)))) (3689348814741910323 : Int)))))) (1085102592571150095 : Int)) + (ishr .u64 (iand .u64 (IntKind.u64.wrap ((ishr .u64 (IntKind.u64.wrap ((iand .u64 (ishr .u64 (IntKind.u64.wrap ((iand .u64 (ishr .u64 x0 (1 : Int)) (6148914691236517205 : Int)) + (iand .u64 x0 (6148914691236517205 : Int)))) (2 : Int)) (3689348814741910323 : Int)) + (iand .u64 (IntKind.u64.wrap ((iand .u64 (ishr .u64 x0 (1 : Int)) (6148914691236517205 : Int)) + (iand .u64 x0 (6148914691236517205 : Int)))) (3689348814741910323 : Int)))) (4 : Int)) + (IntKind.u64.wrap ((iand .u64 (ishr .u64 (IntKind.u64.wrap ((iand .u64 (ishr .u64 x0 (1 : Int)) (6148914691236517205 : Int)) + (iand .u64 x0 (6148914691236517205 : Int)))) (2 : Int)) (3689348814741910323 : Int)) + (iand .u64 (IntKind.u64.wrap ((iand .u64 (ishr .u64 x0 (1 : Int)) (6148914691236517205 : Int)) + (iand .u64 x0 (6148914691236517205 : Int)))) (3689348814741910323 : Int)))))) (1085102592571150095 : Int)) (8 : Int)))) + (ishr .u64 (IntKind.u64.wrap ((iand .u64 (IntKind.u64.wrap ((ishr .u64 (IntKind.u64.wrap ((iand .u64 (ishr .u64 (IntKind.u64.wrap ((iand .u64 (ishr .u64 x0 (1 : Int)) (6148914691236517205 : Int)) + (iand .u64 x0 (6148914691236517205 : Int)))) (2 : Int)) (3689348814741910323 : Int)) + (iand .u64 (IntKind.u64.wrap ((iand .u64 (ishr .u64 x0 (1 : Int)) (6148914691236517205 : Int)) + (iand .u64 x0 (6148914691236517205 : Int)))) (3689348814741910323 : Int)))) (4 : Int)) + (IntKind.u64.wrap ((iand .u64 (ishr .u64 (IntKind.u64.wrap ((iand .u64 (ishr .u64 x0 (1 : Int)) (6148914691236517205 : Int)) + (iand .u64 x0 (6148914691236517205 : Int)))) (2 : Int)) (3689348814741910323 : Int)) + (iand .u64 (IntKind.u64.wrap ((iand .u64 (ishr .u64 x0 (1 : Int)) (6148914691236517205 : Int)) + (iand .u64 x0 (6148914691236517205 : Int)))) (3689348814741910323 : Int)))))) (1085102592571150095 : Int)) + (ishr .u64 (iand .u64 (IntKind.u64.wrap ((ishr .u64 (IntKind.u64.wrap ((iand .u64 (ishr .u64 (IntKind.u64.wrap ((iand .u64 (ishr .u64 x0 (1 : Int)) (6148914691236517205 : Int)) + (iand .u64 x0 (6148914691236517205 : Int)))) (2 : Int)) (3689348814741910323 : Int)) + (iand .u64 (IntKind.u64.wrap ((iand .u64 (ishr .u64 x0 (1 : Int)) (6148914691236517205 : Int)) + (iand .u64 x0 (6148914691236517205 : Int)))) (3689348814741910323 : Int)))) (4 : Int)) + (IntKind.u64.wrap ((iand .u64 (ishr .u64 (IntKind.u64.wrap ((iand .u64 (ishr .u64 x0 (1 : Int)) (6148914691236517205 : Int)) + (iand .u64 x0 (6148914691236517205 : Int)))) (2 : Int)) (3689348814741910323 : Int)) + (iand .u64 (IntKind.u64.wrap ((iand .u64 (ishr .u64 x0 (1 : Int)) (6148914691236517205 : Int)) + (iand .u64 x0 (6148914691236517205 : Int)))) (3689348814741910323 : Int)))))) (1085102592571150095 : Int)) (8 : Int)))) (16 : Int)))) + (ishr .u64 (IntKind.u64.wrap ((IntKind.u64.wrap ((iand .u64 (IntKind.u64.wrap ((ishr .u64 (IntKind.u64.wrap ((iand .u64 (ishr .u64 (IntKind.u64.wrap ((iand .u64 (ishr .u64 x0 (1 : Int)) (6148914691236517205 : Int)) + (iand .u64 x0 (6148914691236517205 : Int)))) (2 : Int)) (3689348814741910323 : Int)) + (iand .u64 (IntKind.u64.wrap ((iand .u64 (ishr .u64 x0 (1 : Int)) (6148914691236517205 : Int)) + (iand .u64 x0 (6148914691236517205 : Int)))) (3689348814741910323 : Int)))) (4 : Int)) + (IntKind.u64.wrap ((iand .u64 (ishr .u64 (IntKind.u64.wrap ((iand .u64 (ishr .u64 x0 (1 : Int)) (6148914691236517205 : Int)) + (iand .u64 x0 (6148914691236517205 : Int)))) (2 : Int)) (3689348814741910323 : Int)) + (iand .u64 (IntKind.u64.wrap ((iand .u64 (ishr .u64 x0 (1 : Int)) (6148914691236517205 : Int)) + (iand .u64 x0 (6148914691236517205 : Int)))) (3689348814741910323 : Int)))))) (1085102592571150095 : Int)) + (ishr .u64 (iand .u64 (IntKind.u64.wrap ((ishr .u64 (IntKind.u64.wrap ((iand .u64 (ishr .u64 (IntKind.u64.wrap ((iand .u64 (ishr .u64 x0 (1 : Int)) (6148914691236517205 : Int)) + (iand .u64 x0 (6148914691236517205 : Int)))) (2 : Int)) (3689348814741910323 : Int)) + (iand .u64 (IntKind.u64.wrap ((iand .u64 (ishr .u64 x0 (1 : Int)) (6148914691236517205 : Int)) + (iand .u64 x0 (6148914691236517205 : Int)))) (3689348814741910323 : Int)))) (4 : Int)) + (IntKind.u64.wrap ((iand .u64 (ishr .u64 (IntKind.u64.wrap ((iand .u64 (ishr .u64 x0 (1 : Int)) (6148914691236517205 : Int)) + (iand .u64 x0 (6148914691236517205 : Int)))) (2 : Int)) (3689348814741910323 : Int)) + (iand .u64 (IntKind.u64.wrap ((iand .u64 (ishr .u64 x0 (1 : Int)) (6148914691236517205 : Int)) + (iand .u64 x0 (6148914691236517205 : Int)))) (3689348814741910323 : Int)))))) (1085102592571150095 : Int)) (8 : Int)))) + (ishr .u64 (IntKind.u64.wrap ((iand .u64 (IntKind.u64.wrap ((ishr .u64 (IntKind.u64.wrap ((iand .u64 (ishr .u64 (IntKind.u64.wrap ((iand .u64 (ishr .u64 x0 (1 : Int)) (6148914691236517205 : Int)) + (iand .u64 x0 (6148914691236517205 : Int)))) (2 : Int)) (3689348814741910323 : Int)) + (iand .u64 (IntKind.u64.wrap ((iand .u64 (ishr .u64 x0 (1 : Int)) (6148914691236517205 : Int)) + (iand .u64 x0 (6148914691236517205 : Int)))) (3689348814741910323 : Int)))) (4 : Int)) + (IntKind.u64.wrap ((iand .u64 (ishr .u64 (IntKind.u64.wrap ((iand .u64 (ishr .u64 x0 (1 : Int)) (6148914691236517205 : Int)) + (iand .u64 x0 (6148914691236517205 : Int)))) (2 : Int)) (3689348814741910323 : Int)) + (iand .u64 (IntKind.u64.wrap ((iand .u64 (ishr .u64 x0 (1 : Int)) (6148914691236517205 : Int)) + (iand .u64 x0 (6148914691236517205 : Int)))) (3689348814741910323 : Int)))))) (1085102592571150095 : Int)) + (ishr .u64 (iand .u64 (IntKind.u64.wrap ((ishr .u64 (IntKind.u64.wrap ((iand .u64 (ishr .u64 (IntKind.u64.wrap ((iand .u64 (ishr .u64 x0 (1 : Int)) (6148914691236517205 : Int)) + (iand .u64 x0 (6148914691236517205 : Int)))) (2 : Int)) (3689348814741910323 : Int)) + (iand .u64 (IntKind.u64.wrap ((iand .u64 (ishr .u64 x0 (1 : Int)) (6148914691236517205 : Int)) + (iand .u64 x0 (6148914691236517205 : Int)))) (3689348814741910323 : Int)))) (4 : Int)) + (IntKind.u64.wrap ((iand .u64 (ishr .u64 (IntKind.u64.wrap ((iand .u64 (ishr .u64 x0 (1 : Int)) (6148914691236517205 : Int)) + (iand .u64 x0 (6148914691236517205 : Int)))) (2 : Int)) (3689348814741910323 : Int)) + (iand .u64 (IntKind.u64.wrap ((iand .u64 (ishr .u64 x0 (1 : Int)) (6148914691236517205 : Int)) + (iand .u64 x0 (6148914691236517205 : Int)))) (3689348814741910323 : Int)))))) (1085102592571150095 : Int)) (8 : Int)))) (16 : Int)))) (32 : Int))))) (127 : Int)))
theorem E_math_bits_OnesCount64 (x0 : Int) : ev Try.prog 78 Try.f78.results.toList C_math_bits_OnesCount64 D_math_bits_OnesCount64 400 false [.code (bodyOf Try.f78)] (List.map some [.int .u64 x0] ++ List.replicate (Try.f78.ntmps - List.length ([.int .u64 x0] : List Value)) none) = B_math_bits_OnesCount64 x0 := by kernel_rfl
theorem S_math_bits_OnesCount64 (x0 : Int) {h : Hp} {Q : Value → Hp → Prop} (hb : B_math_bits_OnesCount64 x0 h Q) : N_math_bits_OnesCount64 x0 h Q :=
  Nf.of_ev Try.call78 Try.func78 (c := bodyOf Try.f78) rfl mixed C_math_bits_OnesCount64 D_math_bits_OnesCount64 400 (args := [.int .u64 x0]) (by rw [E_math_bits_OnesCount64]; exact hb)
def C_signalboxlaw02_BandNone : List (Nat × List Nat) := []
def D_signalboxlaw02_BandNone : List (Nat × List Nat) := []
def B_signalboxlaw02_BandNone (n0 : Int) : M Value :=
  mBind (N_signalboxlaw02_fixed) fun r4 =>
  unB r4 fun (x4 : Bool) =>
  mIf (!x4) (
    mRet (.bool false)) (
    mBind (N_band_Set_Put none n0) fun r8 =>
    unB r8 fun (x8 : Bool) =>
    mBind (mIf (!x8) (mBind (N_band_Set_Drop none n0) fun r13 =>
      unB r13 fun (x13 : Bool) =>
      mRet (!x13)) (mRet false)) fun (b4 : Bool) =>
    mBind (mIf b4 (mBind (N_band_Set_Has none n0) fun r19 =>
      unB r19 fun (x19 : Bool) =>
      mRet (!x19)) (mRet false)) fun (b6 : Bool) =>
    mBind (mIf b6 (mBind (N_band_Set_Top none) fun r24 =>
      unI .i64 r24 fun (x24 : Int) =>
      mRet (x24 == (-1 : Int))) (mRet false)) fun (b8 : Bool) =>
    mBind (mIf b8 (mBind (N_band_Set_Next none n0) fun r30 =>
      unI .i64 r30 fun (x30 : Int) =>
      mRet (x30 == (-1 : Int))) (mRet false)) fun (b10 : Bool) =>
    mBind (mIf b10 (mBind (N_band_Set_Len none) fun r35 =>
      unI .i64 r35 fun (x35 : Int) =>
      mBind (N_band_Set_Above none n0) fun r38 =>
      unL r38 fun (x38 : Sl) =>
      mRet ((IntKind.i64.wrap (x35 + (x38.n : Int))) == (0 : Int))) (mRet false)) fun (b13 : Bool) =>
    mRet (.bool b13))
theorem E_signalboxlaw02_BandNone (n0 : Int) : ev Try.prog 14 Try.f14.results.toList C_signalboxlaw02_BandNone D_signalboxlaw02_BandNone 400 false [.code (bodyOf Try.f14)] (List.map some [.int .i64 n0] ++ List.replicate (Try.f14.ntmps - List.length ([.int .i64 n0] : List Value)) none) = B_signalboxlaw02_BandNone n0 := by kernel_rfl
theorem S_signalboxlaw02_BandNone (n0 : Int) {h : Hp} {Q : Value → Hp → Prop} (hb : B_signalboxlaw02_BandNone n0 h Q) : N_signalboxlaw02_BandNone n0 h Q :=
  Nf.of_ev Try.call14 Try.func14 (c := bodyOf Try.f14) rfl mixed C_signalboxlaw02_BandNone D_signalboxlaw02_BandNone 400 (args := [.int .i64 n0]) (by rw [E_signalboxlaw02_BandNone]; exact hb)
def C_math_bits_Len64 : List (Nat × List Nat) := [(7, [0, 2])]
def D_math_bits_Len64 : List (Nat × List Nat) := []
def T_math_bits_Len64_7 (x0 : Int) (n2 : Int) : Env := mkEnv [(0, .int .u64 x0), (2, .int .i64 n2)] 25 0
def K_math_bits_Len64_7 (x0 : Int) (n2 : Int) : M Value := Cut Try.prog 88 (todoOf Try.f88 7) (T_math_bits_Len64_7 x0 n2)
def B_math_bits_Len64 (x0 : Int) : M Value :=
  mIf (decide (x0 ≥ (4294967296 : Int))) (
    mGuard (0 ≤ (32 : Int)) <|
    mIf (decide ((ishr .u64 x0 (32 : Int)) ≥ (65536 : Int))) (
      mGuard (0 ≤ (16 : Int)) <|
      K_math_bits_Len64_7 (ishr .u64 (ishr .u64 x0 (32 : Int)) (16 : Int)) (IntKind.i64.wrap ((32 : Int) + (16 : Int)))) (
      K_math_bits_Len64_7 (ishr .u64 x0 (32 : Int)) (32 : Int))) (
    mIf (decide (x0 ≥ (65536 : Int))) (
      mGuard (0 ≤ (16 : Int)) <|
      K_math_bits_Len64_7 (ishr .u64 x0 (16 : Int)) (IntKind.i64.wrap ((0 : Int) + (16 : Int)))) (
      K_math_bits_Len64_7 x0 (0 : Int)))
def B_math_bits_Len64_7 (x0 : Int) (n2 : Int) : M Value :=
  mIf (decide (x0 ≥ (256 : Int))) (
    mGuard (0 ≤ (8 : Int)) <|
    mIdxS (ByteArray.mk #[0, 1, 2, 2, 3, 3, 3, 3, 4, 4, 4, 4, 4, 4, 4, 4, 5, 5, 5, 5, 5, 5, 5, 5, 5, 5, 5, 5, 5, 5, 5, 5, 6, 6, 6, 6, 6, 6, 6, 6, 6, 6, 6, 6, 6, 6, 6, 6, 6, 6, 6, 6, 6, 6, 6, 6, 6, 6, 6, 6, 6, 6, 6, 6, 7, 7, 7, 7, 7, 7, 7, 7, 7, 7, 7, 7, 7, 7, 7, 7, 7, 7, 7, 7, 7, 7, 7, 7, 7, 7, 7, 7, 7, 7, 7, 7, 7, 7, 7, 7, 7, 7, 7, 7, 7, 7, 7, 7, 7, 7, 7, 7, 7, 7, 7, 7, 7, 7, 7, 7, 7, 7, 7, 7, 7, 7, 7, 7, 8, 8, 8, 8, 8, 8, 8, 8, 8, 8, 8, 8, 8, 8, 8, 8, 8, 8, 8, 8, 8, 8, 8, 8, 8, 8, 8, 8, 8, 8, 8, 8, 8, 8, 8, 8, 8, 8, 8, 8, 8, 8, 8, 8, 8, 8, 8, 8, 8, 8, 8, 8, 8, 8, 8, 8, 8, 8, 8, 8, 8, 8, 8, 8, 8, 8, 8, 8, 8, 8, 8, 8, 8, 8, 8, 8, 8, 8, 8, 8, 8, 8, 8, 8, 8, 8, 8, 8, 8, 8, 8, 8, 8, 8, 8, 8, 8, 8, 8, 8, 8, 8, 8, 8, 8, 8, 8, 8, 8, 8, 8, 8, 8, 8, 8, 8, 8, 8, 8, 8, 8, 8, 8, 8, 8, 8, 8, 8]) (IntKind.u8.wrap (ishr .u64 x0 (8 : Int))) fun (x22 : Int) =>
    mRet (.int .i64 (IntKind.i64.wrap ((IntKind.i64.wrap (n2 + (8 : Int))) + (IntKind.i64.wrap x22))))) (
    mIdxS (ByteArray.mk #[0, 1, 2, 2, 3, 3, 3, 3, 4, 4, 4, 4, 4, 4, 4, 4, 5, 5, 5, 5, 5, 5, 5, 5, 5, 5, 5, 5, 5, 5, 5, 5, 6, 6, 6, 6, 6, 6, 6, 6, 6, 6, 6, 6, 6, 6, 6, 6, 6, 6, 6, 6, 6, 6, 6, 6, 6, 6, 6, 6, 6, 6, 6, 6, 7, 7, 7, 7, 7, 7, 7, 7, 7, 7, 7, 7, 7, 7, 7, 7, 7, 7, 7, 7, 7, 7, 7, 7, 7, 7, 7, 7, 7, 7, 7, 7, 7, 7, 7, 7, 7, 7, 7, 7, 7, 7, 7, 7, 7, 7, 7, 7, 7, 7, 7, 7, 7, 7, 7, 7, 7, 7, 7, 7, 7, 7, 7, 7, 8, 8, 8, 8, 8, 8, 8, 8, 8, 8, 8, 8, 8, 8, 8, 8, 8, 8, 8, 8, 8, 8, 8, 8, 8, 8, 8, 8, 8, 8, 8, 8, 8, 8, 8, 8, 8, 8, 8, 8, 8, 8, 8, 8, 8, 8, 8, 8, 8, 8, 8, 8, 8, 8, 8, 8, 8, 8, 8, 8, 8, 8, 8, 8, 8, 8, 8, 8, 8, 8, 8, 8, 8, 8, 8, 8, 8, 8, 8, 8, 8, 8, 8, 8, 8, 8, 8, 8, 8, 8, 8, 8, 8, 8, 8, 8, 8, 8, 8, 8, 8, 8, 8, 8, 8, 8, 8, 8, 8, 8, 8, 8, 8, 8, 8, 8, 8, 8, 8, 8, 8, 8, 8, 8, 8, 8, 8, 8]) (IntKind.u8.wrap x0) fun (x22_6 : Int) =>
    mRet (.int .i64 (IntKind.i64.wrap (n2 + (IntKind.i64.wrap x22_6)))))
theorem E_math_bits_Len64 (x0 : Int) : ev Try.prog 88 Try.f88.results.toList C_math_bits_Len64 D_math_bits_Len64 400 false [.code (bodyOf Try.f88)] (List.map some [.int .u64 x0] ++ List.replicate (Try.f88.ntmps - List.length ([.int .u64 x0] : List Value)) none) = B_math_bits_Len64 x0 := by kernel_rfl
theorem S_math_bits_Len64 (x0 : Int) {h : Hp} {Q : Value → Hp → Prop} (hb : B_math_bits_Len64 x0 h Q) : N_math_bits_Len64 x0 h Q :=
  Nf.of_ev Try.call88 Try.func88 (c := bodyOf Try.f88) rfl mixed C_math_bits_Len64 D_math_bits_Len64 400 (args := [.int .u64 x0]) (by rw [E_math_bits_Len64]; exact hb)
theorem E_math_bits_Len64_7 (x0 : Int) (n2 : Int) : ev Try.prog 88 Try.f88.results.toList C_math_bits_Len64 D_math_bits_Len64 400 true (todoOf Try.f88 7) (T_math_bits_Len64_7 x0 n2) = B_math_bits_Len64_7 x0 n2 := by kernel_rfl
theorem S_math_bits_Len64_7 (x0 : Int) (n2 : Int) {h : Hp} {Q : Value → Hp → Prop} (hb : B_math_bits_Len64_7 x0 n2 h Q) : K_math_bits_Len64_7 x0 n2 h Q :=
  Cut.of_ev Try.func88 mixed C_math_bits_Len64 D_math_bits_Len64 400 (by rw [E_math_bits_Len64_7]; exact hb)
end Go.Proofs.Ytbpnpmknamghkaa
