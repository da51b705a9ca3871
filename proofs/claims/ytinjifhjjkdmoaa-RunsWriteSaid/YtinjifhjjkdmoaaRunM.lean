/- What the functions of this layer come to, as forms of the small logic; written by program. Conditions: none. -/
import Derived.Test.YtinjifhjjkdmoaaSbU
import Derived.Test.YtinjifhjjkdmoaaChecked
import Derived.KernelRfl
set_option maxRecDepth 100000
namespace Go.Proofs.Ytinjifhjjkdmoaa
open Go Go.Sb
theorem mixed : Try.prog.follows .mixedOrders = true := by kernel_rfl
def N_signalboxlaw53_fixed : M Value := Nf Try.prog 44 #[]
def N_runs_Write (b0 : Sl) : M Value := Nf Try.prog 45 #[.slice b0.p b0.n b0.c]
def N_runs_Read (b0 : Sl) : M Value := Nf Try.prog 46 #[.slice b0.p b0.n b0.c]
def N_runs_Size (b0 : Sl) : M Value := Nf Try.prog 47 #[.slice b0.p b0.n b0.c]
def N_signalboxref53_Write (b0 : Sl) : M Value := Nf Try.prog 48 #[.slice b0.p b0.n b0.c]
def N_runs_Worst (n0 : Int) : M Value := Nf Try.prog 49 #[.int .i64 n0]
def N_runs_stretch (b0 : Sl) : M Value := Nf Try.prog 81 #[.slice b0.p b0.n b0.c]
def N_runs_rest (b0 : Sl) : M Value := Nf Try.prog 82 #[.slice b0.p b0.n b0.c]
def N_runs_walk (b0 : Sl) (see1g : Nat) (see1f : Array Value) (see1c : Array Value) : M Value := Nf Try.prog 83 #[.slice b0.p b0.n b0.c, .func (.func see1g) see1f see1c]
def N_runs_Read_1 (b0 : Sl) (p1_0 : Int) (p1_1 : Int) (fv2 : Option Addr) : M Value := Nf Try.prog 84 #[.slice b0.p b0.n b0.c, .agg #[.int .i64 p1_0, .int .i64 p1_1], .pointer fv2]
def N_bytes_Repeat (b0 : Sl) (count1 : Int) : M Value := Nf Try.prog 85 #[.slice b0.p b0.n b0.c, .int .i64 count1]
def N_runs_Size_1 (t0 : Sl) (p1_0 : Int) (p1_1 : Int) (fv2 : Option Addr) : M Value := Nf Try.prog 86 #[.slice t0.p t0.n t0.c, .agg #[.int .i64 p1_0, .int .i64 p1_1], .pointer fv2]
def N_signalboxref53_alike (b0 : Sl) : M Value := Nf Try.prog 87 #[.slice b0.p b0.n b0.c]
def N_runs_next (b0 : Sl) : M Value := Nf Try.prog 93 #[.slice b0.p b0.n b0.c]
def N_math_bits_Mul (x0 : Int) (y1 : Int) : M Value := Nf Try.prog 94 #[.int .u64 x0, .int .u64 y1]
def N_internal_bytealg_MakeNoZero (x0 : Int) : M Value := Nf Try.prog 95 #[.int .i64 x0]
def N_math_bits_Mul32 (x0 : Int) (y1 : Int) : M Value := Nf Try.prog 98 #[.int .u32 x0, .int .u32 y1]
def N_math_bits_Mul64 (x0 : Int) (y1 : Int) : M Value := Nf Try.prog 99 #[.int .u64 x0, .int .u64 y1]
def N_signalboxlaw53_RunsWrite (b0 : Sl) (times1 : Int) : M Value := Nf Try.prog 9 #[.slice b0.p b0.n b0.c, .int .u8 times1]
def N_signalboxlaw53_RunsLong (c0 : Int) (more1 : Int) : M Value := Nf Try.prog 10 #[.int .u8 c0, .int .u8 more1]
def N_signalboxlaw53_RunsWorst (n0 : Int) : M Value := Nf Try.prog 11 #[.int .i64 n0]
def C_signalboxlaw53_fixed : List (Nat × List Nat) := []
def D_signalboxlaw53_fixed : List (Nat × List Nat) := []
def B_signalboxlaw53_fixed : M Value :=
  mNew #[.int .u8 (7 : Int), .int .u8 (7 : Int), .int .u8 (7 : Int), .int .u8 (7 : Int), .int .u8 (7 : Int)] 5 fun (x8 : Addr) =>
  mBind (N_runs_Write (Sl.mk (some x8) 5 5)) fun r9 =>
  unL r9 fun (x9 : Sl) =>
  mNew #[.int .u8 (1 : Int), .int .u8 (5 : Int), .int .u8 (6 : Int), .int .u8 (128 : Int), .int .u8 (9 : Int)] 5 fun (x11 : Addr) =>
  mBind (N_runs_Read (Sl.mk (some x11) 5 5)) fun r12 =>
  un2 unL (unI .i64) r12 fun (x12_0 : Sl) (x12_1 : Int) =>
  mNew #[.int .u8 (1 : Int), .int .u8 (5 : Int)] 5 fun (x16 : Addr) =>
  mBind (N_runs_Read (Sl.mk (some x16) 2 2)) fun r17 =>
  un2 unL (unI .i64) r17 fun (_x17_0 : Sl) (x17_1 : Int) =>
  mNew #[.int .u8 (255 : Int), .int .u8 (1 : Int)] 5 fun (x21 : Addr) =>
  mBind (N_runs_Size (Sl.mk (some x21) 2 2)) fun r22 =>
  un2 (unI .i64) (unI .i64) r22 fun (x22_0 : Int) (x22_1 : Int) =>
  mBind (mIf ((x9.n : Int) == (2 : Int)) (mIdx x9 (0 : Int) 1 fun (x30 : Addr) =>
    mLdI .u8 x30 fun (x31 : Int) =>
    mRet (x31 == (130 : Int))) (mRet false)) fun (b11 : Bool) =>
  mBind (mIf b11 (mIdx x9 (1 : Int) 1 fun (x36 : Addr) =>
    mLdI .u8 x36 fun (x37 : Int) =>
    mRet (x37 == (7 : Int))) (mRet false)) fun (b14 : Bool) =>
  mBind (mIf b14 (mStr x12_0 fun (x42 : ByteArray) =>
    mRet ((x42).toList == ((ByteArray.mk #[5, 6, 9, 9, 9])).toList)) (mRet false)) fun (b16 : Bool) =>
  mBind (mIf ((((b16 && (x12_1 == (0 : Int))) && (x17_1 == (2 : Int))) && (x22_0 == (130 : Int))) && (x22_1 == (0 : Int))) (mBind (N_runs_Worst (129 : Int)) fun r62 =>
    unI .i64 r62 fun (x62 : Int) =>
    mRet (x62 == (131 : Int))) (mRet false)) fun (b18 : Bool) =>
  mRet (.bool b18)
theorem E_signalboxlaw53_fixed : ev Try.prog 44 Try.f44.results.toList C_signalboxlaw53_fixed D_signalboxlaw53_fixed 400 false [.code (bodyOf Try.f44)] (List.map some [] ++ List.replicate (Try.f44.ntmps - List.length ([] : List Value)) none) = B_signalboxlaw53_fixed := by kernel_rfl
theorem S_signalboxlaw53_fixed {h : Hp} {Q : Value → Hp → Prop} (hb : B_signalboxlaw53_fixed h Q) : N_signalboxlaw53_fixed h Q :=
  Nf.of_ev Try.call44 Try.func44 (c := bodyOf Try.f44) rfl mixed C_signalboxlaw53_fixed D_signalboxlaw53_fixed 400 (args := []) (by rw [E_signalboxlaw53_fixed]; exact hb)
def C_runs_Write : List (Nat × List Nat) := [(2, [0, 3])]
def D_runs_Write : List (Nat × List Nat) := [(8, [])]
def T_runs_Write_2 (b0 : Sl) (out3 : Sl) : Env := mkEnv [(0, .slice b0.p b0.n b0.c), (3, .slice out3.p out3.n out3.c)] 42 0
def K_runs_Write_2 (b0 : Sl) (out3 : Sl) : M Value := Cut Try.prog 45 (todoOf Try.f45 2) (T_runs_Write_2 b0 out3)
def B_runs_Write (b0 : Sl) : M Value :=
  K_runs_Write_2 b0 (Sl.mk none 0 0)
def B_runs_Write_2 (b0 : Sl) (out3 : Sl) : M Value :=
  mIf (decide ((b0.n : Int) > (0 : Int))) (
    mBind (N_runs_stretch b0) fun r10 =>
    unI .i64 r10 fun (x10 : Int) =>
    mIf (decide (x10 ≥ (3 : Int))) (
      mIdx b0 (0 : Int) 1 fun (x19 : Addr) =>
      mLdI .u8 x19 fun (x20 : Int) =>
      mNew #[.int .u8 (IntKind.u8.wrap (IntKind.i64.wrap ((IntKind.i64.wrap ((128 : Int) + x10)) - (3 : Int)))), .int .u8 x20] 5 fun (x21 : Addr) =>
      mApp 5 1 1 #[.int .u8 (0 : Int)] out3 ⟨(some x21), 2, 2⟩ fun (x22 : Sl) =>
      mSlc b0 1 x10 (b0.n : Int) (b0.c : Int) fun (x25 : Sl) =>
      K_runs_Write_2 x25 x22) (
      mBind (N_runs_rest b0) fun r27 =>
      unI .i64 r27 fun (x27 : Int) =>
      mSlc b0 1 (0 : Int) x27 (b0.c : Int) fun (x36 : Sl) =>
      mNew #[.int .u8 (IntKind.u8.wrap (IntKind.i64.wrap (x27 - (1 : Int))))] 5 fun (x32 : Addr) =>
      mApp 5 1 1 #[.int .u8 (0 : Int)] out3 ⟨(some x32), 1, 1⟩ fun (x33 : Sl) =>
      mApp 5 1 1 #[.int .u8 (0 : Int)] x33 x36 fun (x37 : Sl) =>
      mSlc b0 1 x27 (b0.n : Int) (b0.c : Int) fun (x40 : Sl) =>
      K_runs_Write_2 x40 x37)) (
    mRet (.slice out3.p out3.n out3.c))
theorem E_runs_Write (b0 : Sl) : ev Try.prog 45 Try.f45.results.toList C_runs_Write D_runs_Write 400 false [.code (bodyOf Try.f45)] (List.map some [.slice b0.p b0.n b0.c] ++ List.replicate (Try.f45.ntmps - List.length ([.slice b0.p b0.n b0.c] : List Value)) none) = B_runs_Write b0 := by kernel_rfl
theorem S_runs_Write (b0 : Sl) {h : Hp} {Q : Value → Hp → Prop} (hb : B_runs_Write b0 h Q) : N_runs_Write b0 h Q :=
  Nf.of_ev Try.call45 Try.func45 (c := bodyOf Try.f45) rfl mixed C_runs_Write D_runs_Write 400 (args := [.slice b0.p b0.n b0.c]) (by rw [E_runs_Write]; exact hb)
theorem E_runs_Write_2 (b0 : Sl) (out3 : Sl) : ev Try.prog 45 Try.f45.results.toList C_runs_Write D_runs_Write 400 true (todoOf Try.f45 2) (T_runs_Write_2 b0 out3) = B_runs_Write_2 b0 out3 := by kernel_rfl
theorem S_runs_Write_2 (b0 : Sl) (out3 : Sl) {h : Hp} {Q : Value → Hp → Prop} (hb : B_runs_Write_2 b0 out3 h Q) : K_runs_Write_2 b0 out3 h Q :=
  Cut.of_ev Try.func45 mixed C_runs_Write D_runs_Write 400 (by rw [E_runs_Write_2]; exact hb)
def C_runs_Read : List (Nat × List Nat) := []
def D_runs_Read : List (Nat × List Nat) := []
def B_runs_Read (b0 : Sl) : M Value :=
  mNew #[.slice none (0) (0)] 60 fun (x4 : Addr) =>
  mBind (N_runs_walk b0 (84) (#[]) (#[.pointer (some x4)])) fun r8 =>
  unI .i64 r8 fun (x8 : Int) =>
  mIf (x8 != (0 : Int)) (
    mRet (.tuple #[.slice none (0) (0), .int .i64 x8])) (
    mLdL x4 fun (x12 : Sl) =>
    mRet (.tuple #[.slice x12.p x12.n x12.c, .int .i64 (0 : Int)]))
theorem E_runs_Read (b0 : Sl) : ev Try.prog 46 Try.f46.results.toList C_runs_Read D_runs_Read 400 false [.code (bodyOf Try.f46)] (List.map some [.slice b0.p b0.n b0.c] ++ List.replicate (Try.f46.ntmps - List.length ([.slice b0.p b0.n b0.c] : List Value)) none) = B_runs_Read b0 := by kernel_rfl
theorem S_runs_Read (b0 : Sl) {h : Hp} {Q : Value → Hp → Prop} (hb : B_runs_Read b0 h Q) : N_runs_Read b0 h Q :=
  Nf.of_ev Try.call46 Try.func46 (c := bodyOf Try.f46) rfl mixed C_runs_Read D_runs_Read 400 (args := [.slice b0.p b0.n b0.c]) (by rw [E_runs_Read]; exact hb)
def C_runs_Size : List (Nat × List Nat) := []
def D_runs_Size : List (Nat × List Nat) := []
def B_runs_Size (b0 : Sl) : M Value :=
  mNew #[.int .i64 (0 : Int)] 3 fun (x4 : Addr) =>
  mSt x4 (.int .i64 (0 : Int)) <|
  mBind (N_runs_walk b0 (86) (#[]) (#[.pointer (some x4)])) fun r8 =>
  unI .i64 r8 fun (x8 : Int) =>
  mIf (x8 != (0 : Int)) (
    mRet (.tuple #[.int .i64 (0 : Int), .int .i64 x8])) (
    mLdI .i64 x4 fun (x12 : Int) =>
    mRet (.tuple #[.int .i64 x12, .int .i64 (0 : Int)]))
theorem E_runs_Size (b0 : Sl) : ev Try.prog 47 Try.f47.results.toList C_runs_Size D_runs_Size 400 false [.code (bodyOf Try.f47)] (List.map some [.slice b0.p b0.n b0.c] ++ List.replicate (Try.f47.ntmps - List.length ([.slice b0.p b0.n b0.c] : List Value)) none) = B_runs_Size b0 := by kernel_rfl
theorem S_runs_Size (b0 : Sl) {h : Hp} {Q : Value → Hp → Prop} (hb : B_runs_Size b0 h Q) : N_runs_Size b0 h Q :=
  Nf.of_ev Try.call47 Try.func47 (c := bodyOf Try.f47) rfl mixed C_runs_Size D_runs_Size 400 (args := [.slice b0.p b0.n b0.c]) (by rw [E_runs_Size]; exact hb)
def C_signalboxref53_Write : List (Nat × List Nat) := [(2, [0, 3]), (8, [0, 3, 5])]
def D_signalboxref53_Write : List (Nat × List Nat) := [(10, [])]
def T_signalboxref53_Write_2 (b0 : Sl) (out3 : Sl) : Env := mkEnv [(0, .slice b0.p b0.n b0.c), (3, .slice out3.p out3.n out3.c)] 57 0
def K_signalboxref53_Write_2 (b0 : Sl) (out3 : Sl) : M Value := Cut Try.prog 48 (todoOf Try.f48 2) (T_signalboxref53_Write_2 b0 out3)
def T_signalboxref53_Write_8 (b0 : Sl) (out3 : Sl) (n5 : Int) : Env := mkEnv [(0, .slice b0.p b0.n b0.c), (3, .slice out3.p out3.n out3.c), (5, .int .i64 n5)] 57 0
def K_signalboxref53_Write_8 (b0 : Sl) (out3 : Sl) (n5 : Int) : M Value := Cut Try.prog 48 (todoOf Try.f48 8) (T_signalboxref53_Write_8 b0 out3 n5)
def B_signalboxref53_Write (b0 : Sl) : M Value :=
  K_signalboxref53_Write_2 b0 (Sl.mk none 0 0)
def B_signalboxref53_Write_2 (b0 : Sl) (out3 : Sl) : M Value :=
  mIf (decide ((b0.n : Int) > (0 : Int))) (
    mBind (N_signalboxref53_alike b0) fun r10 =>
    unI .i64 r10 fun (x10 : Int) =>
    mIf (decide (x10 ≥ (3 : Int))) (
      mIdx b0 (0 : Int) 1 fun (x19 : Addr) =>
      mLdI .u8 x19 fun (x20 : Int) =>
      mNew #[.int .u8 (IntKind.u8.wrap (IntKind.i64.wrap ((IntKind.i64.wrap ((128 : Int) + x10)) - (3 : Int)))), .int .u8 x20] 5 fun (x21 : Addr) =>
      mApp 5 1 1 #[.int .u8 (0 : Int)] out3 ⟨(some x21), 2, 2⟩ fun (x22 : Sl) =>
      mSlc b0 1 x10 (b0.n : Int) (b0.c : Int) fun (x25 : Sl) =>
      K_signalboxref53_Write_2 x25 x22) (
      K_signalboxref53_Write_8 b0 out3 (0 : Int))) (
    mRet (.slice out3.p out3.n out3.c))
def B_signalboxref53_Write_8 (b0 : Sl) (out3 : Sl) (n5 : Int) : M Value :=
  mBind (mIf ((decide (n5 < (b0.n : Int))) && (decide (n5 < (128 : Int)))) (mSlc b0 1 n5 (b0.n : Int) (b0.c : Int) fun (x37 : Sl) =>
    mBind (N_signalboxref53_alike x37) fun r38 =>
    unI .i64 r38 fun (x38 : Int) =>
    mRet (decide (x38 < (3 : Int)))) (mRet false)) fun (b9 : Bool) =>
  mIf b9 (
    K_signalboxref53_Write_8 b0 out3 (IntKind.i64.wrap (n5 + (1 : Int)))) (
    mSlc b0 1 (0 : Int) n5 (b0.c : Int) fun (x51 : Sl) =>
    mNew #[.int .u8 (IntKind.u8.wrap (IntKind.i64.wrap (n5 - (1 : Int))))] 5 fun (x47 : Addr) =>
    mApp 5 1 1 #[.int .u8 (0 : Int)] out3 ⟨(some x47), 1, 1⟩ fun (x48 : Sl) =>
    mApp 5 1 1 #[.int .u8 (0 : Int)] x48 x51 fun (x52 : Sl) =>
    mSlc b0 1 n5 (b0.n : Int) (b0.c : Int) fun (x55 : Sl) =>
    K_signalboxref53_Write_2 x55 x52)
theorem E_signalboxref53_Write (b0 : Sl) : ev Try.prog 48 Try.f48.results.toList C_signalboxref53_Write D_signalboxref53_Write 400 false [.code (bodyOf Try.f48)] (List.map some [.slice b0.p b0.n b0.c] ++ List.replicate (Try.f48.ntmps - List.length ([.slice b0.p b0.n b0.c] : List Value)) none) = B_signalboxref53_Write b0 := by kernel_rfl
theorem S_signalboxref53_Write (b0 : Sl) {h : Hp} {Q : Value → Hp → Prop} (hb : B_signalboxref53_Write b0 h Q) : N_signalboxref53_Write b0 h Q :=
  Nf.of_ev Try.call48 Try.func48 (c := bodyOf Try.f48) rfl mixed C_signalboxref53_Write D_signalboxref53_Write 400 (args := [.slice b0.p b0.n b0.c]) (by rw [E_signalboxref53_Write]; exact hb)
theorem E_signalboxref53_Write_2 (b0 : Sl) (out3 : Sl) : ev Try.prog 48 Try.f48.results.toList C_signalboxref53_Write D_signalboxref53_Write 400 true (todoOf Try.f48 2) (T_signalboxref53_Write_2 b0 out3) = B_signalboxref53_Write_2 b0 out3 := by kernel_rfl
theorem S_signalboxref53_Write_2 (b0 : Sl) (out3 : Sl) {h : Hp} {Q : Value → Hp → Prop} (hb : B_signalboxref53_Write_2 b0 out3 h Q) : K_signalboxref53_Write_2 b0 out3 h Q :=
  Cut.of_ev Try.func48 mixed C_signalboxref53_Write D_signalboxref53_Write 400 (by rw [E_signalboxref53_Write_2]; exact hb)
theorem E_signalboxref53_Write_8 (b0 : Sl) (out3 : Sl) (n5 : Int) : ev Try.prog 48 Try.f48.results.toList C_signalboxref53_Write D_signalboxref53_Write 400 true (todoOf Try.f48 8) (T_signalboxref53_Write_8 b0 out3 n5) = B_signalboxref53_Write_8 b0 out3 n5 := by kernel_rfl
theorem S_signalboxref53_Write_8 (b0 : Sl) (out3 : Sl) (n5 : Int) {h : Hp} {Q : Value → Hp → Prop} (hb : B_signalboxref53_Write_8 b0 out3 n5 h Q) : K_signalboxref53_Write_8 b0 out3 n5 h Q :=
  Cut.of_ev Try.func48 mixed C_signalboxref53_Write D_signalboxref53_Write 400 (by rw [E_signalboxref53_Write_8]; exact hb)
def C_runs_Worst : List (Nat × List Nat) := []
def D_runs_Worst : List (Nat × List Nat) := []
def B_runs_Worst (n0 : Int) : M Value :=
  mGuard ((128 : Int) ≠ 0) <|
  mRet (.int .i64 (IntKind.i64.wrap ((if (1099511627776 : Int) < (if (0 : Int) > n0 then (0 : Int) else n0) then (1099511627776 : Int) else (if (0 : Int) > n0 then (0 : Int) else n0)) + (IntKind.i64.wrap (Int.tdiv (IntKind.i64.wrap ((IntKind.i64.wrap ((if (1099511627776 : Int) < (if (0 : Int) > n0 then (0 : Int) else n0) then (1099511627776 : Int) else (if (0 : Int) > n0 then (0 : Int) else n0)) + (128 : Int))) - (1 : Int))) (128 : Int))))))
theorem E_runs_Worst (n0 : Int) : ev Try.prog 49 Try.f49.results.toList C_runs_Worst D_runs_Worst 400 false [.code (bodyOf Try.f49)] (List.map some [.int .i64 n0] ++ List.replicate (Try.f49.ntmps - List.length ([.int .i64 n0] : List Value)) none) = B_runs_Worst n0 := by kernel_rfl
theorem S_runs_Worst (n0 : Int) {h : Hp} {Q : Value → Hp → Prop} (hb : B_runs_Worst n0 h Q) : N_runs_Worst n0 h Q :=
  Nf.of_ev Try.call49 Try.func49 (c := bodyOf Try.f49) rfl mixed C_runs_Worst D_runs_Worst 400 (args := [.int .i64 n0]) (by rw [E_runs_Worst]; exact hb)
def C_runs_stretch : List (Nat × List Nat) := [(2, [0, 3])]
def D_runs_stretch : List (Nat × List Nat) := []
def T_runs_stretch_2 (b0 : Sl) (n3 : Int) : Env := mkEnv [(0, .slice b0.p b0.n b0.c), (3, .int .i64 n3)] 25 0
def K_runs_stretch_2 (b0 : Sl) (n3 : Int) : M Value := Cut Try.prog 81 (todoOf Try.f81 2) (T_runs_stretch_2 b0 n3)
def B_runs_stretch (b0 : Sl) : M Value :=
  K_runs_stretch_2 b0 (1 : Int)
def B_runs_stretch_2 (b0 : Sl) (n3 : Int) : M Value :=
  mBind (mIf ((decide (n3 < (b0.n : Int))) && (decide (n3 < (130 : Int)))) (mIdx b0 n3 1 fun (x15 : Addr) =>
    mLdI .u8 x15 fun (x16 : Int) =>
    mIdx b0 (0 : Int) 1 fun (x18 : Addr) =>
    mLdI .u8 x18 fun (x19 : Int) =>
    mRet (x16 == x19)) (mRet false)) fun (b5 : Bool) =>
  mIf b5 (
    K_runs_stretch_2 b0 (IntKind.i64.wrap (n3 + (1 : Int)))) (
    mRet (.int .i64 n3))
theorem E_runs_stretch (b0 : Sl) : ev Try.prog 81 Try.f81.results.toList C_runs_stretch D_runs_stretch 400 false [.code (bodyOf Try.f81)] (List.map some [.slice b0.p b0.n b0.c] ++ List.replicate (Try.f81.ntmps - List.length ([.slice b0.p b0.n b0.c] : List Value)) none) = B_runs_stretch b0 := by kernel_rfl
theorem S_runs_stretch (b0 : Sl) {h : Hp} {Q : Value → Hp → Prop} (hb : B_runs_stretch b0 h Q) : N_runs_stretch b0 h Q :=
  Nf.of_ev Try.call81 Try.func81 (c := bodyOf Try.f81) rfl mixed C_runs_stretch D_runs_stretch 400 (args := [.slice b0.p b0.n b0.c]) (by rw [E_runs_stretch]; exact hb)
theorem E_runs_stretch_2 (b0 : Sl) (n3 : Int) : ev Try.prog 81 Try.f81.results.toList C_runs_stretch D_runs_stretch 400 true (todoOf Try.f81 2) (T_runs_stretch_2 b0 n3) = B_runs_stretch_2 b0 n3 := by kernel_rfl
theorem S_runs_stretch_2 (b0 : Sl) (n3 : Int) {h : Hp} {Q : Value → Hp → Prop} (hb : B_runs_stretch_2 b0 n3 h Q) : K_runs_stretch_2 b0 n3 h Q :=
  Cut.of_ev Try.func81 mixed C_runs_stretch D_runs_stretch 400 (by rw [E_runs_stretch_2]; exact hb)
def C_runs_rest : List (Nat × List Nat) := [(2, [0, 3])]
def D_runs_rest : List (Nat × List Nat) := []
def T_runs_rest_2 (b0 : Sl) (n3 : Int) : Env := mkEnv [(0, .slice b0.p b0.n b0.c), (3, .int .i64 n3)] 24 0
def K_runs_rest_2 (b0 : Sl) (n3 : Int) : M Value := Cut Try.prog 82 (todoOf Try.f82 2) (T_runs_rest_2 b0 n3)
def B_runs_rest (b0 : Sl) : M Value :=
  K_runs_rest_2 b0 (0 : Int)
def B_runs_rest_2 (b0 : Sl) (n3 : Int) : M Value :=
  mIf ((decide (n3 < (b0.n : Int))) && (decide (n3 < (128 : Int)))) (
    mSlc b0 1 n3 (b0.n : Int) (b0.c : Int) fun (x15 : Sl) =>
    mBind (N_runs_stretch x15) fun r16 =>
    unI .i64 r16 fun (x16 : Int) =>
    mIf (decide (x16 ≥ (3 : Int))) (
      mRet (.int .i64 (if (128 : Int) < n3 then (128 : Int) else n3))) (
      K_runs_rest_2 b0 (IntKind.i64.wrap (n3 + x16)))) (
    mRet (.int .i64 (if (128 : Int) < n3 then (128 : Int) else n3)))
theorem E_runs_rest (b0 : Sl) : ev Try.prog 82 Try.f82.results.toList C_runs_rest D_runs_rest 400 false [.code (bodyOf Try.f82)] (List.map some [.slice b0.p b0.n b0.c] ++ List.replicate (Try.f82.ntmps - List.length ([.slice b0.p b0.n b0.c] : List Value)) none) = B_runs_rest b0 := by kernel_rfl
theorem S_runs_rest (b0 : Sl) {h : Hp} {Q : Value → Hp → Prop} (hb : B_runs_rest b0 h Q) : N_runs_rest b0 h Q :=
  Nf.of_ev Try.call82 Try.func82 (c := bodyOf Try.f82) rfl mixed C_runs_rest D_runs_rest 400 (args := [.slice b0.p b0.n b0.c]) (by rw [E_runs_rest]; exact hb)
theorem E_runs_rest_2 (b0 : Sl) (n3 : Int) : ev Try.prog 82 Try.f82.results.toList C_runs_rest D_runs_rest 400 true (todoOf Try.f82 2) (T_runs_rest_2 b0 n3) = B_runs_rest_2 b0 n3 := by kernel_rfl
theorem S_runs_rest_2 (b0 : Sl) (n3 : Int) {h : Hp} {Q : Value → Hp → Prop} (hb : B_runs_rest_2 b0 n3 h Q) : K_runs_rest_2 b0 n3 h Q :=
  Cut.of_ev Try.func82 mixed C_runs_rest D_runs_rest 400 (by rw [E_runs_rest_2]; exact hb)
def C_runs_walk : List (Nat × List Nat) := [(2, [0, 1, 5])]
def D_runs_walk : List (Nat × List Nat) := [(9, [])]
def T_runs_walk_2 (b0 : Sl) (see1g : Nat) (see1f : Array Value) (see1c : Array Value) (sum5 : Int) : Env := mkEnv [(0, .slice b0.p b0.n b0.c), (1, .func (.func see1g) see1f see1c), (5, .int .i64 sum5)] 35 0
def K_runs_walk_2 (b0 : Sl) (see1g : Nat) (see1f : Array Value) (see1c : Array Value) (sum5 : Int) : M Value := Cut Try.prog 83 (todoOf Try.f83 2) (T_runs_walk_2 b0 see1g see1f see1c sum5)
def B_runs_walk (b0 : Sl) (see1g : Nat) (see1f : Array Value) (see1c : Array Value) : M Value :=
  K_runs_walk_2 b0 see1g see1f see1c (0 : Int)
def B_runs_walk_2 (b0 : Sl) (see1g : Nat) (see1f : Array Value) (see1c : Array Value) (sum5 : Int) : M Value :=
  mIf (decide ((b0.n : Int) > (0 : Int))) (
    mBind (N_runs_next b0) fun r13 =>
    unT r13 fun x13l =>
    unC x13l fun x13v0 x13l0 =>
    unA x13v0 fun x13_0l =>
    unC x13_0l fun x13_0v0 x13_0l0 =>
    unI .i64 x13_0v0 fun (x13_0_0 : Int) =>
    unC x13_0l0 fun x13_0v1 x13_0l1 =>
    unI .i64 x13_0v1 fun (x13_0_1 : Int) =>
    unE x13_0l1 <|
    unC x13l0 fun x13v1 x13l1 =>
    unB x13v1 fun (x13_1 : Bool) =>
    unE x13l1 <|
    mNew #[.int .i64 (0 : Int), .int .i64 (0 : Int)] 131 fun (x6 : Addr) =>
    mSt x6 (.int .i64 x13_0_0) <|
    mSt (x6.add 1) (.int .i64 x13_0_1) <|
    mIf (!x13_1) (
      mRet (.int .i64 (2 : Int))) (
      mLdI .i64 (x6.add 1) fun (x20 : Int) =>
      mIf (decide ((IntKind.i64.wrap (sum5 + x20)) > (1048576 : Int))) (
        mRet (.int .i64 (3 : Int))) (
        mAnd (
          mLdI .i64 x6 fun (x27_14 : Int) =>
          mSlc b0 1 (0 : Int) x27_14 (b0.c : Int) fun (x28_15 : Sl) =>
          mLdI .i64 x6 fun (x29_16_0 : Int) =>
          mLdI .i64 (x6.add 1) fun (x29_16_1 : Int) =>
          mBind (Nf Try.prog see1g (see1f ++ #[.slice x28_15.p x28_15.n x28_15.c, .agg #[.int .i64 x29_16_0, .int .i64 x29_16_1]] ++ see1c)) fun _r30_17 =>
          mLdI .i64 x6 fun (x33_19 : Int) =>
          mSlc b0 1 x33_19 (b0.n : Int) (b0.c : Int) fun (x34_20 : Sl) =>
          K_runs_walk_2 x34_20 see1g see1f see1c (IntKind.i64.wrap (sum5 + x20))) (
          mLdI .i64 x6 fun (x29_0 : Int) =>
          mLdI .i64 (x6.add 1) fun (x29_1 : Int) =>
          mLdI .i64 x6 fun (x27 : Int) =>
          mSlc b0 1 (0 : Int) x27 (b0.c : Int) fun (x28 : Sl) =>
          mBind (Nf Try.prog see1g (see1f ++ #[.slice x28.p x28.n x28.c, .agg #[.int .i64 x29_0, .int .i64 x29_1]] ++ see1c)) fun _r30 =>
          mLdI .i64 x6 fun (x33 : Int) =>
          mSlc b0 1 x33 (b0.n : Int) (b0.c : Int) fun (x34 : Sl) =>
          K_runs_walk_2 x34 see1g see1f see1c (IntKind.i64.wrap (sum5 + x20)))))) (
    mRet (.int .i64 (0 : Int)))
theorem E_runs_walk (b0 : Sl) (see1g : Nat) (see1f : Array Value) (see1c : Array Value) : ev Try.prog 83 Try.f83.results.toList C_runs_walk D_runs_walk 400 false [.code (bodyOf Try.f83)] (List.map some [.slice b0.p b0.n b0.c, .func (.func see1g) see1f see1c] ++ List.replicate (Try.f83.ntmps - List.length ([.slice b0.p b0.n b0.c, .func (.func see1g) see1f see1c] : List Value)) none) = B_runs_walk b0 see1g see1f see1c := by kernel_rfl
theorem S_runs_walk (b0 : Sl) (see1g : Nat) (see1f : Array Value) (see1c : Array Value) {h : Hp} {Q : Value → Hp → Prop} (hb : B_runs_walk b0 see1g see1f see1c h Q) : N_runs_walk b0 see1g see1f see1c h Q :=
  Nf.of_ev Try.call83 Try.func83 (c := bodyOf Try.f83) rfl mixed C_runs_walk D_runs_walk 400 (args := [.slice b0.p b0.n b0.c, .func (.func see1g) see1f see1c]) (by rw [E_runs_walk]; exact hb)
theorem E_runs_walk_2 (b0 : Sl) (see1g : Nat) (see1f : Array Value) (see1c : Array Value) (sum5 : Int) : ev Try.prog 83 Try.f83.results.toList C_runs_walk D_runs_walk 400 true (todoOf Try.f83 2) (T_runs_walk_2 b0 see1g see1f see1c sum5) = B_runs_walk_2 b0 see1g see1f see1c sum5 := by kernel_rfl
theorem S_runs_walk_2 (b0 : Sl) (see1g : Nat) (see1f : Array Value) (see1c : Array Value) (sum5 : Int) {h : Hp} {Q : Value → Hp → Prop} (hb : B_runs_walk_2 b0 see1g see1f see1c sum5 h Q) : K_runs_walk_2 b0 see1g see1f see1c sum5 h Q :=
  Cut.of_ev Try.func83 mixed C_runs_walk D_runs_walk 400 (by rw [E_runs_walk_2]; exact hb)
def C_runs_Read_1 : List (Nat × List Nat) := []
def D_runs_Read_1 : List (Nat × List Nat) := [(2, []), (3, [])]
def B_runs_Read_1 (b0 : Sl) (p1_0 : Int) (p1_1 : Int) (fv2 : Option Addr) : M Value :=
  mNew #[.int .i64 p1_0, .int .i64 p1_1] 131 fun (x4 : Addr) =>
  mIdx b0 (0 : Int) 1 fun (x6 : Addr) =>
  mLdI .u8 x6 fun (x7 : Int) =>
  mIf (decide (x7 ≥ (128 : Int))) (
    mSlc b0 1 (1 : Int) (b0.n : Int) (b0.c : Int) fun (x11 : Sl) =>
    mAnd (
      mNil fv2 fun (a20 : Addr) =>
      mLdL a20 fun (x9_19 : Sl) =>
      mLdI .i64 (x4.add 1) fun (x13_21 : Int) =>
      mBind (N_bytes_Repeat x11 x13_21) fun r14_22 =>
      unL r14_22 fun (x14_22 : Sl) =>
      mApp 5 1 1 #[.int .u8 (0 : Int)] x9_19 x14_22 fun (x15_23 : Sl) =>
      mNil fv2 fun (a25 : Addr) =>
      mSt a25 (.slice x15_23.p x15_23.n x15_23.c) <|
      mRet (.tuple #[])) (
      mLdI .i64 (x4.add 1) fun (x13 : Int) =>
      mAnd (
        mNil fv2 fun (a14 : Addr) =>
        mLdL a14 fun (x9_13 : Sl) =>
        mBind (N_bytes_Repeat x11 x13) fun r14_15 =>
        unL r14_15 fun (x14_15 : Sl) =>
        mApp 5 1 1 #[.int .u8 (0 : Int)] x9_13 x14_15 fun (x15_16 : Sl) =>
        mNil fv2 fun (a18 : Addr) =>
        mSt a18 (.slice x15_16.p x15_16.n x15_16.c) <|
        mRet (.tuple #[])) (
        mBind (N_bytes_Repeat x11 x13) fun r14 =>
        unL r14 fun (x14 : Sl) =>
        mNil fv2 fun (a9 : Addr) =>
        mLdL a9 fun (x9 : Sl) =>
        mApp 5 1 1 #[.int .u8 (0 : Int)] x9 x14 fun (x15 : Sl) =>
        mNil fv2 fun (a12 : Addr) =>
        mSt a12 (.slice x15.p x15.n x15.c) <|
        mRet (.tuple #[])))) (
    mSlc b0 1 (1 : Int) (b0.n : Int) (b0.c : Int) fun (x18 : Sl) =>
    mNil fv2 fun (a28 : Addr) =>
    mLdL a28 fun (x16 : Sl) =>
    mApp 5 1 1 #[.int .u8 (0 : Int)] x16 x18 fun (x19 : Sl) =>
    mNil fv2 fun (a31 : Addr) =>
    mSt a31 (.slice x19.p x19.n x19.c) <|
    mRet (.tuple #[]))
theorem E_runs_Read_1 (b0 : Sl) (p1_0 : Int) (p1_1 : Int) (fv2 : Option Addr) : ev Try.prog 84 Try.f84.results.toList C_runs_Read_1 D_runs_Read_1 400 false [.code (bodyOf Try.f84)] (List.map some [.slice b0.p b0.n b0.c, .agg #[.int .i64 p1_0, .int .i64 p1_1], .pointer fv2] ++ List.replicate (Try.f84.ntmps - List.length ([.slice b0.p b0.n b0.c, .agg #[.int .i64 p1_0, .int .i64 p1_1], .pointer fv2] : List Value)) none) = B_runs_Read_1 b0 p1_0 p1_1 fv2 := by kernel_rfl
theorem S_runs_Read_1 (b0 : Sl) (p1_0 : Int) (p1_1 : Int) (fv2 : Option Addr) {h : Hp} {Q : Value → Hp → Prop} (hb : B_runs_Read_1 b0 p1_0 p1_1 fv2 h Q) : N_runs_Read_1 b0 p1_0 p1_1 fv2 h Q :=
  Nf.of_ev Try.call84 Try.func84 (c := bodyOf Try.f84) rfl mixed C_runs_Read_1 D_runs_Read_1 400 (args := [.slice b0.p b0.n b0.c, .agg #[.int .i64 p1_0, .int .i64 p1_1], .pointer fv2]) (by rw [E_runs_Read_1]; exact hb)
def C_bytes_Repeat : List (Nat × List Nat) := [(5, [0, 1]), (8, [0, 6]), (18, [7, 8, 9, 10])]
def D_bytes_Repeat : List (Nat × List Nat) := [(20, [])]
def T_bytes_Repeat_5 (b0 : Sl) (count1 : Int) : Env := mkEnv [(0, .slice b0.p b0.n b0.c), (1, .int .i64 count1)] 77 0
def K_bytes_Repeat_5 (b0 : Sl) (count1 : Int) : M Value := Cut Try.prog 85 (todoOf Try.f85 5) (T_bytes_Repeat_5 b0 count1)
def T_bytes_Repeat_8 (b0 : Sl) (lo6 : Int) : Env := mkEnv [(0, .slice b0.p b0.n b0.c), (6, .int .u64 lo6)] 77 0
def K_bytes_Repeat_8 (b0 : Sl) (lo6 : Int) : M Value := Cut Try.prog 85 (todoOf Try.f85 8) (T_bytes_Repeat_8 b0 lo6)
def T_bytes_Repeat_18 (n7 : Int) (chunkMax8 : Int) (nb9 : Sl) (bp10 : Int) : Env := mkEnv [(7, .int .i64 n7), (8, .int .i64 chunkMax8), (9, .slice nb9.p nb9.n nb9.c), (10, .int .i64 bp10)] 77 0
def K_bytes_Repeat_18 (n7 : Int) (chunkMax8 : Int) (nb9 : Sl) (bp10 : Int) : M Value := Cut Try.prog 85 (todoOf Try.f85 18) (T_bytes_Repeat_18 n7 chunkMax8 nb9 bp10)
def B_bytes_Repeat (b0 : Sl) (count1 : Int) : M Value :=
  mIf (count1 == (0 : Int)) (
    mNew #[] 5 fun (x14 : Addr) =>
    mRet (.slice (some x14) (0) (0))) (
    mIf (decide (count1 < (0 : Int))) (
      mFail) (
      K_bytes_Repeat_5 b0 count1))
def B_bytes_Repeat_5 (b0 : Sl) (count1 : Int) : M Value :=
  mBind (N_math_bits_Mul (IntKind.u64.wrap (b0.n : Int)) (IntKind.u64.wrap count1)) fun r24 =>
  un2 (unI .u64) (unI .u64) r24 fun (x24_0 : Int) (x24_1 : Int) =>
  mIf ((decide (x24_0 > (0 : Int))) || (decide (x24_1 > (9223372036854775807 : Int)))) (
    mFail) (
    K_bytes_Repeat_8 b0 x24_1)
def B_bytes_Repeat_8 (b0 : Sl) (lo6 : Int) : M Value :=
  mIf ((b0.n : Int) == (0 : Int)) (
    mNew #[] 5 fun (x39 : Addr) =>
    mRet (.slice (some x39) (0) (0))) (
    mIf (decide ((IntKind.i64.wrap lo6) > (8192 : Int))) (
      mGuard ((b0.n : Int) ≠ 0) <|
      mIf ((IntKind.i64.wrap ((IntKind.i64.wrap (Int.tdiv (8192 : Int) (b0.n : Int))) * (b0.n : Int))) == (0 : Int)) (
        mBind (N_internal_bytealg_MakeNoZero (IntKind.i64.wrap lo6)) fun r54 =>
        unL r54 fun (x54 : Sl) =>
        mSlc x54 1 (0 : Int) (IntKind.i64.wrap lo6) (IntKind.i64.wrap lo6) fun (x57 : Sl) =>
        mCopy 1 x57 b0 fun (x60 : Int) =>
        K_bytes_Repeat_18 (IntKind.i64.wrap lo6) (b0.n : Int) x57 x60) (
        mBind (N_internal_bytealg_MakeNoZero (IntKind.i64.wrap lo6)) fun r54_8 =>
        unL r54_8 fun (x54_8 : Sl) =>
        mSlc x54_8 1 (0 : Int) (IntKind.i64.wrap lo6) (IntKind.i64.wrap lo6) fun (x57_9 : Sl) =>
        mCopy 1 x57_9 b0 fun (x60_10 : Int) =>
        K_bytes_Repeat_18 (IntKind.i64.wrap lo6) (IntKind.i64.wrap ((IntKind.i64.wrap (Int.tdiv (8192 : Int) (b0.n : Int))) * (b0.n : Int))) x57_9 x60_10)) (
      mBind (N_internal_bytealg_MakeNoZero (IntKind.i64.wrap lo6)) fun r54_11 =>
      unL r54_11 fun (x54_11 : Sl) =>
      mSlc x54_11 1 (0 : Int) (IntKind.i64.wrap lo6) (IntKind.i64.wrap lo6) fun (x57_12 : Sl) =>
      mCopy 1 x57_12 b0 fun (x60_13 : Int) =>
      K_bytes_Repeat_18 (IntKind.i64.wrap lo6) (IntKind.i64.wrap lo6) x57_12 x60_13))
def B_bytes_Repeat_18 (n7 : Int) (chunkMax8 : Int) (nb9 : Sl) (bp10 : Int) : M Value :=
  mIf (decide (bp10 < n7)) (
    mSlc nb9 1 bp10 (nb9.n : Int) (nb9.c : Int) fun (x70 : Sl) =>
    mSlc nb9 1 (0 : Int) (if chunkMax8 < bp10 then chunkMax8 else bp10) (nb9.c : Int) fun (x73 : Sl) =>
    mCopy 1 x70 x73 fun (x74 : Int) =>
    K_bytes_Repeat_18 n7 chunkMax8 nb9 (IntKind.i64.wrap (bp10 + x74))) (
    mRet (.slice nb9.p nb9.n nb9.c))
theorem E_bytes_Repeat (b0 : Sl) (count1 : Int) : ev Try.prog 85 Try.f85.results.toList C_bytes_Repeat D_bytes_Repeat 400 false [.code (bodyOf Try.f85)] (List.map some [.slice b0.p b0.n b0.c, .int .i64 count1] ++ List.replicate (Try.f85.ntmps - List.length ([.slice b0.p b0.n b0.c, .int .i64 count1] : List Value)) none) = B_bytes_Repeat b0 count1 := by kernel_rfl
theorem S_bytes_Repeat (b0 : Sl) (count1 : Int) {h : Hp} {Q : Value → Hp → Prop} (hb : B_bytes_Repeat b0 count1 h Q) : N_bytes_Repeat b0 count1 h Q :=
  Nf.of_ev Try.call85 Try.func85 (c := bodyOf Try.f85) rfl mixed C_bytes_Repeat D_bytes_Repeat 400 (args := [.slice b0.p b0.n b0.c, .int .i64 count1]) (by rw [E_bytes_Repeat]; exact hb)
theorem E_bytes_Repeat_5 (b0 : Sl) (count1 : Int) : ev Try.prog 85 Try.f85.results.toList C_bytes_Repeat D_bytes_Repeat 400 true (todoOf Try.f85 5) (T_bytes_Repeat_5 b0 count1) = B_bytes_Repeat_5 b0 count1 := by kernel_rfl
theorem S_bytes_Repeat_5 (b0 : Sl) (count1 : Int) {h : Hp} {Q : Value → Hp → Prop} (hb : B_bytes_Repeat_5 b0 count1 h Q) : K_bytes_Repeat_5 b0 count1 h Q :=
  Cut.of_ev Try.func85 mixed C_bytes_Repeat D_bytes_Repeat 400 (by rw [E_bytes_Repeat_5]; exact hb)
theorem E_bytes_Repeat_8 (b0 : Sl) (lo6 : Int) : ev Try.prog 85 Try.f85.results.toList C_bytes_Repeat D_bytes_Repeat 400 true (todoOf Try.f85 8) (T_bytes_Repeat_8 b0 lo6) = B_bytes_Repeat_8 b0 lo6 := by kernel_rfl
theorem S_bytes_Repeat_8 (b0 : Sl) (lo6 : Int) {h : Hp} {Q : Value → Hp → Prop} (hb : B_bytes_Repeat_8 b0 lo6 h Q) : K_bytes_Repeat_8 b0 lo6 h Q :=
  Cut.of_ev Try.func85 mixed C_bytes_Repeat D_bytes_Repeat 400 (by rw [E_bytes_Repeat_8]; exact hb)
theorem E_bytes_Repeat_18 (n7 : Int) (chunkMax8 : Int) (nb9 : Sl) (bp10 : Int) : ev Try.prog 85 Try.f85.results.toList C_bytes_Repeat D_bytes_Repeat 400 true (todoOf Try.f85 18) (T_bytes_Repeat_18 n7 chunkMax8 nb9 bp10) = B_bytes_Repeat_18 n7 chunkMax8 nb9 bp10 := by kernel_rfl
theorem S_bytes_Repeat_18 (n7 : Int) (chunkMax8 : Int) (nb9 : Sl) (bp10 : Int) {h : Hp} {Q : Value → Hp → Prop} (hb : B_bytes_Repeat_18 n7 chunkMax8 nb9 bp10 h Q) : K_bytes_Repeat_18 n7 chunkMax8 nb9 bp10 h Q :=
  Cut.of_ev Try.func85 mixed C_bytes_Repeat D_bytes_Repeat 400 (by rw [E_bytes_Repeat_18]; exact hb)
def C_runs_Size_1 : List (Nat × List Nat) := []
def D_runs_Size_1 : List (Nat × List Nat) := []
def B_runs_Size_1 (_t0 : Sl) (p1_0 : Int) (p1_1 : Int) (fv2 : Option Addr) : M Value :=
  mNew #[.int .i64 p1_0, .int .i64 p1_1] 131 fun (x4 : Addr) =>
  mNil fv2 fun (a3 : Addr) =>
  mLdI .i64 a3 fun (x5 : Int) =>
  mLdI .i64 (x4.add 1) fun (x7 : Int) =>
  mNil fv2 fun (a7 : Addr) =>
  mSt a7 (.int .i64 (IntKind.i64.wrap (x5 + x7))) <|
  mRet (.tuple #[])
theorem E_runs_Size_1 (t0 : Sl) (p1_0 : Int) (p1_1 : Int) (fv2 : Option Addr) : ev Try.prog 86 Try.f86.results.toList C_runs_Size_1 D_runs_Size_1 400 false [.code (bodyOf Try.f86)] (List.map some [.slice t0.p t0.n t0.c, .agg #[.int .i64 p1_0, .int .i64 p1_1], .pointer fv2] ++ List.replicate (Try.f86.ntmps - List.length ([.slice t0.p t0.n t0.c, .agg #[.int .i64 p1_0, .int .i64 p1_1], .pointer fv2] : List Value)) none) = B_runs_Size_1 t0 p1_0 p1_1 fv2 := by kernel_rfl
theorem S_runs_Size_1 (t0 : Sl) (p1_0 : Int) (p1_1 : Int) (fv2 : Option Addr) {h : Hp} {Q : Value → Hp → Prop} (hb : B_runs_Size_1 t0 p1_0 p1_1 fv2 h Q) : N_runs_Size_1 t0 p1_0 p1_1 fv2 h Q :=
  Nf.of_ev Try.call86 Try.func86 (c := bodyOf Try.f86) rfl mixed C_runs_Size_1 D_runs_Size_1 400 (args := [.slice t0.p t0.n t0.c, .agg #[.int .i64 p1_0, .int .i64 p1_1], .pointer fv2]) (by rw [E_runs_Size_1]; exact hb)
def C_signalboxref53_alike : List (Nat × List Nat) := [(2, [0, 3])]
def D_signalboxref53_alike : List (Nat × List Nat) := []
def T_signalboxref53_alike_2 (b0 : Sl) (n3 : Int) : Env := mkEnv [(0, .slice b0.p b0.n b0.c), (3, .int .i64 n3)] 25 0
def K_signalboxref53_alike_2 (b0 : Sl) (n3 : Int) : M Value := Cut Try.prog 87 (todoOf Try.f87 2) (T_signalboxref53_alike_2 b0 n3)
def B_signalboxref53_alike (b0 : Sl) : M Value :=
  K_signalboxref53_alike_2 b0 (0 : Int)
def B_signalboxref53_alike_2 (b0 : Sl) (n3 : Int) : M Value :=
  mBind (mIf ((decide (n3 < (b0.n : Int))) && (decide (n3 < (130 : Int)))) (mIdx b0 n3 1 fun (x15 : Addr) =>
    mLdI .u8 x15 fun (x16 : Int) =>
    mIdx b0 (0 : Int) 1 fun (x18 : Addr) =>
    mLdI .u8 x18 fun (x19 : Int) =>
    mRet (x16 == x19)) (mRet false)) fun (b5 : Bool) =>
  mIf b5 (
    K_signalboxref53_alike_2 b0 (IntKind.i64.wrap (n3 + (1 : Int)))) (
    mRet (.int .i64 n3))
theorem E_signalboxref53_alike (b0 : Sl) : ev Try.prog 87 Try.f87.results.toList C_signalboxref53_alike D_signalboxref53_alike 400 false [.code (bodyOf Try.f87)] (List.map some [.slice b0.p b0.n b0.c] ++ List.replicate (Try.f87.ntmps - List.length ([.slice b0.p b0.n b0.c] : List Value)) none) = B_signalboxref53_alike b0 := by kernel_rfl
theorem S_signalboxref53_alike (b0 : Sl) {h : Hp} {Q : Value → Hp → Prop} (hb : B_signalboxref53_alike b0 h Q) : N_signalboxref53_alike b0 h Q :=
  Nf.of_ev Try.call87 Try.func87 (c := bodyOf Try.f87) rfl mixed C_signalboxref53_alike D_signalboxref53_alike 400 (args := [.slice b0.p b0.n b0.c]) (by rw [E_signalboxref53_alike]; exact hb)
theorem E_signalboxref53_alike_2 (b0 : Sl) (n3 : Int) : ev Try.prog 87 Try.f87.results.toList C_signalboxref53_alike D_signalboxref53_alike 400 true (todoOf Try.f87 2) (T_signalboxref53_alike_2 b0 n3) = B_signalboxref53_alike_2 b0 n3 := by kernel_rfl
theorem S_signalboxref53_alike_2 (b0 : Sl) (n3 : Int) {h : Hp} {Q : Value → Hp → Prop} (hb : B_signalboxref53_alike_2 b0 n3 h Q) : K_signalboxref53_alike_2 b0 n3 h Q :=
  Cut.of_ev Try.func87 mixed C_signalboxref53_alike D_signalboxref53_alike 400 (by rw [E_signalboxref53_alike_2]; exact hb)
def C_runs_next : List (Nat × List Nat) := []
def D_runs_next : List (Nat × List Nat) := [(5, [])]
def B_runs_next (b0 : Sl) : M Value :=
  mNew #[.int .i64 (0 : Int), .int .i64 (0 : Int)] 131 fun (x2 : Addr) =>
  mIdx b0 (0 : Int) 1 fun (x7 : Addr) =>
  mLdI .u8 x7 fun (x8 : Int) =>
  mNew #[.int .i64 (0 : Int), .int .i64 (0 : Int)] 131 fun (x5 : Addr) =>
  mSt x5 (.int .i64 (IntKind.i64.wrap ((IntKind.i64.wrap x8) + (2 : Int)))) <|
  mSt (x5.add 1) (.int .i64 (IntKind.i64.wrap ((IntKind.i64.wrap x8) + (1 : Int)))) <|
  mIf (decide ((IntKind.i64.wrap x8) ≥ (128 : Int))) (
    mSt x5 (.int .i64 (2 : Int)) <|
    mSt (x5.add 1) (.int .i64 (IntKind.i64.wrap ((IntKind.i64.wrap ((IntKind.i64.wrap x8) - (128 : Int))) + (3 : Int)))) <|
    mAnd (
      mLdI .i64 x5 fun (x21_12_0 : Int) =>
      mLdI .i64 (x5.add 1) fun (x21_12_1 : Int) =>
      mAnd (
        mLdI .i64 x5 fun (x25_16 : Int) =>
        mSt x2 (.int .i64 x21_12_0) <|
        mSt (x2.add 1) (.int .i64 x21_12_1) <|
        mLdI .i64 x2 fun (q18_0 : Int) =>
        mLdI .i64 (x2.add 1) fun (q18_1 : Int) =>
        mRet (.tuple #[.agg #[.int .i64 q18_0, .int .i64 q18_1], .bool (decide ((b0.n : Int) ≥ x25_16))])) (
        mSt x2 (.int .i64 x21_12_0) <|
        mSt (x2.add 1) (.int .i64 x21_12_1) <|
        mLdI .i64 x5 fun (x25_14 : Int) =>
        mLdI .i64 x2 fun (q15_0 : Int) =>
        mLdI .i64 (x2.add 1) fun (q15_1 : Int) =>
        mRet (.tuple #[.agg #[.int .i64 q15_0, .int .i64 q15_1], .bool (decide ((b0.n : Int) ≥ x25_14))]))) (
      mLdI .i64 x5 fun (x25 : Int) =>
      mLdI .i64 x5 fun (x21_0 : Int) =>
      mLdI .i64 (x5.add 1) fun (x21_1 : Int) =>
      mSt x2 (.int .i64 x21_0) <|
      mSt (x2.add 1) (.int .i64 x21_1) <|
      mLdI .i64 x2 fun (q11_0 : Int) =>
      mLdI .i64 (x2.add 1) fun (q11_1 : Int) =>
      mRet (.tuple #[.agg #[.int .i64 q11_0, .int .i64 q11_1], .bool (decide ((b0.n : Int) ≥ x25))]))) (
    mAnd (
      mLdI .i64 x5 fun (x21_24_0 : Int) =>
      mLdI .i64 (x5.add 1) fun (x21_24_1 : Int) =>
      mAnd (
        mLdI .i64 x5 fun (x25_28 : Int) =>
        mSt x2 (.int .i64 x21_24_0) <|
        mSt (x2.add 1) (.int .i64 x21_24_1) <|
        mLdI .i64 x2 fun (q30_0 : Int) =>
        mLdI .i64 (x2.add 1) fun (q30_1 : Int) =>
        mRet (.tuple #[.agg #[.int .i64 q30_0, .int .i64 q30_1], .bool (decide ((b0.n : Int) ≥ x25_28))])) (
        mSt x2 (.int .i64 x21_24_0) <|
        mSt (x2.add 1) (.int .i64 x21_24_1) <|
        mLdI .i64 x5 fun (x25_26 : Int) =>
        mLdI .i64 x2 fun (q27_0 : Int) =>
        mLdI .i64 (x2.add 1) fun (q27_1 : Int) =>
        mRet (.tuple #[.agg #[.int .i64 q27_0, .int .i64 q27_1], .bool (decide ((b0.n : Int) ≥ x25_26))]))) (
      mLdI .i64 x5 fun (x25_20 : Int) =>
      mLdI .i64 x5 fun (x21_21_0 : Int) =>
      mLdI .i64 (x5.add 1) fun (x21_21_1 : Int) =>
      mSt x2 (.int .i64 x21_21_0) <|
      mSt (x2.add 1) (.int .i64 x21_21_1) <|
      mLdI .i64 x2 fun (q23_0 : Int) =>
      mLdI .i64 (x2.add 1) fun (q23_1 : Int) =>
      mRet (.tuple #[.agg #[.int .i64 q23_0, .int .i64 q23_1], .bool (decide ((b0.n : Int) ≥ x25_20))])))
theorem E_runs_next (b0 : Sl) : ev Try.prog 93 Try.f93.results.toList C_runs_next D_runs_next 400 false [.code (bodyOf Try.f93)] (List.map some [.slice b0.p b0.n b0.c] ++ List.replicate (Try.f93.ntmps - List.length ([.slice b0.p b0.n b0.c] : List Value)) none) = B_runs_next b0 := by kernel_rfl
theorem S_runs_next (b0 : Sl) {h : Hp} {Q : Value → Hp → Prop} (hb : B_runs_next b0 h Q) : N_runs_next b0 h Q :=
  Nf.of_ev Try.call93 Try.func93 (c := bodyOf Try.f93) rfl mixed C_runs_next D_runs_next 400 (args := [.slice b0.p b0.n b0.c]) (by rw [E_runs_next]; exact hb)
def C_math_bits_Mul : List (Nat × List Nat) := []
def D_math_bits_Mul : List (Nat × List Nat) := []
def B_math_bits_Mul (x0 : Int) (y1 : Int) : M Value :=
  mBind (N_math_bits_Mul64 x0 y1) fun r25 =>
  un2 (unI .u64) (unI .u64) r25 fun (x25_0 : Int) (x25_1 : Int) =>
  mRet (.tuple #[.int .u64 x25_0, .int .u64 x25_1])
theorem E_math_bits_Mul (x0 : Int) (y1 : Int) : ev Try.prog 94 Try.f94.results.toList C_math_bits_Mul D_math_bits_Mul 400 false [.code (bodyOf Try.f94)] (List.map some [.int .u64 x0, .int .u64 y1] ++ List.replicate (Try.f94.ntmps - List.length ([.int .u64 x0, .int .u64 y1] : List Value)) none) = B_math_bits_Mul x0 y1 := by kernel_rfl
theorem S_math_bits_Mul (x0 : Int) (y1 : Int) {h : Hp} {Q : Value → Hp → Prop} (hb : B_math_bits_Mul x0 y1 h Q) : N_math_bits_Mul x0 y1 h Q :=
  Nf.of_ev Try.call94 Try.func94 (c := bodyOf Try.f94) rfl mixed C_math_bits_Mul D_math_bits_Mul 400 (args := [.int .u64 x0, .int .u64 y1]) (by rw [E_math_bits_Mul]; exact hb)

def C_math_bits_Mul32 : List (Nat × List Nat) := []
def D_math_bits_Mul32 : List (Nat × List Nat) := []
def B_math_bits_Mul32 (x0 : Int) (y1 : Int) : M Value :=
  mGuard (0 ≤ (32 : Int)) <|
  mRet (.tuple #[.int .u32 (IntKind.u32.wrap (ishr .u64 (IntKind.u64.wrap ((IntKind.u64.wrap x0) * (IntKind.u64.wrap y1))) (32 : Int))), .int .u32 (IntKind.u32.wrap (IntKind.u64.wrap ((IntKind.u64.wrap x0) * (IntKind.u64.wrap y1))))])
theorem E_math_bits_Mul32 (x0 : Int) (y1 : Int) : ev Try.prog 98 Try.f98.results.toList C_math_bits_Mul32 D_math_bits_Mul32 400 false [.code (bodyOf Try.f98)] (List.map some [.int .u32 x0, .int .u32 y1] ++ List.replicate (Try.f98.ntmps - List.length ([.int .u32 x0, .int .u32 y1] : List Value)) none) = B_math_bits_Mul32 x0 y1 := by kernel_rfl
theorem S_math_bits_Mul32 (x0 : Int) (y1 : Int) {h : Hp} {Q : Value → Hp → Prop} (hb : B_math_bits_Mul32 x0 y1 h Q) : N_math_bits_Mul32 x0 y1 h Q :=
  Nf.of_ev Try.call98 Try.func98 (c := bodyOf Try.f98) rfl mixed C_math_bits_Mul32 D_math_bits_Mul32 400 (args := [.int .u32 x0, .int .u32 y1]) (by rw [E_math_bits_Mul32]; exact hb)
def C_math_bits_Mul64 : List (Nat × List Nat) := []
def D_math_bits_Mul64 : List (Nat × List Nat) := []
def B_math_bits_Mul64 (x0 : Int) (y1 : Int) : M Value :=
  mGuard (0 ≤ (32 : Int)) <|
  mGuard (0 ≤ (32 : Int)) <|
  mGuard (0 ≤ (32 : Int)) <|
  mGuard (0 ≤ (32 : Int)) <|
  mGuard (0 ≤ (32 : Int)) <|
  mRet (.tuple #[.int .u64 (IntKind.u64.wrap ((IntKind.u64.wrap ((IntKind.u64.wrap ((ishr .u64 x0 (32 : Int)) * (ishr .u64 y1 (32 : Int)))) + (ishr .u64 (IntKind.u64.wrap ((IntKind.u64.wrap ((ishr .u64 x0 (32 : Int)) * (iand .u64 y1 (4294967295 : Int)))) + (ishr .u64 (IntKind.u64.wrap ((iand .u64 x0 (4294967295 : Int)) * (iand .u64 y1 (4294967295 : Int)))) (32 : Int)))) (32 : Int)))) + (ishr .u64 (IntKind.u64.wrap ((iand .u64 (IntKind.u64.wrap ((IntKind.u64.wrap ((ishr .u64 x0 (32 : Int)) * (iand .u64 y1 (4294967295 : Int)))) + (ishr .u64 (IntKind.u64.wrap ((iand .u64 x0 (4294967295 : Int)) * (iand .u64 y1 (4294967295 : Int)))) (32 : Int)))) (4294967295 : Int)) + (IntKind.u64.wrap ((iand .u64 x0 (4294967295 : Int)) * (ishr .u64 y1 (32 : Int)))))) (32 : Int)))), .int .u64 (IntKind.u64.wrap (x0 * y1))])
theorem E_math_bits_Mul64 (x0 : Int) (y1 : Int) : ev Try.prog 99 Try.f99.results.toList C_math_bits_Mul64 D_math_bits_Mul64 400 false [.code (bodyOf Try.f99)] (List.map some [.int .u64 x0, .int .u64 y1] ++ List.replicate (Try.f99.ntmps - List.length ([.int .u64 x0, .int .u64 y1] : List Value)) none) = B_math_bits_Mul64 x0 y1 := by kernel_rfl
theorem S_math_bits_Mul64 (x0 : Int) (y1 : Int) {h : Hp} {Q : Value → Hp → Prop} (hb : B_math_bits_Mul64 x0 y1 h Q) : N_math_bits_Mul64 x0 y1 h Q :=
  Nf.of_ev Try.call99 Try.func99 (c := bodyOf Try.f99) rfl mixed C_math_bits_Mul64 D_math_bits_Mul64 400 (args := [.int .u64 x0, .int .u64 y1]) (by rw [E_math_bits_Mul64]; exact hb)
def C_signalboxlaw53_RunsWrite : List (Nat × List Nat) := [(7, [0, 1, 5, 20, 21, 22]), (10, [0, 1, 5, 7, 20, 21, 22, 29, 30]), (15, [40, 41, 42])]
def D_signalboxlaw53_RunsWrite : List (Nat × List Nat) := [(20, [])]
def T_signalboxlaw53_RunsWrite_7 (b0 : Sl) (times1 : Int) (row5 : Sl) (t20 : Sl) (t21 : Int) (t22 : Int) : Env := mkEnv [(0, .slice b0.p b0.n b0.c), (1, .int .u8 times1), (5, .slice row5.p row5.n row5.c), (20, .slice t20.p t20.n t20.c), (21, .int .i64 t21), (22, .int .i64 t22)] 94 0
def K_signalboxlaw53_RunsWrite_7 (b0 : Sl) (times1 : Int) (row5 : Sl) (t20 : Sl) (t21 : Int) (t22 : Int) : M Value := Cut Try.prog 9 (todoOf Try.f9 7) (T_signalboxlaw53_RunsWrite_7 b0 times1 row5 t20 t21 t22)
def T_signalboxlaw53_RunsWrite_10 (b0 : Sl) (times1 : Int) (row5 : Sl) (c7 : Int) (t20 : Sl) (t21 : Int) (t22 : Int) (t29 : Int) (t30 : Int) : Env := mkEnv [(0, .slice b0.p b0.n b0.c), (1, .int .u8 times1), (5, .slice row5.p row5.n row5.c), (7, .int .u8 c7), (20, .slice t20.p t20.n t20.c), (21, .int .i64 t21), (22, .int .i64 t22), (29, .int .i64 t29), (30, .int .i64 t30)] 94 0
def K_signalboxlaw53_RunsWrite_10 (b0 : Sl) (times1 : Int) (row5 : Sl) (c7 : Int) (t20 : Sl) (t21 : Int) (t22 : Int) (t29 : Int) (t30 : Int) : M Value := Cut Try.prog 9 (todoOf Try.f9 10) (T_signalboxlaw53_RunsWrite_10 b0 times1 row5 c7 t20 t21 t22 t29 t30)
def T_signalboxlaw53_RunsWrite_15 (t40 : Sl) (t41 : Int) (t42 : Int) : Env := mkEnv [(40, .slice t40.p t40.n t40.c), (41, .int .i64 t41), (42, .int .i64 t42)] 94 0
def K_signalboxlaw53_RunsWrite_15 (t40 : Sl) (t41 : Int) (t42 : Int) : M Value := Cut Try.prog 9 (todoOf Try.f9 15) (T_signalboxlaw53_RunsWrite_15 t40 t41 t42)
def B_signalboxlaw53_RunsWrite (b0 : Sl) (times1 : Int) : M Value :=
  mBind (N_signalboxlaw53_fixed) fun r15 =>
  unB r15 fun (x15 : Bool) =>
  mIf (!x15) (
    mRet (.bool false)) (
    mIf (decide ((b0.n : Int) > (300 : Int))) (
      mRet (.bool true)) (
      K_signalboxlaw53_RunsWrite_7 b0 times1 (Sl.mk none 0 0) b0 (b0.n : Int) (0 : Int)))
def B_signalboxlaw53_RunsWrite_7 (b0 : Sl) (times1 : Int) (row5 : Sl) (t20 : Sl) (t21 : Int) (t22 : Int) : M Value :=
  mIf (decide (t22 < t21)) (
    mIdx t20 t22 1 fun (x24 : Addr) =>
    mLdI .u8 x24 fun (x25 : Int) =>
    mGuard ((20 : Int) ≠ 0) <|
    K_signalboxlaw53_RunsWrite_10 b0 times1 row5 x25 t20 t21 t22 (IntKind.i64.wrap ((1 : Int) + (IntKind.i64.wrap (Int.tmod times1 (20 : Int))))) (0 : Int)) (
    mNew #[.slice b0.p b0.n b0.c, .slice row5.p row5.n row5.c] 60 fun (x40 : Addr) =>
    K_signalboxlaw53_RunsWrite_15 (Sl.mk (some x40) 2 2) (2 : Int) (0 : Int))
def B_signalboxlaw53_RunsWrite_10 (b0 : Sl) (times1 : Int) (row5 : Sl) (c7 : Int) (t20 : Sl) (t21 : Int) (t22 : Int) (t29 : Int) (t30 : Int) : M Value :=
  mIf (decide (t30 < t29)) (
    mNew #[.int .u8 c7] 5 fun (x34 : Addr) =>
    mApp 5 1 1 #[.int .u8 (0 : Int)] row5 ⟨(some x34), 1, 1⟩ fun (x35 : Sl) =>
    K_signalboxlaw53_RunsWrite_10 b0 times1 x35 c7 t20 t21 t22 t29 (IntKind.i64.wrap (t30 + (1 : Int)))) (
    K_signalboxlaw53_RunsWrite_7 b0 times1 row5 t20 t21 (IntKind.i64.wrap (t22 + (1 : Int))))
def B_signalboxlaw53_RunsWrite_15 (t40 : Sl) (t41 : Int) (t42 : Int) : M Value :=
  mIf (decide (t42 < t41)) (
    mIdx t40 t42 1 fun (x44 : Addr) =>
    mLdL x44 fun (x45 : Sl) =>
    mBind (N_runs_Write x45) fun r47 =>
    unL r47 fun (x47 : Sl) =>
    mBind (N_runs_Read x47) fun r50 =>
    un2 unL (unI .i64) r50 fun (x50_0 : Sl) (x50_1 : Int) =>
    mBind (N_runs_Size x47) fun r55 =>
    un2 (unI .i64) (unI .i64) r55 fun (x55_0 : Int) (x55_1 : Int) =>
    mAnd (
      mStr x47 fun (x59_128 : ByteArray) =>
      mBind (N_signalboxref53_Write x45) fun r61_129 =>
      unL r61_129 fun (x61_129 : Sl) =>
      mStr x61_129 fun (x62_130 : ByteArray) =>
      mIf (!((x59_128).toList == (x62_130).toList)) (
        mAnd (
          mAnd (
            mRet (.bool false)) (
            mAnd (
              mRet (.bool false)) (
              mRet (.bool false)))) (
          mAnd (
            mRet (.bool false)) (
            mAnd (
              mRet (.bool false)) (
              mRet (.bool false))))) (
        mIf (match false with | true => true | false => (x50_1 != (0 : Int))) (
          mAnd (
            mAnd (
              mRet (.bool false)) (
              mAnd (
                mRet (.bool false)) (
                mRet (.bool false)))) (
            mAnd (
              mRet (.bool false)) (
              mAnd (
                mRet (.bool false)) (
                mRet (.bool false))))) (
          mAnd (
            mStr x50_0 fun (x70_171 : ByteArray) =>
            mStr x45 fun (x72_172 : ByteArray) =>
            mIf (match false with | true => true | false => (!((x70_171).toList == (x72_172).toList))) (
              mAnd (
                mRet (.bool false)) (
                mAnd (
                  mRet (.bool false)) (
                  mRet (.bool false)))) (
              mIf (match false with | true => true | false => (x55_1 != (0 : Int))) (
                mAnd (
                  mRet (.bool false)) (
                  mAnd (
                    mRet (.bool false)) (
                    mRet (.bool false)))) (
                mIf (match false with | true => true | false => (x55_0 != (x45.n : Int))) (
                  mAnd (
                    mRet (.bool false)) (
                    mAnd (
                      mRet (.bool false)) (
                      mRet (.bool false)))) (
                  mBind (N_runs_Worst (x45.n : Int)) fun r90_185 =>
                  unI .i64 r90_185 fun (x90_185 : Int) =>
                  mIf (match false with | true => true | false => (decide ((x47.n : Int) > x90_185))) (
                    mRet (.bool false)) (
                    K_signalboxlaw53_RunsWrite_15 t40 t41 (IntKind.i64.wrap (t42 + (1 : Int)))))))) (
            mStr x45 fun (x72_156 : ByteArray) =>
            mStr x50_0 fun (x70_157 : ByteArray) =>
            mIf (match false with | true => true | false => (!((x70_157).toList == (x72_156).toList))) (
              mAnd (
                mRet (.bool false)) (
                mAnd (
                  mRet (.bool false)) (
                  mRet (.bool false)))) (
              mIf (match false with | true => true | false => (x55_1 != (0 : Int))) (
                mAnd (
                  mRet (.bool false)) (
                  mAnd (
                    mRet (.bool false)) (
                    mRet (.bool false)))) (
                mIf (match false with | true => true | false => (x55_0 != (x45.n : Int))) (
                  mAnd (
                    mRet (.bool false)) (
                    mAnd (
                      mRet (.bool false)) (
                      mRet (.bool false)))) (
                  mBind (N_runs_Worst (x45.n : Int)) fun r90_170 =>
                  unI .i64 r90_170 fun (x90_170 : Int) =>
                  mIf (match false with | true => true | false => (decide ((x47.n : Int) > x90_170))) (
                    mRet (.bool false)) (
                    K_signalboxlaw53_RunsWrite_15 t40 t41 (IntKind.i64.wrap (t42 + (1 : Int))))))))))) (
      mBind (N_signalboxref53_Write x45) fun r61 =>
      unL r61 fun (x61 : Sl) =>
      mAnd (
        mStr x47 fun (x59_71 : ByteArray) =>
        mStr x61 fun (x62_72 : ByteArray) =>
        mIf (!((x59_71).toList == (x62_72).toList)) (
          mAnd (
            mAnd (
              mRet (.bool false)) (
              mAnd (
                mRet (.bool false)) (
                mRet (.bool false)))) (
            mAnd (
              mRet (.bool false)) (
              mAnd (
                mRet (.bool false)) (
                mRet (.bool false))))) (
          mIf (match false with | true => true | false => (x50_1 != (0 : Int))) (
            mAnd (
              mAnd (
                mRet (.bool false)) (
                mAnd (
                  mRet (.bool false)) (
                  mRet (.bool false)))) (
              mAnd (
                mRet (.bool false)) (
                mAnd (
                  mRet (.bool false)) (
                  mRet (.bool false))))) (
            mAnd (
              mStr x50_0 fun (x70_113 : ByteArray) =>
              mStr x45 fun (x72_114 : ByteArray) =>
              mIf (match false with | true => true | false => (!((x70_113).toList == (x72_114).toList))) (
                mAnd (
                  mRet (.bool false)) (
                  mAnd (
                    mRet (.bool false)) (
                    mRet (.bool false)))) (
                mIf (match false with | true => true | false => (x55_1 != (0 : Int))) (
                  mAnd (
                    mRet (.bool false)) (
                    mAnd (
                      mRet (.bool false)) (
                      mRet (.bool false)))) (
                  mIf (match false with | true => true | false => (x55_0 != (x45.n : Int))) (
                    mAnd (
                      mRet (.bool false)) (
                      mAnd (
                        mRet (.bool false)) (
                        mRet (.bool false)))) (
                    mBind (N_runs_Worst (x45.n : Int)) fun r90_127 =>
                    unI .i64 r90_127 fun (x90_127 : Int) =>
                    mIf (match false with | true => true | false => (decide ((x47.n : Int) > x90_127))) (
                      mRet (.bool false)) (
                      K_signalboxlaw53_RunsWrite_15 t40 t41 (IntKind.i64.wrap (t42 + (1 : Int)))))))) (
              mStr x45 fun (x72_98 : ByteArray) =>
              mStr x50_0 fun (x70_99 : ByteArray) =>
              mIf (match false with | true => true | false => (!((x70_99).toList == (x72_98).toList))) (
                mAnd (
                  mRet (.bool false)) (
                  mAnd (
                    mRet (.bool false)) (
                    mRet (.bool false)))) (
                mIf (match false with | true => true | false => (x55_1 != (0 : Int))) (
                  mAnd (
                    mRet (.bool false)) (
                    mAnd (
                      mRet (.bool false)) (
                      mRet (.bool false)))) (
                  mIf (match false with | true => true | false => (x55_0 != (x45.n : Int))) (
                    mAnd (
                      mRet (.bool false)) (
                      mAnd (
                        mRet (.bool false)) (
                        mRet (.bool false)))) (
                    mBind (N_runs_Worst (x45.n : Int)) fun r90_112 =>
                    unI .i64 r90_112 fun (x90_112 : Int) =>
                    mIf (match false with | true => true | false => (decide ((x47.n : Int) > x90_112))) (
                      mRet (.bool false)) (
                      K_signalboxlaw53_RunsWrite_15 t40 t41 (IntKind.i64.wrap (t42 + (1 : Int))))))))))) (
        mStr x61 fun (x62 : ByteArray) =>
        mStr x47 fun (x59 : ByteArray) =>
        mIf (!((x59).toList == (x62).toList)) (
          mAnd (
            mAnd (
              mRet (.bool false)) (
              mAnd (
                mRet (.bool false)) (
                mRet (.bool false)))) (
            mAnd (
              mRet (.bool false)) (
              mAnd (
                mRet (.bool false)) (
                mRet (.bool false))))) (
          mIf (match false with | true => true | false => (x50_1 != (0 : Int))) (
            mAnd (
              mAnd (
                mRet (.bool false)) (
                mAnd (
                  mRet (.bool false)) (
                  mRet (.bool false)))) (
              mAnd (
                mRet (.bool false)) (
                mAnd (
                  mRet (.bool false)) (
                  mRet (.bool false))))) (
            mAnd (
              mStr x50_0 fun (x70_56 : ByteArray) =>
              mStr x45 fun (x72_57 : ByteArray) =>
              mIf (match false with | true => true | false => (!((x70_56).toList == (x72_57).toList))) (
                mAnd (
                  mRet (.bool false)) (
                  mAnd (
                    mRet (.bool false)) (
                    mRet (.bool false)))) (
                mIf (match false with | true => true | false => (x55_1 != (0 : Int))) (
                  mAnd (
                    mRet (.bool false)) (
                    mAnd (
                      mRet (.bool false)) (
                      mRet (.bool false)))) (
                  mIf (match false with | true => true | false => (x55_0 != (x45.n : Int))) (
                    mAnd (
                      mRet (.bool false)) (
                      mAnd (
                        mRet (.bool false)) (
                        mRet (.bool false)))) (
                    mBind (N_runs_Worst (x45.n : Int)) fun r90_70 =>
                    unI .i64 r90_70 fun (x90_70 : Int) =>
                    mIf (match false with | true => true | false => (decide ((x47.n : Int) > x90_70))) (
                      mRet (.bool false)) (
                      K_signalboxlaw53_RunsWrite_15 t40 t41 (IntKind.i64.wrap (t42 + (1 : Int)))))))) (
              mStr x45 fun (x72 : ByteArray) =>
              mStr x50_0 fun (x70 : ByteArray) =>
              mIf (match false with | true => true | false => (!((x70).toList == (x72).toList))) (
                mAnd (
                  mRet (.bool false)) (
                  mAnd (
                    mRet (.bool false)) (
                    mRet (.bool false)))) (
                mIf (match false with | true => true | false => (x55_1 != (0 : Int))) (
                  mAnd (
                    mRet (.bool false)) (
                    mAnd (
                      mRet (.bool false)) (
                      mRet (.bool false)))) (
                  mIf (match false with | true => true | false => (x55_0 != (x45.n : Int))) (
                    mAnd (
                      mRet (.bool false)) (
                      mAnd (
                        mRet (.bool false)) (
                        mRet (.bool false)))) (
                    mBind (N_runs_Worst (x45.n : Int)) fun r90 =>
                    unI .i64 r90 fun (x90 : Int) =>
                    mIf (match false with | true => true | false => (decide ((x47.n : Int) > x90))) (
                      mRet (.bool false)) (
                      K_signalboxlaw53_RunsWrite_15 t40 t41 (IntKind.i64.wrap (t42 + (1 : Int))))))))))))) (
    mRet (.bool true))
theorem E_signalboxlaw53_RunsWrite (b0 : Sl) (times1 : Int) : ev Try.prog 9 Try.f9.results.toList C_signalboxlaw53_RunsWrite D_signalboxlaw53_RunsWrite 400 false [.code (bodyOf Try.f9)] (List.map some [.slice b0.p b0.n b0.c, .int .u8 times1] ++ List.replicate (Try.f9.ntmps - List.length ([.slice b0.p b0.n b0.c, .int .u8 times1] : List Value)) none) = B_signalboxlaw53_RunsWrite b0 times1 := by kernel_rfl
theorem S_signalboxlaw53_RunsWrite (b0 : Sl) (times1 : Int) {h : Hp} {Q : Value → Hp → Prop} (hb : B_signalboxlaw53_RunsWrite b0 times1 h Q) : N_signalboxlaw53_RunsWrite b0 times1 h Q :=
  Nf.of_ev Try.call9 Try.func9 (c := bodyOf Try.f9) rfl mixed C_signalboxlaw53_RunsWrite D_signalboxlaw53_RunsWrite 400 (args := [.slice b0.p b0.n b0.c, .int .u8 times1]) (by rw [E_signalboxlaw53_RunsWrite]; exact hb)
theorem E_signalboxlaw53_RunsWrite_7 (b0 : Sl) (times1 : Int) (row5 : Sl) (t20 : Sl) (t21 : Int) (t22 : Int) : ev Try.prog 9 Try.f9.results.toList C_signalboxlaw53_RunsWrite D_signalboxlaw53_RunsWrite 400 true (todoOf Try.f9 7) (T_signalboxlaw53_RunsWrite_7 b0 times1 row5 t20 t21 t22) = B_signalboxlaw53_RunsWrite_7 b0 times1 row5 t20 t21 t22 := by kernel_rfl
theorem S_signalboxlaw53_RunsWrite_7 (b0 : Sl) (times1 : Int) (row5 : Sl) (t20 : Sl) (t21 : Int) (t22 : Int) {h : Hp} {Q : Value → Hp → Prop} (hb : B_signalboxlaw53_RunsWrite_7 b0 times1 row5 t20 t21 t22 h Q) : K_signalboxlaw53_RunsWrite_7 b0 times1 row5 t20 t21 t22 h Q :=
  Cut.of_ev Try.func9 mixed C_signalboxlaw53_RunsWrite D_signalboxlaw53_RunsWrite 400 (by rw [E_signalboxlaw53_RunsWrite_7]; exact hb)
theorem E_signalboxlaw53_RunsWrite_10 (b0 : Sl) (times1 : Int) (row5 : Sl) (c7 : Int) (t20 : Sl) (t21 : Int) (t22 : Int) (t29 : Int) (t30 : Int) : ev Try.prog 9 Try.f9.results.toList C_signalboxlaw53_RunsWrite D_signalboxlaw53_RunsWrite 400 true (todoOf Try.f9 10) (T_signalboxlaw53_RunsWrite_10 b0 times1 row5 c7 t20 t21 t22 t29 t30) = B_signalboxlaw53_RunsWrite_10 b0 times1 row5 c7 t20 t21 t22 t29 t30 := by kernel_rfl
theorem S_signalboxlaw53_RunsWrite_10 (b0 : Sl) (times1 : Int) (row5 : Sl) (c7 : Int) (t20 : Sl) (t21 : Int) (t22 : Int) (t29 : Int) (t30 : Int) {h : Hp} {Q : Value → Hp → Prop} (hb : B_signalboxlaw53_RunsWrite_10 b0 times1 row5 c7 t20 t21 t22 t29 t30 h Q) : K_signalboxlaw53_RunsWrite_10 b0 times1 row5 c7 t20 t21 t22 t29 t30 h Q :=
  Cut.of_ev Try.func9 mixed C_signalboxlaw53_RunsWrite D_signalboxlaw53_RunsWrite 400 (by rw [E_signalboxlaw53_RunsWrite_10]; exact hb)
theorem E_signalboxlaw53_RunsWrite_15 (t40 : Sl) (t41 : Int) (t42 : Int) : ev Try.prog 9 Try.f9.results.toList C_signalboxlaw53_RunsWrite D_signalboxlaw53_RunsWrite 400 true (todoOf Try.f9 15) (T_signalboxlaw53_RunsWrite_15 t40 t41 t42) = B_signalboxlaw53_RunsWrite_15 t40 t41 t42 := by kernel_rfl
theorem S_signalboxlaw53_RunsWrite_15 (t40 : Sl) (t41 : Int) (t42 : Int) {h : Hp} {Q : Value → Hp → Prop} (hb : B_signalboxlaw53_RunsWrite_15 t40 t41 t42 h Q) : K_signalboxlaw53_RunsWrite_15 t40 t41 t42 h Q :=
  Cut.of_ev Try.func9 mixed C_signalboxlaw53_RunsWrite D_signalboxlaw53_RunsWrite 400 (by rw [E_signalboxlaw53_RunsWrite_15]; exact hb)
def C_signalboxlaw53_RunsLong : List (Nat × List Nat) := [(5, [0, 1, 5, 15, 16])]
def D_signalboxlaw53_RunsLong : List (Nat × List Nat) := []
def T_signalboxlaw53_RunsLong_5 (c0 : Int) (more1 : Int) (b5 : Sl) (t15 : Int) (t16 : Int) : Env := mkEnv [(0, .int .u8 c0), (1, .int .u8 more1), (5, .slice b5.p b5.n b5.c), (15, .int .i64 t15), (16, .int .i64 t16)] 76 0
def K_signalboxlaw53_RunsLong_5 (c0 : Int) (more1 : Int) (b5 : Sl) (t15 : Int) (t16 : Int) : M Value := Cut Try.prog 10 (todoOf Try.f10 5) (T_signalboxlaw53_RunsLong_5 c0 more1 b5 t15 t16)
def B_signalboxlaw53_RunsLong (c0 : Int) (more1 : Int) : M Value :=
  mBind (N_signalboxlaw53_fixed) fun r10 =>
  unB r10 fun (x10 : Bool) =>
  mIf (!x10) (
    mRet (.bool false)) (
    mGuard ((12 : Int) ≠ 0) <|
    K_signalboxlaw53_RunsLong_5 c0 more1 (Sl.mk none 0 0) (IntKind.i64.wrap ((8060 : Int) + (IntKind.i64.wrap (Int.tmod more1 (12 : Int))))) (0 : Int))
def B_signalboxlaw53_RunsLong_5 (c0 : Int) (more1 : Int) (b5 : Sl) (t15 : Int) (t16 : Int) : M Value :=
  mIf (decide (t16 < t15)) (
    mNew #[.int .u8 (255 : Int), .int .u8 c0] 5 fun (x20 : Addr) =>
    mApp 5 1 1 #[.int .u8 (0 : Int)] b5 ⟨(some x20), 2, 2⟩ fun (x21 : Sl) =>
    K_signalboxlaw53_RunsLong_5 c0 more1 x21 t15 (IntKind.i64.wrap (t16 + (1 : Int)))) (
    mBind (N_runs_Read b5) fun r25 =>
    un2 unL (unI .i64) r25 fun (x25_0 : Sl) (x25_1 : Int) =>
    mBind (N_runs_Size b5) fun r30 =>
    un2 (unI .i64) (unI .i64) r30 fun (x30_0 : Int) (x30_1 : Int) =>
    mGuard ((12 : Int) ≠ 0) <|
    mIf (decide ((IntKind.i64.wrap ((130 : Int) * (IntKind.i64.wrap ((8060 : Int) + (IntKind.i64.wrap (Int.tmod more1 (12 : Int))))))) > (1048576 : Int))) (
      mRet (.bool (((((x25_0.n : Int) == (0 : Int)) && (x25_1 == (3 : Int))) && (x30_0 == (0 : Int))) && (x30_1 == (3 : Int))))) (
      mGuard ((12 : Int) ≠ 0) <|
      mRet (.bool (((((x25_0.n : Int) == (IntKind.i64.wrap ((130 : Int) * (IntKind.i64.wrap ((8060 : Int) + (IntKind.i64.wrap (Int.tmod more1 (12 : Int)))))))) && (x25_1 == (0 : Int))) && (x30_0 == (x25_0.n : Int))) && (x30_1 == (0 : Int))))))
theorem E_signalboxlaw53_RunsLong (c0 : Int) (more1 : Int) : ev Try.prog 10 Try.f10.results.toList C_signalboxlaw53_RunsLong D_signalboxlaw53_RunsLong 400 false [.code (bodyOf Try.f10)] (List.map some [.int .u8 c0, .int .u8 more1] ++ List.replicate (Try.f10.ntmps - List.length ([.int .u8 c0, .int .u8 more1] : List Value)) none) = B_signalboxlaw53_RunsLong c0 more1 := by kernel_rfl
theorem S_signalboxlaw53_RunsLong (c0 : Int) (more1 : Int) {h : Hp} {Q : Value → Hp → Prop} (hb : B_signalboxlaw53_RunsLong c0 more1 h Q) : N_signalboxlaw53_RunsLong c0 more1 h Q :=
  Nf.of_ev Try.call10 Try.func10 (c := bodyOf Try.f10) rfl mixed C_signalboxlaw53_RunsLong D_signalboxlaw53_RunsLong 400 (args := [.int .u8 c0, .int .u8 more1]) (by rw [E_signalboxlaw53_RunsLong]; exact hb)
theorem E_signalboxlaw53_RunsLong_5 (c0 : Int) (more1 : Int) (b5 : Sl) (t15 : Int) (t16 : Int) : ev Try.prog 10 Try.f10.results.toList C_signalboxlaw53_RunsLong D_signalboxlaw53_RunsLong 400 true (todoOf Try.f10 5) (T_signalboxlaw53_RunsLong_5 c0 more1 b5 t15 t16) = B_signalboxlaw53_RunsLong_5 c0 more1 b5 t15 t16 := by kernel_rfl
theorem S_signalboxlaw53_RunsLong_5 (c0 : Int) (more1 : Int) (b5 : Sl) (t15 : Int) (t16 : Int) {h : Hp} {Q : Value → Hp → Prop} (hb : B_signalboxlaw53_RunsLong_5 c0 more1 b5 t15 t16 h Q) : K_signalboxlaw53_RunsLong_5 c0 more1 b5 t15 t16 h Q :=
  Cut.of_ev Try.func10 mixed C_signalboxlaw53_RunsLong D_signalboxlaw53_RunsLong 400 (by rw [E_signalboxlaw53_RunsLong_5]; exact hb)
def C_signalboxlaw53_RunsWorst : List (Nat × List Nat) := []
def D_signalboxlaw53_RunsWorst : List (Nat × List Nat) := []
def B_signalboxlaw53_RunsWorst (n0 : Int) : M Value :=
  mBind (N_signalboxlaw53_fixed) fun r5 =>
  unB r5 fun (x5 : Bool) =>
  mIf (!x5) (
    mRet (.bool false)) (
    mGuard ((128 : Int) ≠ 0) <|
    mGuard ((128 : Int) ≠ 0) <|
    mIf (decide ((Int.tmod (if (1099511627776 : Int) < (if (0 : Int) > n0 then (0 : Int) else n0) then (1099511627776 : Int) else (if (0 : Int) > n0 then (0 : Int) else n0)) (128 : Int)) > (0 : Int))) (
      mBind (N_runs_Worst n0) fun r18 =>
      unI .i64 r18 fun (x18 : Int) =>
      mRet (.bool (x18 == (IntKind.i64.wrap ((if (1099511627776 : Int) < (if (0 : Int) > n0 then (0 : Int) else n0) then (1099511627776 : Int) else (if (0 : Int) > n0 then (0 : Int) else n0)) + (IntKind.i64.wrap ((IntKind.i64.wrap (Int.tdiv (if (1099511627776 : Int) < (if (0 : Int) > n0 then (0 : Int) else n0) then (1099511627776 : Int) else (if (0 : Int) > n0 then (0 : Int) else n0)) (128 : Int))) + (1 : Int)))))))) (
      mBind (N_runs_Worst n0) fun r18_5 =>
      unI .i64 r18_5 fun (x18_5 : Int) =>
      mRet (.bool (x18_5 == (IntKind.i64.wrap ((if (1099511627776 : Int) < (if (0 : Int) > n0 then (0 : Int) else n0) then (1099511627776 : Int) else (if (0 : Int) > n0 then (0 : Int) else n0)) + (IntKind.i64.wrap (Int.tdiv (if (1099511627776 : Int) < (if (0 : Int) > n0 then (0 : Int) else n0) then (1099511627776 : Int) else (if (0 : Int) > n0 then (0 : Int) else n0)) (128 : Int)))))))))
theorem E_signalboxlaw53_RunsWorst (n0 : Int) : ev Try.prog 11 Try.f11.results.toList C_signalboxlaw53_RunsWorst D_signalboxlaw53_RunsWorst 400 false [.code (bodyOf Try.f11)] (List.map some [.int .i64 n0] ++ List.replicate (Try.f11.ntmps - List.length ([.int .i64 n0] : List Value)) none) = B_signalboxlaw53_RunsWorst n0 := by kernel_rfl
theorem S_signalboxlaw53_RunsWorst (n0 : Int) {h : Hp} {Q : Value → Hp → Prop} (hb : B_signalboxlaw53_RunsWorst n0 h Q) : N_signalboxlaw53_RunsWorst n0 h Q :=
  Nf.of_ev Try.call11 Try.func11 (c := bodyOf Try.f11) rfl mixed C_signalboxlaw53_RunsWorst D_signalboxlaw53_RunsWorst 400 (args := [.int .i64 n0]) (by rw [E_signalboxlaw53_RunsWorst]; exact hb)
end Go.Proofs.Ytinjifhjjkdmoaa
