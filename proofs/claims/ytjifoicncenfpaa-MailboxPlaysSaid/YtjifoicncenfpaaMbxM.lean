/- What the functions of this layer come to, as forms of the small logic; written by program. Conditions: none. -/
import Derived.Test.YtjifoicncenfpaaSbU
import Derived.Test.YtjifoicncenfpaaChecked
import Derived.KernelRfl
set_option maxRecDepth 100000
namespace Go.Proofs.Ytjifoicncenfpaa
open Go Go.Sb
theorem mixed : Try.prog.follows .mixedOrders = true := by kernel_rfl
def N_signalboxlaw10_fixed : M Value := Nf Try.prog 15 #[]
def N_mailbox_New (rooms0 : Sl) : M Value := Nf Try.prog 16 #[.slice rooms0.p rooms0.n rooms0.c]
def N_mailbox_Boxes_Send (b0 : Option Addr) (i1 : Int) (v2 : Int) : M Value := Nf Try.prog 17 #[.pointer b0, .int .i64 i1, .int .i64 v2]
def N_mailbox_Boxes_Recv (b0 : Option Addr) (i1 : Int) : M Value := Nf Try.prog 18 #[.pointer b0, .int .i64 i1]
def N_mailbox_Boxes_All (b0 : Option Addr) (i1 : Int) : M Value := Nf Try.prog 19 #[.pointer b0, .int .i64 i1]
def N_mailbox_Boxes_Len (b0 : Option Addr) : M Value := Nf Try.prog 20 #[.pointer b0]
def N_ring_New_int (room0 : Int) : M Value := Nf Try.prog 60 #[.int .i64 room0]
def N_mailbox_Boxes_at (b0 : Option Addr) (i1 : Int) : M Value := Nf Try.prog 61 #[.pointer b0, .int .i64 i1]
def N_ring_Ring_int_Put (r0 : Option Addr) (x1 : Int) : M Value := Nf Try.prog 62 #[.pointer r0, .int .i64 x1]
def N_ring_Ring_int_Take (r0 : Option Addr) : M Value := Nf Try.prog 63 #[.pointer r0]
def N_ring_Ring_int_All (r0 : Option Addr) : M Value := Nf Try.prog 64 #[.pointer r0]
def N_ring_Ring_int_at (r0 : Option Addr) (i1 : Int) : M Value := Nf Try.prog 83 #[.pointer r0, .int .i64 i1]
def N_ring_Ring_int_First (r0 : Option Addr) : M Value := Nf Try.prog 84 #[.pointer r0]
def N_ring_Ring_int_Len (r0 : Option Addr) : M Value := Nf Try.prog 85 #[.pointer r0]
def N_signalboxlaw10_MailboxOrder (room0 : Int) (l1 : Sl) : M Value := Nf Try.prog 3 #[.int .u8 room0, .slice l1.p l1.n l1.c]
def N_signalboxlaw10_MailboxPlays (rooms0 : Sl) (l1 : Sl) : M Value := Nf Try.prog 4 #[.slice rooms0.p rooms0.n rooms0.c, .slice l1.p l1.n l1.c]
def C_signalboxlaw10_fixed : List (Nat × List Nat) := []
def D_signalboxlaw10_fixed : List (Nat × List Nat) := []
def B_signalboxlaw10_fixed : M Value :=
  mNew #[.int .i64 (1 : Int), .int .i64 (99 : Int)] 3 fun (x9 : Addr) =>
  mBind (N_mailbox_New (Sl.mk (some x9) 2 2)) fun r10 =>
  unP r10 fun (x10 : Option Addr) =>
  mBind (N_mailbox_Boxes_Send x10 (0 : Int) (7 : Int)) fun r12 =>
  unI .i64 r12 fun (x12 : Int) =>
  mBind (N_mailbox_Boxes_Send x10 (0 : Int) (8 : Int)) fun r14 =>
  unI .i64 r14 fun (x14 : Int) =>
  mBind (N_mailbox_Boxes_Send x10 (2 : Int) (9 : Int)) fun r16 =>
  unI .i64 r16 fun (x16 : Int) =>
  mBind (N_mailbox_Boxes_Recv x10 (0 : Int)) fun r19 =>
  un2 (unI .i64) (unI .i64) r19 fun (x19_0 : Int) (x19_1 : Int) =>
  mBind (N_mailbox_Boxes_Recv x10 (1 : Int)) fun r24 =>
  un2 (unI .i64) (unI .i64) r24 fun (_x24_0 : Int) (x24_1 : Int) =>
  mBind (mIf ((((((x12 == (0 : Int)) && (x14 == (7 : Int))) && (x16 == (6 : Int))) && (x19_0 == (7 : Int))) && (x19_1 == (0 : Int))) && (x24_1 == (8 : Int))) (mBind (N_mailbox_Boxes_Len x10) fun r51 =>
    unI .i64 r51 fun (x51 : Int) =>
    mRet (x51 == (2 : Int))) (mRet false)) fun (b9 : Bool) =>
  mRet (.bool b9)
theorem E_signalboxlaw10_fixed : ev Try.prog 15 Try.f15.results.toList C_signalboxlaw10_fixed D_signalboxlaw10_fixed 400 false [.code (bodyOf Try.f15)] (List.map some [] ++ List.replicate (Try.f15.ntmps - List.length ([] : List Value)) none) = B_signalboxlaw10_fixed := by kernel_rfl
theorem S_signalboxlaw10_fixed {h : Hp} {Q : Value → Hp → Prop} (hb : B_signalboxlaw10_fixed h Q) : N_signalboxlaw10_fixed h Q :=
  Nf.of_ev Try.call15 Try.func15 (c := bodyOf Try.f15) rfl mixed C_signalboxlaw10_fixed D_signalboxlaw10_fixed 400 (args := []) (by rw [E_signalboxlaw10_fixed]; exact hb)
def C_mailbox_New : List (Nat × List Nat) := [(3, [3, 8, 9, 10]), (7, [3, 5, 8, 9, 10])]
def D_mailbox_New : List (Nat × List Nat) := [(7, [])]
def T_mailbox_New_3 (b3 : Addr) (t8 : Sl) (t9 : Int) (t10 : Int) : Env := mkEnv [(3, .pointer (some b3)), (8, .slice t8.p t8.n t8.c), (9, .int .i64 t9), (10, .int .i64 t10)] 33 0
def K_mailbox_New_3 (b3 : Addr) (t8 : Sl) (t9 : Int) (t10 : Int) : M Value := Cut Try.prog 16 (todoOf Try.f16 3) (T_mailbox_New_3 b3 t8 t9 t10)
def T_mailbox_New_7 (b3 : Addr) (n5 : Int) (t8 : Sl) (t9 : Int) (t10 : Int) : Env := mkEnv [(3, .pointer (some b3)), (5, .int .i64 n5), (8, .slice t8.p t8.n t8.c), (9, .int .i64 t9), (10, .int .i64 t10)] 33 0
def K_mailbox_New_7 (b3 : Addr) (n5 : Int) (t8 : Sl) (t9 : Int) (t10 : Int) : M Value := Cut Try.prog 16 (todoOf Try.f16 7) (T_mailbox_New_7 b3 n5 t8 t9 t10)
def B_mailbox_New (rooms0 : Sl) : M Value :=
  mNew #[.slice none (0) (0)] 101 fun (x7 : Addr) =>
  K_mailbox_New_3 x7 rooms0 (rooms0.n : Int) (0 : Int)
def B_mailbox_New_3 (b3 : Addr) (t8 : Sl) (t9 : Int) (t10 : Int) : M Value :=
  mIf (decide (t10 < t9)) (
    mIdx t8 t10 1 fun (x12 : Addr) =>
    mLdI .i64 x12 fun (x13 : Int) =>
    mIf ((decide (x13 < (1 : Int))) || (decide (x13 > (8 : Int)))) (
      K_mailbox_New_7 b3 (1 : Int) t8 t9 t10) (
      K_mailbox_New_7 b3 x13 t8 t9 t10)) (
    mRet (.pointer (some b3)))
def B_mailbox_New_7 (b3 : Addr) (n5 : Int) (t8 : Sl) (t9 : Int) (t10 : Int) : M Value :=
  mAnd (
    mLdL b3 fun (x24_19 : Sl) =>
    mBind (N_ring_New_int n5) fun r26_20 =>
    unP r26_20 fun (x26_20 : Option Addr) =>
    mNew #[.pointer x26_20] 102 fun (x27_21 : Addr) =>
    mApp 102 1 8 #[.pointer none] x24_19 ⟨(some x27_21), 1, 1⟩ fun (x28_22 : Sl) =>
    mSt b3 (.slice x28_22.p x28_22.n x28_22.c) <|
    K_mailbox_New_3 b3 t8 t9 (IntKind.i64.wrap (t10 + (1 : Int)))) (
    mBind (N_ring_New_int n5) fun r26 =>
    unP r26 fun (x26 : Option Addr) =>
    mAnd (
      mLdL b3 fun (x24_13 : Sl) =>
      mNew #[.pointer x26] 102 fun (x27_14 : Addr) =>
      mApp 102 1 8 #[.pointer none] x24_13 ⟨(some x27_14), 1, 1⟩ fun (x28_15 : Sl) =>
      mSt b3 (.slice x28_15.p x28_15.n x28_15.c) <|
      K_mailbox_New_3 b3 t8 t9 (IntKind.i64.wrap (t10 + (1 : Int)))) (
      mNew #[.pointer x26] 102 fun (x27 : Addr) =>
      mLdL b3 fun (x24 : Sl) =>
      mApp 102 1 8 #[.pointer none] x24 ⟨(some x27), 1, 1⟩ fun (x28 : Sl) =>
      mSt b3 (.slice x28.p x28.n x28.c) <|
      K_mailbox_New_3 b3 t8 t9 (IntKind.i64.wrap (t10 + (1 : Int)))))
theorem E_mailbox_New (rooms0 : Sl) : ev Try.prog 16 Try.f16.results.toList C_mailbox_New D_mailbox_New 400 false [.code (bodyOf Try.f16)] (List.map some [.slice rooms0.p rooms0.n rooms0.c] ++ List.replicate (Try.f16.ntmps - List.length ([.slice rooms0.p rooms0.n rooms0.c] : List Value)) none) = B_mailbox_New rooms0 := by kernel_rfl
theorem S_mailbox_New (rooms0 : Sl) {h : Hp} {Q : Value → Hp → Prop} (hb : B_mailbox_New rooms0 h Q) : N_mailbox_New rooms0 h Q :=
  Nf.of_ev Try.call16 Try.func16 (c := bodyOf Try.f16) rfl mixed C_mailbox_New D_mailbox_New 400 (args := [.slice rooms0.p rooms0.n rooms0.c]) (by rw [E_mailbox_New]; exact hb)
theorem E_mailbox_New_3 (b3 : Addr) (t8 : Sl) (t9 : Int) (t10 : Int) : ev Try.prog 16 Try.f16.results.toList C_mailbox_New D_mailbox_New 400 true (todoOf Try.f16 3) (T_mailbox_New_3 b3 t8 t9 t10) = B_mailbox_New_3 b3 t8 t9 t10 := by kernel_rfl
theorem S_mailbox_New_3 (b3 : Addr) (t8 : Sl) (t9 : Int) (t10 : Int) {h : Hp} {Q : Value → Hp → Prop} (hb : B_mailbox_New_3 b3 t8 t9 t10 h Q) : K_mailbox_New_3 b3 t8 t9 t10 h Q :=
  Cut.of_ev Try.func16 mixed C_mailbox_New D_mailbox_New 400 (by rw [E_mailbox_New_3]; exact hb)
theorem E_mailbox_New_7 (b3 : Addr) (n5 : Int) (t8 : Sl) (t9 : Int) (t10 : Int) : ev Try.prog 16 Try.f16.results.toList C_mailbox_New D_mailbox_New 400 true (todoOf Try.f16 7) (T_mailbox_New_7 b3 n5 t8 t9 t10) = B_mailbox_New_7 b3 n5 t8 t9 t10 := by kernel_rfl
theorem S_mailbox_New_7 (b3 : Addr) (n5 : Int) (t8 : Sl) (t9 : Int) (t10 : Int) {h : Hp} {Q : Value → Hp → Prop} (hb : B_mailbox_New_7 b3 n5 t8 t9 t10 h Q) : K_mailbox_New_7 b3 n5 t8 t9 t10 h Q :=
  Cut.of_ev Try.func16 mixed C_mailbox_New D_mailbox_New 400 (by rw [E_mailbox_New_7]; exact hb)
def C_mailbox_Boxes_Send : List (Nat × List Nat) := []
def D_mailbox_Boxes_Send : List (Nat × List Nat) := []
def B_mailbox_Boxes_Send (b0 : Option Addr) (i1 : Int) (v2 : Int) : M Value :=
  mBind (N_mailbox_Boxes_at b0 i1) fun r10 =>
  unP r10 fun (x10 : Option Addr) =>
  mIf (!x10.isNone) (
    mBind (N_ring_Ring_int_Put x10 v2) fun r15 =>
    unI .i64 r15 fun (x15 : Int) =>
    mRet (.int .i64 x15)) (
    mRet (.int .i64 (6 : Int)))
theorem E_mailbox_Boxes_Send (b0 : Option Addr) (i1 : Int) (v2 : Int) : ev Try.prog 17 Try.f17.results.toList C_mailbox_Boxes_Send D_mailbox_Boxes_Send 400 false [.code (bodyOf Try.f17)] (List.map some [.pointer b0, .int .i64 i1, .int .i64 v2] ++ List.replicate (Try.f17.ntmps - List.length ([.pointer b0, .int .i64 i1, .int .i64 v2] : List Value)) none) = B_mailbox_Boxes_Send b0 i1 v2 := by kernel_rfl
theorem S_mailbox_Boxes_Send (b0 : Option Addr) (i1 : Int) (v2 : Int) {h : Hp} {Q : Value → Hp → Prop} (hb : B_mailbox_Boxes_Send b0 i1 v2 h Q) : N_mailbox_Boxes_Send b0 i1 v2 h Q :=
  Nf.of_ev Try.call17 Try.func17 (c := bodyOf Try.f17) rfl mixed C_mailbox_Boxes_Send D_mailbox_Boxes_Send 400 (args := [.pointer b0, .int .i64 i1, .int .i64 v2]) (by rw [E_mailbox_Boxes_Send]; exact hb)
def C_mailbox_Boxes_Recv : List (Nat × List Nat) := []
def D_mailbox_Boxes_Recv : List (Nat × List Nat) := []
def B_mailbox_Boxes_Recv (b0 : Option Addr) (i1 : Int) : M Value :=
  mBind (N_mailbox_Boxes_at b0 i1) fun r9 =>
  unP r9 fun (x9 : Option Addr) =>
  mIf (!x9.isNone) (
    mBind (N_ring_Ring_int_Take x9) fun r13 =>
    un2 (unI .i64) (unI .i64) r13 fun (x13_0 : Int) (x13_1 : Int) =>
    mRet (.tuple #[.int .i64 x13_0, .int .i64 x13_1])) (
    mRet (.tuple #[.int .i64 (0 : Int), .int .i64 (6 : Int)]))
theorem E_mailbox_Boxes_Recv (b0 : Option Addr) (i1 : Int) : ev Try.prog 18 Try.f18.results.toList C_mailbox_Boxes_Recv D_mailbox_Boxes_Recv 400 false [.code (bodyOf Try.f18)] (List.map some [.pointer b0, .int .i64 i1] ++ List.replicate (Try.f18.ntmps - List.length ([.pointer b0, .int .i64 i1] : List Value)) none) = B_mailbox_Boxes_Recv b0 i1 := by kernel_rfl
theorem S_mailbox_Boxes_Recv (b0 : Option Addr) (i1 : Int) {h : Hp} {Q : Value → Hp → Prop} (hb : B_mailbox_Boxes_Recv b0 i1 h Q) : N_mailbox_Boxes_Recv b0 i1 h Q :=
  Nf.of_ev Try.call18 Try.func18 (c := bodyOf Try.f18) rfl mixed C_mailbox_Boxes_Recv D_mailbox_Boxes_Recv 400 (args := [.pointer b0, .int .i64 i1]) (by rw [E_mailbox_Boxes_Recv]; exact hb)
def C_mailbox_Boxes_All : List (Nat × List Nat) := []
def D_mailbox_Boxes_All : List (Nat × List Nat) := []
def B_mailbox_Boxes_All (b0 : Option Addr) (i1 : Int) : M Value :=
  mBind (N_mailbox_Boxes_at b0 i1) fun r7 =>
  unP r7 fun (x7 : Option Addr) =>
  mBind (N_ring_Ring_int_All x7) fun r8 =>
  unL r8 fun (x8 : Sl) =>
  mRet (.slice x8.p x8.n x8.c)
theorem E_mailbox_Boxes_All (b0 : Option Addr) (i1 : Int) : ev Try.prog 19 Try.f19.results.toList C_mailbox_Boxes_All D_mailbox_Boxes_All 400 false [.code (bodyOf Try.f19)] (List.map some [.pointer b0, .int .i64 i1] ++ List.replicate (Try.f19.ntmps - List.length ([.pointer b0, .int .i64 i1] : List Value)) none) = B_mailbox_Boxes_All b0 i1 := by kernel_rfl
theorem S_mailbox_Boxes_All (b0 : Option Addr) (i1 : Int) {h : Hp} {Q : Value → Hp → Prop} (hb : B_mailbox_Boxes_All b0 i1 h Q) : N_mailbox_Boxes_All b0 i1 h Q :=
  Nf.of_ev Try.call19 Try.func19 (c := bodyOf Try.f19) rfl mixed C_mailbox_Boxes_All D_mailbox_Boxes_All 400 (args := [.pointer b0, .int .i64 i1]) (by rw [E_mailbox_Boxes_All]; exact hb)
def C_mailbox_Boxes_Len : List (Nat × List Nat) := []
def D_mailbox_Boxes_Len : List (Nat × List Nat) := []
def B_mailbox_Boxes_Len (b0 : Option Addr) : M Value :=
  mIf b0.isNone (
    mRet (.int .i64 (0 : Int))) (
    mNil b0 fun (a2 : Addr) =>
    mLdL a2 fun (x8 : Sl) =>
    mRet (.int .i64 (x8.n : Int)))
theorem E_mailbox_Boxes_Len (b0 : Option Addr) : ev Try.prog 20 Try.f20.results.toList C_mailbox_Boxes_Len D_mailbox_Boxes_Len 400 false [.code (bodyOf Try.f20)] (List.map some [.pointer b0] ++ List.replicate (Try.f20.ntmps - List.length ([.pointer b0] : List Value)) none) = B_mailbox_Boxes_Len b0 := by kernel_rfl
theorem S_mailbox_Boxes_Len (b0 : Option Addr) {h : Hp} {Q : Value → Hp → Prop} (hb : B_mailbox_Boxes_Len b0 h Q) : N_mailbox_Boxes_Len b0 h Q :=
  Nf.of_ev Try.call20 Try.func20 (c := bodyOf Try.f20) rfl mixed C_mailbox_Boxes_Len D_mailbox_Boxes_Len 400 (args := [.pointer b0]) (by rw [E_mailbox_Boxes_Len]; exact hb)
def C_ring_New_int : List (Nat × List Nat) := []
def D_ring_New_int : List (Nat × List Nat) := []
def B_ring_New_int (room0 : Int) : M Value :=
  mIf ((decide (room0 < (0 : Int))) || (decide (room0 > (4096 : Int)))) (
    mRet (.pointer none)) (
    mMake 3 8 #[.int .i64 (0 : Int)] room0 room0 fun (x10 : Sl) =>
    mNew #[.slice x10.p x10.n x10.c, .int .i64 (0 : Int), .int .i64 (0 : Int)] 130 fun (x12 : Addr) =>
    mRet (.pointer (some x12)))
theorem E_ring_New_int (room0 : Int) : ev Try.prog 60 Try.f60.results.toList C_ring_New_int D_ring_New_int 400 false [.code (bodyOf Try.f60)] (List.map some [.int .i64 room0] ++ List.replicate (Try.f60.ntmps - List.length ([.int .i64 room0] : List Value)) none) = B_ring_New_int room0 := by kernel_rfl
theorem S_ring_New_int (room0 : Int) {h : Hp} {Q : Value → Hp → Prop} (hb : B_ring_New_int room0 h Q) : N_ring_New_int room0 h Q :=
  Nf.of_ev Try.call60 Try.func60 (c := bodyOf Try.f60) rfl mixed C_ring_New_int D_ring_New_int 400 (args := [.int .i64 room0]) (by rw [E_ring_New_int]; exact hb)
def C_mailbox_Boxes_at : List (Nat × List Nat) := []
def D_mailbox_Boxes_at : List (Nat × List Nat) := []
def B_mailbox_Boxes_at (b0 : Option Addr) (i1 : Int) : M Value :=
  mBind (mIf (decide (i1 < (0 : Int))) (mRet true) (mBind (N_mailbox_Boxes_Len b0) fun r10 =>
    unI .i64 r10 fun (x10 : Int) =>
    mRet (decide (i1 ≥ x10)))) fun (b2 : Bool) =>
  mIf b2 (
    mRet (.pointer none)) (
    mNil b0 fun (a4 : Addr) =>
    mLdL a4 fun (x16 : Sl) =>
    mIdx x16 i1 1 fun (x18 : Addr) =>
    mLdP x18 fun (x19 : Option Addr) =>
    mRet (.pointer x19))
theorem E_mailbox_Boxes_at (b0 : Option Addr) (i1 : Int) : ev Try.prog 61 Try.f61.results.toList C_mailbox_Boxes_at D_mailbox_Boxes_at 400 false [.code (bodyOf Try.f61)] (List.map some [.pointer b0, .int .i64 i1] ++ List.replicate (Try.f61.ntmps - List.length ([.pointer b0, .int .i64 i1] : List Value)) none) = B_mailbox_Boxes_at b0 i1 := by kernel_rfl
theorem S_mailbox_Boxes_at (b0 : Option Addr) (i1 : Int) {h : Hp} {Q : Value → Hp → Prop} (hb : B_mailbox_Boxes_at b0 i1 h Q) : N_mailbox_Boxes_at b0 i1 h Q :=
  Nf.of_ev Try.call61 Try.func61 (c := bodyOf Try.f61) rfl mixed C_mailbox_Boxes_at D_mailbox_Boxes_at 400 (args := [.pointer b0, .int .i64 i1]) (by rw [E_mailbox_Boxes_at]; exact hb)
def C_ring_Ring_int_Put : List (Nat × List Nat) := []
def D_ring_Ring_int_Put : List (Nat × List Nat) := []
def B_ring_Ring_int_Put (r0 : Option Addr) (x1 : Int) : M Value :=
  mIf r0.isNone (
    mRet (.int .i64 (1 : Int))) (
    mNil r0 fun (a2 : Addr) =>
    mLdI .i64 (a2.add 2) fun (x12 : Int) =>
    mNil r0 fun (a6 : Addr) =>
    mLdL a6 fun (x16 : Sl) =>
    mIf (x12 == (x16.n : Int)) (
      mRet (.int .i64 (7 : Int))) (
      mNil r0 fun (a10 : Addr) =>
      mLdI .i64 (a10.add 2) fun (x23 : Int) =>
      mBind (N_ring_Ring_int_at r0 x23) fun r24 =>
      unP r24 fun (x24 : Option Addr) =>
      mNil x24 fun (a15 : Addr) =>
      mSt a15 (.int .i64 x1) <|
      mNil r0 fun (a18 : Addr) =>
      mLdI .i64 (a18.add 2) fun (x30 : Int) =>
      mNil r0 fun (a22 : Addr) =>
      mSt (a22.add 2) (.int .i64 (IntKind.i64.wrap (x30 + (1 : Int)))) <|
      mRet (.int .i64 (0 : Int))))
theorem E_ring_Ring_int_Put (r0 : Option Addr) (x1 : Int) : ev Try.prog 62 Try.f62.results.toList C_ring_Ring_int_Put D_ring_Ring_int_Put 400 false [.code (bodyOf Try.f62)] (List.map some [.pointer r0, .int .i64 x1] ++ List.replicate (Try.f62.ntmps - List.length ([.pointer r0, .int .i64 x1] : List Value)) none) = B_ring_Ring_int_Put r0 x1 := by kernel_rfl
theorem S_ring_Ring_int_Put (r0 : Option Addr) (x1 : Int) {h : Hp} {Q : Value → Hp → Prop} (hb : B_ring_Ring_int_Put r0 x1 h Q) : N_ring_Ring_int_Put r0 x1 h Q :=
  Nf.of_ev Try.call62 Try.func62 (c := bodyOf Try.f62) rfl mixed C_ring_Ring_int_Put D_ring_Ring_int_Put 400 (args := [.pointer r0, .int .i64 x1]) (by rw [E_ring_Ring_int_Put]; exact hb)
def C_ring_Ring_int_Take : List (Nat × List Nat) := []
def D_ring_Ring_int_Take : List (Nat × List Nat) := [(6, [0, 1, 2, 3, 4, 5, 6, 7, 8, 9, 10, 11])]
def B_ring_Ring_int_Take (r0 : Option Addr) : M Value :=
  mBind (N_ring_Ring_int_First r0) fun r9 =>
  un2 (unI .i64) unB r9 fun (x9_0 : Int) (x9_1 : Bool) =>
  mIf (!x9_1) (
    mRet (.tuple #[.int .i64 (0 : Int), .int .i64 (8 : Int)])) (
    mBind (N_ring_Ring_int_at r0 (0 : Int)) fun r16 =>
    unP r16 fun (x16 : Option Addr) =>
    mNil x16 fun (a4 : Addr) =>
    mSt a4 (.int .i64 (0 : Int)) <|
    mNil r0 fun (a7 : Addr) =>
    mLdI .i64 (a7.add 1) fun (x23 : Int) =>
    mNil r0 fun (a11 : Addr) =>
    mLdL a11 fun (x28 : Sl) =>
    mGuard ((x28.n : Int) ≠ 0) <|
    mNil r0 fun (a16 : Addr) =>
    mSt (a16.add 1) (.int .i64 (Int.tmod (IntKind.i64.wrap (x23 + (1 : Int))) (x28.n : Int))) <|
    mNil r0 fun (a20 : Addr) =>
    mLdI .i64 (a20.add 2) fun (x36 : Int) =>
    mNil r0 fun (a24 : Addr) =>
    mSt (a24.add 2) (.int .i64 (IntKind.i64.wrap (x36 - (1 : Int)))) <|
    mRet (.tuple #[.int .i64 x9_0, .int .i64 (0 : Int)]))
theorem E_ring_Ring_int_Take (r0 : Option Addr) : ev Try.prog 63 Try.f63.results.toList C_ring_Ring_int_Take D_ring_Ring_int_Take 400 false [.code (bodyOf Try.f63)] (List.map some [.pointer r0] ++ List.replicate (Try.f63.ntmps - List.length ([.pointer r0] : List Value)) none) = B_ring_Ring_int_Take r0 := by kernel_rfl
theorem S_ring_Ring_int_Take (r0 : Option Addr) {h : Hp} {Q : Value → Hp → Prop} (hb : B_ring_Ring_int_Take r0 h Q) : N_ring_Ring_int_Take r0 h Q :=
  Nf.of_ev Try.call63 Try.func63 (c := bodyOf Try.f63) rfl mixed C_ring_Ring_int_Take D_ring_Ring_int_Take 400 (args := [.pointer r0]) (by rw [E_ring_Ring_int_Take]; exact hb)
def C_ring_Ring_int_All : List (Nat × List Nat) := [(3, [0, 3, 6, 7])]
def D_ring_Ring_int_All : List (Nat × List Nat) := []
def T_ring_Ring_int_All_3 (r0 : Option Addr) (out3 : Sl) (t6 : Int) (t7 : Int) : Env := mkEnv [(0, .pointer r0), (3, .slice out3.p out3.n out3.c), (6, .int .i64 t6), (7, .int .i64 t7)] 20 0
def K_ring_Ring_int_All_3 (r0 : Option Addr) (out3 : Sl) (t6 : Int) (t7 : Int) : M Value := Cut Try.prog 64 (todoOf Try.f64 3) (T_ring_Ring_int_All_3 r0 out3 t6 t7)
def B_ring_Ring_int_All (r0 : Option Addr) : M Value :=
  mBind (N_ring_Ring_int_Len r0) fun r6 =>
  unI .i64 r6 fun (x6 : Int) =>
  K_ring_Ring_int_All_3 r0 (Sl.mk none 0 0) x6 (0 : Int)
def B_ring_Ring_int_All_3 (r0 : Option Addr) (out3 : Sl) (t6 : Int) (t7 : Int) : M Value :=
  mIf (decide (t7 < t6)) (
    mBind (N_ring_Ring_int_at r0 t7) fun r13 =>
    unP r13 fun (x13 : Option Addr) =>
    mNil x13 fun (a4 : Addr) =>
    mLdI .i64 a4 fun (x15 : Int) =>
    mNew #[.int .i64 x15] 3 fun (x16 : Addr) =>
    mApp 3 1 8 #[.int .i64 (0 : Int)] out3 ⟨(some x16), 1, 1⟩ fun (x17 : Sl) =>
    K_ring_Ring_int_All_3 r0 x17 t6 (IntKind.i64.wrap (t7 + (1 : Int)))) (
    mRet (.slice out3.p out3.n out3.c))
theorem E_ring_Ring_int_All (r0 : Option Addr) : ev Try.prog 64 Try.f64.results.toList C_ring_Ring_int_All D_ring_Ring_int_All 400 false [.code (bodyOf Try.f64)] (List.map some [.pointer r0] ++ List.replicate (Try.f64.ntmps - List.length ([.pointer r0] : List Value)) none) = B_ring_Ring_int_All r0 := by kernel_rfl
theorem S_ring_Ring_int_All (r0 : Option Addr) {h : Hp} {Q : Value → Hp → Prop} (hb : B_ring_Ring_int_All r0 h Q) : N_ring_Ring_int_All r0 h Q :=
  Nf.of_ev Try.call64 Try.func64 (c := bodyOf Try.f64) rfl mixed C_ring_Ring_int_All D_ring_Ring_int_All 400 (args := [.pointer r0]) (by rw [E_ring_Ring_int_All]; exact hb)
theorem E_ring_Ring_int_All_3 (r0 : Option Addr) (out3 : Sl) (t6 : Int) (t7 : Int) : ev Try.prog 64 Try.f64.results.toList C_ring_Ring_int_All D_ring_Ring_int_All 400 true (todoOf Try.f64 3) (T_ring_Ring_int_All_3 r0 out3 t6 t7) = B_ring_Ring_int_All_3 r0 out3 t6 t7 := by kernel_rfl
theorem S_ring_Ring_int_All_3 (r0 : Option Addr) (out3 : Sl) (t6 : Int) (t7 : Int) {h : Hp} {Q : Value → Hp → Prop} (hb : B_ring_Ring_int_All_3 r0 out3 t6 t7 h Q) : K_ring_Ring_int_All_3 r0 out3 t6 t7 h Q :=
  Cut.of_ev Try.func64 mixed C_ring_Ring_int_All D_ring_Ring_int_All 400 (by rw [E_ring_Ring_int_All_3]; exact hb)
def C_ring_Ring_int_at : List (Nat × List Nat) := []
def D_ring_Ring_int_at : List (Nat × List Nat) := []
def B_ring_Ring_int_at (r0 : Option Addr) (i1 : Int) : M Value :=
  mNil r0 fun (a2 : Addr) =>
  mLdL a2 fun (x8 : Sl) =>
  mNil r0 fun (a6 : Addr) =>
  mLdI .i64 (a6.add 1) fun (x12 : Int) =>
  mNil r0 fun (a10 : Addr) =>
  mLdL a10 fun (x18 : Sl) =>
  mGuard ((x18.n : Int) ≠ 0) <|
  mIdx x8 (Int.tmod (IntKind.i64.wrap (x12 + i1)) (x18.n : Int)) 1 fun (x21 : Addr) =>
  mRet (.pointer (some x21))
theorem E_ring_Ring_int_at (r0 : Option Addr) (i1 : Int) : ev Try.prog 83 Try.f83.results.toList C_ring_Ring_int_at D_ring_Ring_int_at 400 false [.code (bodyOf Try.f83)] (List.map some [.pointer r0, .int .i64 i1] ++ List.replicate (Try.f83.ntmps - List.length ([.pointer r0, .int .i64 i1] : List Value)) none) = B_ring_Ring_int_at r0 i1 := by kernel_rfl
theorem S_ring_Ring_int_at (r0 : Option Addr) (i1 : Int) {h : Hp} {Q : Value → Hp → Prop} (hb : B_ring_Ring_int_at r0 i1 h Q) : N_ring_Ring_int_at r0 i1 h Q :=
  Nf.of_ev Try.call83 Try.func83 (c := bodyOf Try.f83) rfl mixed C_ring_Ring_int_at D_ring_Ring_int_at 400 (args := [.pointer r0, .int .i64 i1]) (by rw [E_ring_Ring_int_at]; exact hb)
def C_ring_Ring_int_First : List (Nat × List Nat) := []
def D_ring_Ring_int_First : List (Nat × List Nat) := []
def B_ring_Ring_int_First (r0 : Option Addr) : M Value :=
  mBind (N_ring_Ring_int_Len r0) fun r5 =>
  unI .i64 r5 fun (x5 : Int) =>
  mIf (x5 == (0 : Int)) (
    mRet (.tuple #[.int .i64 (0 : Int), .bool false])) (
    mBind (N_ring_Ring_int_at r0 (0 : Int)) fun r9 =>
    unP r9 fun (x9 : Option Addr) =>
    mNil x9 fun (a4 : Addr) =>
    mLdI .i64 a4 fun (x11 : Int) =>
    mRet (.tuple #[.int .i64 x11, .bool true]))
theorem E_ring_Ring_int_First (r0 : Option Addr) : ev Try.prog 84 Try.f84.results.toList C_ring_Ring_int_First D_ring_Ring_int_First 400 false [.code (bodyOf Try.f84)] (List.map some [.pointer r0] ++ List.replicate (Try.f84.ntmps - List.length ([.pointer r0] : List Value)) none) = B_ring_Ring_int_First r0 := by kernel_rfl
theorem S_ring_Ring_int_First (r0 : Option Addr) {h : Hp} {Q : Value → Hp → Prop} (hb : B_ring_Ring_int_First r0 h Q) : N_ring_Ring_int_First r0 h Q :=
  Nf.of_ev Try.call84 Try.func84 (c := bodyOf Try.f84) rfl mixed C_ring_Ring_int_First D_ring_Ring_int_First 400 (args := [.pointer r0]) (by rw [E_ring_Ring_int_First]; exact hb)
def C_ring_Ring_int_Len : List (Nat × List Nat) := []
def D_ring_Ring_int_Len : List (Nat × List Nat) := []
def B_ring_Ring_int_Len (r0 : Option Addr) : M Value :=
  mIf r0.isNone (
    mRet (.int .i64 (0 : Int))) (
    mNil r0 fun (a2 : Addr) =>
    mLdI .i64 (a2.add 2) fun (x8 : Int) =>
    mRet (.int .i64 x8))
theorem E_ring_Ring_int_Len (r0 : Option Addr) : ev Try.prog 85 Try.f85.results.toList C_ring_Ring_int_Len D_ring_Ring_int_Len 400 false [.code (bodyOf Try.f85)] (List.map some [.pointer r0] ++ List.replicate (Try.f85.ntmps - List.length ([.pointer r0] : List Value)) none) = B_ring_Ring_int_Len r0 := by kernel_rfl
theorem S_ring_Ring_int_Len (r0 : Option Addr) {h : Hp} {Q : Value → Hp → Prop} (hb : B_ring_Ring_int_Len r0 h Q) : N_ring_Ring_int_Len r0 h Q :=
  Nf.of_ev Try.call85 Try.func85 (c := bodyOf Try.f85) rfl mixed C_ring_Ring_int_Len D_ring_Ring_int_Len 400 (args := [.pointer r0]) (by rw [E_ring_Ring_int_Len]; exact hb)
def C_signalboxlaw10_MailboxOrder : List (Nat × List Nat) := [(8, [1, 5, 6, 28, 29, 30]), (14, [5, 6, 44, 45, 46])]
def D_signalboxlaw10_MailboxOrder : List (Nat × List Nat) := []
def T_signalboxlaw10_MailboxOrder_8 (l1 : Sl) (n5 : Int) (b6 : Option Addr) (t28 : Sl) (t29 : Int) (t30 : Int) : Env := mkEnv [(1, .slice l1.p l1.n l1.c), (5, .int .i64 n5), (6, .pointer b6), (28, .slice t28.p t28.n t28.c), (29, .int .i64 t29), (30, .int .i64 t30)] 85 0
def K_signalboxlaw10_MailboxOrder_8 (l1 : Sl) (n5 : Int) (b6 : Option Addr) (t28 : Sl) (t29 : Int) (t30 : Int) : M Value := Cut Try.prog 3 (todoOf Try.f3 8) (T_signalboxlaw10_MailboxOrder_8 l1 n5 b6 t28 t29 t30)
def T_signalboxlaw10_MailboxOrder_14 (n5 : Int) (b6 : Option Addr) (t44 : Sl) (t45 : Int) (t46 : Int) : Env := mkEnv [(5, .int .i64 n5), (6, .pointer b6), (44, .slice t44.p t44.n t44.c), (45, .int .i64 t45), (46, .int .i64 t46)] 85 0
def K_signalboxlaw10_MailboxOrder_14 (n5 : Int) (b6 : Option Addr) (t44 : Sl) (t45 : Int) (t46 : Int) : M Value := Cut Try.prog 3 (todoOf Try.f3 14) (T_signalboxlaw10_MailboxOrder_14 n5 b6 t44 t45 t46)
def B_signalboxlaw10_MailboxOrder (room0 : Int) (l1 : Sl) : M Value :=
  mBind (N_signalboxlaw10_fixed) fun r15 =>
  unB r15 fun (x15 : Bool) =>
  mIf (!x15) (
    mRet (.bool false)) (
    mIf (decide ((l1.n : Int) > (60 : Int))) (
      mRet (.bool true)) (
      mGuard ((8 : Int) ≠ 0) <|
      mNew #[.int .i64 (IntKind.i64.wrap ((1 : Int) + (IntKind.i64.wrap (Int.tmod room0 (8 : Int))))), .int .i64 (IntKind.i64.wrap ((1 : Int) + (IntKind.i64.wrap (Int.tmod room0 (8 : Int)))))] 3 fun (x26 : Addr) =>
      mBind (N_mailbox_New (Sl.mk (some x26) 2 2)) fun r27 =>
      unP r27 fun (x27 : Option Addr) =>
      K_signalboxlaw10_MailboxOrder_8 l1 (IntKind.i64.wrap ((1 : Int) + (IntKind.i64.wrap (Int.tmod room0 (8 : Int))))) x27 l1 (l1.n : Int) (0 : Int)))
def B_signalboxlaw10_MailboxOrder_8 (l1 : Sl) (n5 : Int) (b6 : Option Addr) (t28 : Sl) (t29 : Int) (t30 : Int) : M Value :=
  mIf (decide (t30 < t29)) (
    mIdx t28 t30 1 fun (x33 : Addr) =>
    mLdI .i64 x33 fun (x34 : Int) =>
    mBind (N_mailbox_Boxes_Send b6 (1 : Int) x34) fun r37 =>
    unI .i64 r37 fun (x37 : Int) =>
    mIf (!((x37 == (0 : Int)) == (decide (t30 < n5)))) (
      mRet (.bool false)) (
      K_signalboxlaw10_MailboxOrder_8 l1 n5 b6 t28 t29 (IntKind.i64.wrap (t30 + (1 : Int))))) (
    K_signalboxlaw10_MailboxOrder_14 n5 b6 l1 (l1.n : Int) (0 : Int))
def B_signalboxlaw10_MailboxOrder_14 (n5 : Int) (b6 : Option Addr) (t44 : Sl) (t45 : Int) (t46 : Int) : M Value :=
  mIf (decide (t46 < t45)) (
    mIdx t44 t46 1 fun (x49 : Addr) =>
    mLdI .i64 x49 fun (x50 : Int) =>
    mBind (N_mailbox_Boxes_Recv b6 (1 : Int)) fun r53 =>
    un2 (unI .i64) (unI .i64) r53 fun (x53_0 : Int) (x53_1 : Int) =>
    mBind (mIf (decide (t46 < n5)) (mRet ((x53_0 != x50) || (x53_1 != (0 : Int)))) (mRet false)) fun (b11 : Bool) =>
    mBind (mIf b11 (mRet true) (mRet ((decide (t46 ≥ n5)) && (x53_1 != (8 : Int))))) fun (b12 : Bool) =>
    mIf b12 (
      mRet (.bool false)) (
      K_signalboxlaw10_MailboxOrder_14 n5 b6 t44 t45 (IntKind.i64.wrap (t46 + (1 : Int))))) (
    mBind (N_mailbox_Boxes_Recv b6 (0 : Int)) fun r80 =>
    un2 (unI .i64) (unI .i64) r80 fun (_x80_0 : Int) (x80_1 : Int) =>
    mRet (.bool (x80_1 == (8 : Int))))
theorem E_signalboxlaw10_MailboxOrder (room0 : Int) (l1 : Sl) : ev Try.prog 3 Try.f3.results.toList C_signalboxlaw10_MailboxOrder D_signalboxlaw10_MailboxOrder 400 false [.code (bodyOf Try.f3)] (List.map some [.int .u8 room0, .slice l1.p l1.n l1.c] ++ List.replicate (Try.f3.ntmps - List.length ([.int .u8 room0, .slice l1.p l1.n l1.c] : List Value)) none) = B_signalboxlaw10_MailboxOrder room0 l1 := by kernel_rfl
theorem S_signalboxlaw10_MailboxOrder (room0 : Int) (l1 : Sl) {h : Hp} {Q : Value → Hp → Prop} (hb : B_signalboxlaw10_MailboxOrder room0 l1 h Q) : N_signalboxlaw10_MailboxOrder room0 l1 h Q :=
  Nf.of_ev Try.call3 Try.func3 (c := bodyOf Try.f3) rfl mixed C_signalboxlaw10_MailboxOrder D_signalboxlaw10_MailboxOrder 400 (args := [.int .u8 room0, .slice l1.p l1.n l1.c]) (by rw [E_signalboxlaw10_MailboxOrder]; exact hb)
theorem E_signalboxlaw10_MailboxOrder_8 (l1 : Sl) (n5 : Int) (b6 : Option Addr) (t28 : Sl) (t29 : Int) (t30 : Int) : ev Try.prog 3 Try.f3.results.toList C_signalboxlaw10_MailboxOrder D_signalboxlaw10_MailboxOrder 400 true (todoOf Try.f3 8) (T_signalboxlaw10_MailboxOrder_8 l1 n5 b6 t28 t29 t30) = B_signalboxlaw10_MailboxOrder_8 l1 n5 b6 t28 t29 t30 := by kernel_rfl
theorem S_signalboxlaw10_MailboxOrder_8 (l1 : Sl) (n5 : Int) (b6 : Option Addr) (t28 : Sl) (t29 : Int) (t30 : Int) {h : Hp} {Q : Value → Hp → Prop} (hb : B_signalboxlaw10_MailboxOrder_8 l1 n5 b6 t28 t29 t30 h Q) : K_signalboxlaw10_MailboxOrder_8 l1 n5 b6 t28 t29 t30 h Q :=
  Cut.of_ev Try.func3 mixed C_signalboxlaw10_MailboxOrder D_signalboxlaw10_MailboxOrder 400 (by rw [E_signalboxlaw10_MailboxOrder_8]; exact hb)
theorem E_signalboxlaw10_MailboxOrder_14 (n5 : Int) (b6 : Option Addr) (t44 : Sl) (t45 : Int) (t46 : Int) : ev Try.prog 3 Try.f3.results.toList C_signalboxlaw10_MailboxOrder D_signalboxlaw10_MailboxOrder 400 true (todoOf Try.f3 14) (T_signalboxlaw10_MailboxOrder_14 n5 b6 t44 t45 t46) = B_signalboxlaw10_MailboxOrder_14 n5 b6 t44 t45 t46 := by kernel_rfl
theorem S_signalboxlaw10_MailboxOrder_14 (n5 : Int) (b6 : Option Addr) (t44 : Sl) (t45 : Int) (t46 : Int) {h : Hp} {Q : Value → Hp → Prop} (hb : B_signalboxlaw10_MailboxOrder_14 n5 b6 t44 t45 t46 h Q) : K_signalboxlaw10_MailboxOrder_14 n5 b6 t44 t45 t46 h Q :=
  Cut.of_ev Try.func3 mixed C_signalboxlaw10_MailboxOrder D_signalboxlaw10_MailboxOrder 400 (by rw [E_signalboxlaw10_MailboxOrder_14]; exact hb)
def C_signalboxlaw10_MailboxPlays : List (Nat × List Nat) := [(8, [0, 5, 6, 33, 34, 35]), (17, [0, 5, 6, 8, 9, 10, 33, 34, 35]), (34, [0, 5, 6, 8, 9, 33, 34, 35]), (39, [0, 5, 6, 8, 13, 33, 34, 35, 188, 189])]
def D_signalboxlaw10_MailboxPlays : List (Nat × List Nat) := [(16, []), (21, [0, 1, 2, 3, 4, 5, 6, 7, 8, 9])]
def T_signalboxlaw10_MailboxPlays_8 (rooms0 : Sl) (b5 : Option Addr) (rows6 : Sl) (t33 : Sl) (t34 : Int) (t35 : Int) : Env := mkEnv [(0, .slice rooms0.p rooms0.n rooms0.c), (5, .pointer b5), (6, .slice rows6.p rows6.n rows6.c), (33, .slice t33.p t33.n t33.c), (34, .int .i64 t34), (35, .int .i64 t35)] 237 0
def K_signalboxlaw10_MailboxPlays_8 (rooms0 : Sl) (b5 : Option Addr) (rows6 : Sl) (t33 : Sl) (t34 : Int) (t35 : Int) : M Value := Cut Try.prog 4 (todoOf Try.f4 8) (T_signalboxlaw10_MailboxPlays_8 rooms0 b5 rows6 t33 t34 t35)
def T_signalboxlaw10_MailboxPlays_17 (rooms0 : Sl) (b5 : Option Addr) (rows6 : Sl) (a8 : Addr) (in9 : Bool) (room10 : Int) (t33 : Sl) (t34 : Int) (t35 : Int) : Env := mkEnv [(0, .slice rooms0.p rooms0.n rooms0.c), (5, .pointer b5), (6, .slice rows6.p rows6.n rows6.c), (8, .pointer (some a8)), (9, .bool in9), (10, .int .i64 room10), (33, .slice t33.p t33.n t33.c), (34, .int .i64 t34), (35, .int .i64 t35)] 237 0
def K_signalboxlaw10_MailboxPlays_17 (rooms0 : Sl) (b5 : Option Addr) (rows6 : Sl) (a8 : Addr) (in9 : Bool) (room10 : Int) (t33 : Sl) (t34 : Int) (t35 : Int) : M Value := Cut Try.prog 4 (todoOf Try.f4 17) (T_signalboxlaw10_MailboxPlays_17 rooms0 b5 rows6 a8 in9 room10 t33 t34 t35)
def T_signalboxlaw10_MailboxPlays_34 (rooms0 : Sl) (b5 : Option Addr) (rows6 : Sl) (a8 : Addr) (in9 : Bool) (t33 : Sl) (t34 : Int) (t35 : Int) : Env := mkEnv [(0, .slice rooms0.p rooms0.n rooms0.c), (5, .pointer b5), (6, .slice rows6.p rows6.n rows6.c), (8, .pointer (some a8)), (9, .bool in9), (33, .slice t33.p t33.n t33.c), (34, .int .i64 t34), (35, .int .i64 t35)] 237 0
def K_signalboxlaw10_MailboxPlays_34 (rooms0 : Sl) (b5 : Option Addr) (rows6 : Sl) (a8 : Addr) (in9 : Bool) (t33 : Sl) (t34 : Int) (t35 : Int) : M Value := Cut Try.prog 4 (todoOf Try.f4 34) (T_signalboxlaw10_MailboxPlays_34 rooms0 b5 rows6 a8 in9 t33 t34 t35)
def T_signalboxlaw10_MailboxPlays_39 (rooms0 : Sl) (b5 : Option Addr) (rows6 : Sl) (a8 : Addr) (all13 : Sl) (t33 : Sl) (t34 : Int) (t35 : Int) (t188 : Int) (t189 : Int) : Env := mkEnv [(0, .slice rooms0.p rooms0.n rooms0.c), (5, .pointer b5), (6, .slice rows6.p rows6.n rows6.c), (8, .pointer (some a8)), (13, .slice all13.p all13.n all13.c), (33, .slice t33.p t33.n t33.c), (34, .int .i64 t34), (35, .int .i64 t35), (188, .int .i64 t188), (189, .int .i64 t189)] 237 0
def K_signalboxlaw10_MailboxPlays_39 (rooms0 : Sl) (b5 : Option Addr) (rows6 : Sl) (a8 : Addr) (all13 : Sl) (t33 : Sl) (t34 : Int) (t35 : Int) (t188 : Int) (t189 : Int) : M Value := Cut Try.prog 4 (todoOf Try.f4 39) (T_signalboxlaw10_MailboxPlays_39 rooms0 b5 rows6 a8 all13 t33 t34 t35 t188 t189)
def B_signalboxlaw10_MailboxPlays (rooms0 : Sl) (l1 : Sl) : M Value :=
  mBind (N_signalboxlaw10_fixed) fun r18 =>
  unB r18 fun (x18 : Bool) =>
  mIf (!x18) (
    mRet (.bool false)) (
    mIf ((decide ((rooms0.n : Int) > (20 : Int))) || (decide ((l1.n : Int) > (150 : Int)))) (
      mRet (.bool true)) (
      mBind (N_mailbox_New rooms0) fun r29 =>
      unP r29 fun (x29 : Option Addr) =>
      mMake 22 24 #[.slice none (0) (0)] (rooms0.n : Int) (rooms0.n : Int) fun (x32 : Sl) =>
      K_signalboxlaw10_MailboxPlays_8 rooms0 x29 x32 l1 (l1.n : Int) (0 : Int)))
def B_signalboxlaw10_MailboxPlays_8 (rooms0 : Sl) (b5 : Option Addr) (rows6 : Sl) (t33 : Sl) (t34 : Int) (t35 : Int) : M Value :=
  mIf (decide (t35 < t34)) (
    mIdx t33 t35 3 fun (x37 : Addr) =>
    mLdB x37 fun (x38_0 : Bool) =>
    mLdI .i64 (x37.add 1) fun (x38_1 : Int) =>
    mLdI .i64 (x37.add 2) fun (x38_2 : Int) =>
    mNew #[.bool false, .int .i64 (0 : Int), .int .i64 (0 : Int)] 34 fun (x8 : Addr) =>
    mSt x8 (.bool x38_0) <|
    mSt (x8.add 1) (.int .i64 x38_1) <|
    mSt (x8.add 2) (.int .i64 x38_2) <|
    mLdI .i64 (x8.add 1) fun (x40 : Int) =>
    mBind (mIf (decide (x40 ≥ (0 : Int))) (mLdI .i64 (x8.add 1) fun (x44 : Int) =>
      mRet (decide (x44 < (rooms0.n : Int)))) (mRet false)) fun (b12 : Bool) =>
    mBind (mIf b12 (mLdI .i64 (x8.add 1) fun (x53 : Int) =>
      mIdx rooms0 x53 1 fun (x54 : Addr) =>
      mLdI .i64 x54 fun (x55 : Int) =>
      mRet (decide (x55 ≥ (1 : Int)))) (mRet false)) fun (b17 : Bool) =>
    mBind (mIf b17 (mLdI .i64 (x8.add 1) fun (x61 : Int) =>
      mIdx rooms0 x61 1 fun (x62 : Addr) =>
      mLdI .i64 x62 fun (x63 : Int) =>
      mRet (decide (x63 ≤ (8 : Int)))) (mRet false)) fun (b22 : Bool) =>
    mIf b22 (
      mLdI .i64 (x8.add 1) fun (x68 : Int) =>
      mIdx rooms0 x68 1 fun (x69 : Addr) =>
      mLdI .i64 x69 fun (x70 : Int) =>
      K_signalboxlaw10_MailboxPlays_17 rooms0 b5 rows6 x8 b12 x70 t33 t34 t35) (
      K_signalboxlaw10_MailboxPlays_17 rooms0 b5 rows6 x8 b12 (1 : Int) t33 t34 t35)) (
    mBind (N_mailbox_Boxes_Recv none (0 : Int)) fun r209 =>
    un2 (unI .i64) (unI .i64) r209 fun (_x209_0 : Int) (x209_1 : Int) =>
    mBind (N_mailbox_Boxes_Len b5) fun r213 =>
    unI .i64 r213 fun (x213 : Int) =>
    mBind (mIf (x213 == (rooms0.n : Int)) (mBind (N_mailbox_Boxes_All b5 (-1 : Int)) fun r219 =>
      unL r219 fun (x219 : Sl) =>
      mRet ((x219.n : Int) == (0 : Int))) (mRet false)) fun (b30 : Bool) =>
    mBind (mIf b30 (mBind (N_mailbox_Boxes_Len none) fun r225 =>
      unI .i64 r225 fun (x225 : Int) =>
      mRet (x225 == (0 : Int))) (mRet false)) fun (b32 : Bool) =>
    mBind (mIf b32 (mBind (N_mailbox_Boxes_Send none (0 : Int) (1 : Int)) fun r230 =>
      unI .i64 r230 fun (x230 : Int) =>
      mRet (x230 == (6 : Int))) (mRet false)) fun (b34 : Bool) =>
    mRet (.bool (b34 && (x209_1 == (6 : Int)))))
def B_signalboxlaw10_MailboxPlays_17 (rooms0 : Sl) (b5 : Option Addr) (rows6 : Sl) (a8 : Addr) (in9 : Bool) (room10 : Int) (t33 : Sl) (t34 : Int) (t35 : Int) : M Value :=
  mLdB a8 fun (x93 : Bool) =>
  mIf x93 (
    mLdI .i64 (a8.add 1) fun (x97 : Int) =>
    mBind (N_mailbox_Boxes_Recv b5 x97) fun r98 =>
    un2 (unI .i64) (unI .i64) r98 fun (x98_0 : Int) (x98_1 : Int) =>
    mIf (!in9) (
      mIf ((x98_1 != (6 : Int)) || (x98_0 != (0 : Int))) (
        mRet (.bool false)) (
        K_signalboxlaw10_MailboxPlays_34 rooms0 b5 rows6 a8 in9 t33 t34 t35)) (
      mLdI .i64 (a8.add 1) fun (x136 : Int) =>
      mIdx rows6 x136 1 fun (x137 : Addr) =>
      mLdL x137 fun (x138 : Sl) =>
      mIf ((x138.n : Int) == (0 : Int)) (
        mIf ((x98_1 != (8 : Int)) || (x98_0 != (0 : Int))) (
          mRet (.bool false)) (
          K_signalboxlaw10_MailboxPlays_34 rooms0 b5 rows6 a8 in9 t33 t34 t35)) (
        mBind (mIf (x98_1 != (0 : Int)) (mRet true) (mLdI .i64 (a8.add 1) fun (x107 : Int) =>
          mIdx rows6 x107 1 fun (x108 : Addr) =>
          mLdL x108 fun (x109 : Sl) =>
          mIdx x109 (0 : Int) 1 fun (x110 : Addr) =>
          mLdI .i64 x110 fun (x111 : Int) =>
          mRet (x98_0 != x111))) fun (b50 : Bool) =>
        mIf b50 (
          mRet (.bool false)) (
          mLdI .i64 (a8.add 1) fun (x116 : Int) =>
          mLdI .i64 (a8.add 1) fun (x119 : Int) =>
          mIdx rows6 x119 1 fun (x120 : Addr) =>
          mLdL x120 fun (x121 : Sl) =>
          mSlc x121 1 (1 : Int) (x121.n : Int) (x121.c : Int) fun (x122 : Sl) =>
          mIdx rows6 x116 1 fun (x123 : Addr) =>
          mSt x123 (.slice x122.p x122.n x122.c) <|
          K_signalboxlaw10_MailboxPlays_34 rooms0 b5 rows6 a8 in9 t33 t34 t35)))) (
    mIf (!in9) (
      mLdI .i64 (a8.add 1) fun (x152 : Int) =>
      mLdI .i64 (a8.add 2) fun (x154 : Int) =>
      mBind (N_mailbox_Boxes_Send b5 x152 x154) fun r155 =>
      unI .i64 r155 fun (x155 : Int) =>
      mIf (x155 != (6 : Int)) (
        mRet (.bool false)) (
        K_signalboxlaw10_MailboxPlays_34 rooms0 b5 rows6 a8 in9 t33 t34 t35)) (
      mLdI .i64 (a8.add 1) fun (x160 : Int) =>
      mIdx rows6 x160 1 fun (x161 : Addr) =>
      mLdL x161 fun (x162 : Sl) =>
      mIf ((x162.n : Int) == room10) (
        mLdI .i64 (a8.add 1) fun (x168 : Int) =>
        mLdI .i64 (a8.add 2) fun (x170 : Int) =>
        mBind (N_mailbox_Boxes_Send b5 x168 x170) fun r171 =>
        unI .i64 r171 fun (x171 : Int) =>
        mIf (x171 != (7 : Int)) (
          mRet (.bool false)) (
          K_signalboxlaw10_MailboxPlays_34 rooms0 b5 rows6 a8 in9 t33 t34 t35)) (
        mLdI .i64 (a8.add 1) fun (x73 : Int) =>
        mLdI .i64 (a8.add 2) fun (x75 : Int) =>
        mBind (N_mailbox_Boxes_Send b5 x73 x75) fun r76 =>
        unI .i64 r76 fun (x76 : Int) =>
        mIf (x76 != (0 : Int)) (
          mRet (.bool false)) (
          mAnd (
            mLdI .i64 (a8.add 1) fun (x80_254 : Int) =>
            mAnd (
              mLdI .i64 (a8.add 1) fun (x83_275 : Int) =>
              mIdx rows6 x83_275 1 fun (x84_276 : Addr) =>
              mAnd (
                mLdL x84_276 fun (x85_288 : Sl) =>
                mLdI .i64 (a8.add 2) fun (x87_289 : Int) =>
                mNew #[.int .i64 x87_289] 3 fun (x88_290 : Addr) =>
                mApp 3 1 8 #[.int .i64 (0 : Int)] x85_288 ⟨(some x88_290), 1, 1⟩ fun (x89_291 : Sl) =>
                mIdx rows6 x80_254 1 fun (x90_292 : Addr) =>
                mSt x90_292 (.slice x89_291.p x89_291.n x89_291.c) <|
                K_signalboxlaw10_MailboxPlays_34 rooms0 b5 rows6 a8 in9 t33 t34 t35) (
                mLdI .i64 (a8.add 2) fun (x87_277 : Int) =>
                mAnd (
                  mLdL x84_276 fun (x85_283 : Sl) =>
                  mNew #[.int .i64 x87_277] 3 fun (x88_284 : Addr) =>
                  mApp 3 1 8 #[.int .i64 (0 : Int)] x85_283 ⟨(some x88_284), 1, 1⟩ fun (x89_285 : Sl) =>
                  mIdx rows6 x80_254 1 fun (x90_286 : Addr) =>
                  mSt x90_286 (.slice x89_285.p x89_285.n x89_285.c) <|
                  K_signalboxlaw10_MailboxPlays_34 rooms0 b5 rows6 a8 in9 t33 t34 t35) (
                  mNew #[.int .i64 x87_277] 3 fun (x88_278 : Addr) =>
                  mLdL x84_276 fun (x85_279 : Sl) =>
                  mApp 3 1 8 #[.int .i64 (0 : Int)] x85_279 ⟨(some x88_278), 1, 1⟩ fun (x89_280 : Sl) =>
                  mIdx rows6 x80_254 1 fun (x90_281 : Addr) =>
                  mSt x90_281 (.slice x89_280.p x89_280.n x89_280.c) <|
                  K_signalboxlaw10_MailboxPlays_34 rooms0 b5 rows6 a8 in9 t33 t34 t35))) (
              mLdI .i64 (a8.add 2) fun (x87_255 : Int) =>
              mAnd (
                mLdI .i64 (a8.add 1) fun (x83_263 : Int) =>
                mIdx rows6 x83_263 1 fun (x84_264 : Addr) =>
                mAnd (
                  mLdL x84_264 fun (x85_270 : Sl) =>
                  mNew #[.int .i64 x87_255] 3 fun (x88_271 : Addr) =>
                  mApp 3 1 8 #[.int .i64 (0 : Int)] x85_270 ⟨(some x88_271), 1, 1⟩ fun (x89_272 : Sl) =>
                  mIdx rows6 x80_254 1 fun (x90_273 : Addr) =>
                  mSt x90_273 (.slice x89_272.p x89_272.n x89_272.c) <|
                  K_signalboxlaw10_MailboxPlays_34 rooms0 b5 rows6 a8 in9 t33 t34 t35) (
                  mNew #[.int .i64 x87_255] 3 fun (x88_265 : Addr) =>
                  mLdL x84_264 fun (x85_266 : Sl) =>
                  mApp 3 1 8 #[.int .i64 (0 : Int)] x85_266 ⟨(some x88_265), 1, 1⟩ fun (x89_267 : Sl) =>
                  mIdx rows6 x80_254 1 fun (x90_268 : Addr) =>
                  mSt x90_268 (.slice x89_267.p x89_267.n x89_267.c) <|
                  K_signalboxlaw10_MailboxPlays_34 rooms0 b5 rows6 a8 in9 t33 t34 t35)) (
                mNew #[.int .i64 x87_255] 3 fun (x88_256 : Addr) =>
                mLdI .i64 (a8.add 1) fun (x83_257 : Int) =>
                mIdx rows6 x83_257 1 fun (x84_258 : Addr) =>
                mLdL x84_258 fun (x85_259 : Sl) =>
                mApp 3 1 8 #[.int .i64 (0 : Int)] x85_259 ⟨(some x88_256), 1, 1⟩ fun (x89_260 : Sl) =>
                mIdx rows6 x80_254 1 fun (x90_261 : Addr) =>
                mSt x90_261 (.slice x89_260.p x89_260.n x89_260.c) <|
                K_signalboxlaw10_MailboxPlays_34 rooms0 b5 rows6 a8 in9 t33 t34 t35))) (
            mAnd (
              mLdI .i64 (a8.add 1) fun (x83_170 : Int) =>
              mIdx rows6 x83_170 1 fun (x84_171 : Addr) =>
              mAnd (
                mLdI .i64 (a8.add 1) fun (x80_236 : Int) =>
                mAnd (
                  mLdL x84_171 fun (x85_248 : Sl) =>
                  mLdI .i64 (a8.add 2) fun (x87_249 : Int) =>
                  mNew #[.int .i64 x87_249] 3 fun (x88_250 : Addr) =>
                  mApp 3 1 8 #[.int .i64 (0 : Int)] x85_248 ⟨(some x88_250), 1, 1⟩ fun (x89_251 : Sl) =>
                  mIdx rows6 x80_236 1 fun (x90_252 : Addr) =>
                  mSt x90_252 (.slice x89_251.p x89_251.n x89_251.c) <|
                  K_signalboxlaw10_MailboxPlays_34 rooms0 b5 rows6 a8 in9 t33 t34 t35) (
                  mLdI .i64 (a8.add 2) fun (x87_237 : Int) =>
                  mAnd (
                    mLdL x84_171 fun (x85_243 : Sl) =>
                    mNew #[.int .i64 x87_237] 3 fun (x88_244 : Addr) =>
                    mApp 3 1 8 #[.int .i64 (0 : Int)] x85_243 ⟨(some x88_244), 1, 1⟩ fun (x89_245 : Sl) =>
                    mIdx rows6 x80_236 1 fun (x90_246 : Addr) =>
                    mSt x90_246 (.slice x89_245.p x89_245.n x89_245.c) <|
                    K_signalboxlaw10_MailboxPlays_34 rooms0 b5 rows6 a8 in9 t33 t34 t35) (
                    mNew #[.int .i64 x87_237] 3 fun (x88_238 : Addr) =>
                    mLdL x84_171 fun (x85_239 : Sl) =>
                    mApp 3 1 8 #[.int .i64 (0 : Int)] x85_239 ⟨(some x88_238), 1, 1⟩ fun (x89_240 : Sl) =>
                    mIdx rows6 x80_236 1 fun (x90_241 : Addr) =>
                    mSt x90_241 (.slice x89_240.p x89_240.n x89_240.c) <|
                    K_signalboxlaw10_MailboxPlays_34 rooms0 b5 rows6 a8 in9 t33 t34 t35))) (
                mAnd (
                  mLdL x84_171 fun (x85_214 : Sl) =>
                  mAnd (
                    mLdI .i64 (a8.add 1) fun (x80_230 : Int) =>
                    mLdI .i64 (a8.add 2) fun (x87_231 : Int) =>
                    mNew #[.int .i64 x87_231] 3 fun (x88_232 : Addr) =>
                    mApp 3 1 8 #[.int .i64 (0 : Int)] x85_214 ⟨(some x88_232), 1, 1⟩ fun (x89_233 : Sl) =>
                    mIdx rows6 x80_230 1 fun (x90_234 : Addr) =>
                    mSt x90_234 (.slice x89_233.p x89_233.n x89_233.c) <|
                    K_signalboxlaw10_MailboxPlays_34 rooms0 b5 rows6 a8 in9 t33 t34 t35) (
                    mLdI .i64 (a8.add 2) fun (x87_215 : Int) =>
                    mAnd (
                      mLdI .i64 (a8.add 1) fun (x80_225 : Int) =>
                      mNew #[.int .i64 x87_215] 3 fun (x88_226 : Addr) =>
                      mApp 3 1 8 #[.int .i64 (0 : Int)] x85_214 ⟨(some x88_226), 1, 1⟩ fun (x89_227 : Sl) =>
                      mIdx rows6 x80_225 1 fun (x90_228 : Addr) =>
                      mSt x90_228 (.slice x89_227.p x89_227.n x89_227.c) <|
                      K_signalboxlaw10_MailboxPlays_34 rooms0 b5 rows6 a8 in9 t33 t34 t35) (
                      mNew #[.int .i64 x87_215] 3 fun (x88_216 : Addr) =>
                      mAnd (
                        mLdI .i64 (a8.add 1) fun (x80_221 : Int) =>
                        mApp 3 1 8 #[.int .i64 (0 : Int)] x85_214 ⟨(some x88_216), 1, 1⟩ fun (x89_222 : Sl) =>
                        mIdx rows6 x80_221 1 fun (x90_223 : Addr) =>
                        mSt x90_223 (.slice x89_222.p x89_222.n x89_222.c) <|
                        K_signalboxlaw10_MailboxPlays_34 rooms0 b5 rows6 a8 in9 t33 t34 t35) (
                        mApp 3 1 8 #[.int .i64 (0 : Int)] x85_214 ⟨(some x88_216), 1, 1⟩ fun (x89_217 : Sl) =>
                        mLdI .i64 (a8.add 1) fun (x80_218 : Int) =>
                        mIdx rows6 x80_218 1 fun (x90_219 : Addr) =>
                        mSt x90_219 (.slice x89_217.p x89_217.n x89_217.c) <|
                        K_signalboxlaw10_MailboxPlays_34 rooms0 b5 rows6 a8 in9 t33 t34 t35)))) (
                  mLdI .i64 (a8.add 2) fun (x87_172 : Int) =>
                  mAnd (
                    mLdI .i64 (a8.add 1) fun (x80_203 : Int) =>
                    mAnd (
                      mLdL x84_171 fun (x85_209 : Sl) =>
                      mNew #[.int .i64 x87_172] 3 fun (x88_210 : Addr) =>
                      mApp 3 1 8 #[.int .i64 (0 : Int)] x85_209 ⟨(some x88_210), 1, 1⟩ fun (x89_211 : Sl) =>
                      mIdx rows6 x80_203 1 fun (x90_212 : Addr) =>
                      mSt x90_212 (.slice x89_211.p x89_211.n x89_211.c) <|
                      K_signalboxlaw10_MailboxPlays_34 rooms0 b5 rows6 a8 in9 t33 t34 t35) (
                      mNew #[.int .i64 x87_172] 3 fun (x88_204 : Addr) =>
                      mLdL x84_171 fun (x85_205 : Sl) =>
                      mApp 3 1 8 #[.int .i64 (0 : Int)] x85_205 ⟨(some x88_204), 1, 1⟩ fun (x89_206 : Sl) =>
                      mIdx rows6 x80_203 1 fun (x90_207 : Addr) =>
                      mSt x90_207 (.slice x89_206.p x89_206.n x89_206.c) <|
                      K_signalboxlaw10_MailboxPlays_34 rooms0 b5 rows6 a8 in9 t33 t34 t35)) (
                    mAnd (
                      mLdL x84_171 fun (x85_188 : Sl) =>
                      mAnd (
                        mLdI .i64 (a8.add 1) fun (x80_198 : Int) =>
                        mNew #[.int .i64 x87_172] 3 fun (x88_199 : Addr) =>
                        mApp 3 1 8 #[.int .i64 (0 : Int)] x85_188 ⟨(some x88_199), 1, 1⟩ fun (x89_200 : Sl) =>
                        mIdx rows6 x80_198 1 fun (x90_201 : Addr) =>
                        mSt x90_201 (.slice x89_200.p x89_200.n x89_200.c) <|
                        K_signalboxlaw10_MailboxPlays_34 rooms0 b5 rows6 a8 in9 t33 t34 t35) (
                        mNew #[.int .i64 x87_172] 3 fun (x88_189 : Addr) =>
                        mAnd (
                          mLdI .i64 (a8.add 1) fun (x80_194 : Int) =>
                          mApp 3 1 8 #[.int .i64 (0 : Int)] x85_188 ⟨(some x88_189), 1, 1⟩ fun (x89_195 : Sl) =>
                          mIdx rows6 x80_194 1 fun (x90_196 : Addr) =>
                          mSt x90_196 (.slice x89_195.p x89_195.n x89_195.c) <|
                          K_signalboxlaw10_MailboxPlays_34 rooms0 b5 rows6 a8 in9 t33 t34 t35) (
                          mApp 3 1 8 #[.int .i64 (0 : Int)] x85_188 ⟨(some x88_189), 1, 1⟩ fun (x89_190 : Sl) =>
                          mLdI .i64 (a8.add 1) fun (x80_191 : Int) =>
                          mIdx rows6 x80_191 1 fun (x90_192 : Addr) =>
                          mSt x90_192 (.slice x89_190.p x89_190.n x89_190.c) <|
                          K_signalboxlaw10_MailboxPlays_34 rooms0 b5 rows6 a8 in9 t33 t34 t35))) (
                      mNew #[.int .i64 x87_172] 3 fun (x88_173 : Addr) =>
                      mAnd (
                        mLdI .i64 (a8.add 1) fun (x80_183 : Int) =>
                        mLdL x84_171 fun (x85_184 : Sl) =>
                        mApp 3 1 8 #[.int .i64 (0 : Int)] x85_184 ⟨(some x88_173), 1, 1⟩ fun (x89_185 : Sl) =>
                        mIdx rows6 x80_183 1 fun (x90_186 : Addr) =>
                        mSt x90_186 (.slice x89_185.p x89_185.n x89_185.c) <|
                        K_signalboxlaw10_MailboxPlays_34 rooms0 b5 rows6 a8 in9 t33 t34 t35) (
                        mLdL x84_171 fun (x85_174 : Sl) =>
                        mAnd (
                          mLdI .i64 (a8.add 1) fun (x80_179 : Int) =>
                          mApp 3 1 8 #[.int .i64 (0 : Int)] x85_174 ⟨(some x88_173), 1, 1⟩ fun (x89_180 : Sl) =>
                          mIdx rows6 x80_179 1 fun (x90_181 : Addr) =>
                          mSt x90_181 (.slice x89_180.p x89_180.n x89_180.c) <|
                          K_signalboxlaw10_MailboxPlays_34 rooms0 b5 rows6 a8 in9 t33 t34 t35) (
                          mApp 3 1 8 #[.int .i64 (0 : Int)] x85_174 ⟨(some x88_173), 1, 1⟩ fun (x89_175 : Sl) =>
                          mLdI .i64 (a8.add 1) fun (x80_176 : Int) =>
                          mIdx rows6 x80_176 1 fun (x90_177 : Addr) =>
                          mSt x90_177 (.slice x89_175.p x89_175.n x89_175.c) <|
                          K_signalboxlaw10_MailboxPlays_34 rooms0 b5 rows6 a8 in9 t33 t34 t35))))))) (
              mLdI .i64 (a8.add 2) fun (x87 : Int) =>
              mAnd (
                mLdI .i64 (a8.add 1) fun (x80_150 : Int) =>
                mAnd (
                  mLdI .i64 (a8.add 1) fun (x83_158 : Int) =>
                  mIdx rows6 x83_158 1 fun (x84_159 : Addr) =>
                  mAnd (
                    mLdL x84_159 fun (x85_165 : Sl) =>
                    mNew #[.int .i64 x87] 3 fun (x88_166 : Addr) =>
                    mApp 3 1 8 #[.int .i64 (0 : Int)] x85_165 ⟨(some x88_166), 1, 1⟩ fun (x89_167 : Sl) =>
                    mIdx rows6 x80_150 1 fun (x90_168 : Addr) =>
                    mSt x90_168 (.slice x89_167.p x89_167.n x89_167.c) <|
                    K_signalboxlaw10_MailboxPlays_34 rooms0 b5 rows6 a8 in9 t33 t34 t35) (
                    mNew #[.int .i64 x87] 3 fun (x88_160 : Addr) =>
                    mLdL x84_159 fun (x85_161 : Sl) =>
                    mApp 3 1 8 #[.int .i64 (0 : Int)] x85_161 ⟨(some x88_160), 1, 1⟩ fun (x89_162 : Sl) =>
                    mIdx rows6 x80_150 1 fun (x90_163 : Addr) =>
                    mSt x90_163 (.slice x89_162.p x89_162.n x89_162.c) <|
                    K_signalboxlaw10_MailboxPlays_34 rooms0 b5 rows6 a8 in9 t33 t34 t35)) (
                  mNew #[.int .i64 x87] 3 fun (x88_151 : Addr) =>
                  mLdI .i64 (a8.add 1) fun (x83_152 : Int) =>
                  mIdx rows6 x83_152 1 fun (x84_153 : Addr) =>
                  mLdL x84_153 fun (x85_154 : Sl) =>
                  mApp 3 1 8 #[.int .i64 (0 : Int)] x85_154 ⟨(some x88_151), 1, 1⟩ fun (x89_155 : Sl) =>
                  mIdx rows6 x80_150 1 fun (x90_156 : Addr) =>
                  mSt x90_156 (.slice x89_155.p x89_155.n x89_155.c) <|
                  K_signalboxlaw10_MailboxPlays_34 rooms0 b5 rows6 a8 in9 t33 t34 t35)) (
                mAnd (
                  mLdI .i64 (a8.add 1) fun (x83_107 : Int) =>
                  mIdx rows6 x83_107 1 fun (x84_108 : Addr) =>
                  mAnd (
                    mLdI .i64 (a8.add 1) fun (x80_139 : Int) =>
                    mAnd (
                      mLdL x84_108 fun (x85_145 : Sl) =>
                      mNew #[.int .i64 x87] 3 fun (x88_146 : Addr) =>
                      mApp 3 1 8 #[.int .i64 (0 : Int)] x85_145 ⟨(some x88_146), 1, 1⟩ fun (x89_147 : Sl) =>
                      mIdx rows6 x80_139 1 fun (x90_148 : Addr) =>
                      mSt x90_148 (.slice x89_147.p x89_147.n x89_147.c) <|
                      K_signalboxlaw10_MailboxPlays_34 rooms0 b5 rows6 a8 in9 t33 t34 t35) (
                      mNew #[.int .i64 x87] 3 fun (x88_140 : Addr) =>
                      mLdL x84_108 fun (x85_141 : Sl) =>
                      mApp 3 1 8 #[.int .i64 (0 : Int)] x85_141 ⟨(some x88_140), 1, 1⟩ fun (x89_142 : Sl) =>
                      mIdx rows6 x80_139 1 fun (x90_143 : Addr) =>
                      mSt x90_143 (.slice x89_142.p x89_142.n x89_142.c) <|
                      K_signalboxlaw10_MailboxPlays_34 rooms0 b5 rows6 a8 in9 t33 t34 t35)) (
                    mAnd (
                      mLdL x84_108 fun (x85_124 : Sl) =>
                      mAnd (
                        mLdI .i64 (a8.add 1) fun (x80_134 : Int) =>
                        mNew #[.int .i64 x87] 3 fun (x88_135 : Addr) =>
                        mApp 3 1 8 #[.int .i64 (0 : Int)] x85_124 ⟨(some x88_135), 1, 1⟩ fun (x89_136 : Sl) =>
                        mIdx rows6 x80_134 1 fun (x90_137 : Addr) =>
                        mSt x90_137 (.slice x89_136.p x89_136.n x89_136.c) <|
                        K_signalboxlaw10_MailboxPlays_34 rooms0 b5 rows6 a8 in9 t33 t34 t35) (
                        mNew #[.int .i64 x87] 3 fun (x88_125 : Addr) =>
                        mAnd (
                          mLdI .i64 (a8.add 1) fun (x80_130 : Int) =>
                          mApp 3 1 8 #[.int .i64 (0 : Int)] x85_124 ⟨(some x88_125), 1, 1⟩ fun (x89_131 : Sl) =>
                          mIdx rows6 x80_130 1 fun (x90_132 : Addr) =>
                          mSt x90_132 (.slice x89_131.p x89_131.n x89_131.c) <|
                          K_signalboxlaw10_MailboxPlays_34 rooms0 b5 rows6 a8 in9 t33 t34 t35) (
                          mApp 3 1 8 #[.int .i64 (0 : Int)] x85_124 ⟨(some x88_125), 1, 1⟩ fun (x89_126 : Sl) =>
                          mLdI .i64 (a8.add 1) fun (x80_127 : Int) =>
                          mIdx rows6 x80_127 1 fun (x90_128 : Addr) =>
                          mSt x90_128 (.slice x89_126.p x89_126.n x89_126.c) <|
                          K_signalboxlaw10_MailboxPlays_34 rooms0 b5 rows6 a8 in9 t33 t34 t35))) (
                      mNew #[.int .i64 x87] 3 fun (x88_109 : Addr) =>
                      mAnd (
                        mLdI .i64 (a8.add 1) fun (x80_119 : Int) =>
                        mLdL x84_108 fun (x85_120 : Sl) =>
                        mApp 3 1 8 #[.int .i64 (0 : Int)] x85_120 ⟨(some x88_109), 1, 1⟩ fun (x89_121 : Sl) =>
                        mIdx rows6 x80_119 1 fun (x90_122 : Addr) =>
                        mSt x90_122 (.slice x89_121.p x89_121.n x89_121.c) <|
                        K_signalboxlaw10_MailboxPlays_34 rooms0 b5 rows6 a8 in9 t33 t34 t35) (
                        mLdL x84_108 fun (x85_110 : Sl) =>
                        mAnd (
                          mLdI .i64 (a8.add 1) fun (x80_115 : Int) =>
                          mApp 3 1 8 #[.int .i64 (0 : Int)] x85_110 ⟨(some x88_109), 1, 1⟩ fun (x89_116 : Sl) =>
                          mIdx rows6 x80_115 1 fun (x90_117 : Addr) =>
                          mSt x90_117 (.slice x89_116.p x89_116.n x89_116.c) <|
                          K_signalboxlaw10_MailboxPlays_34 rooms0 b5 rows6 a8 in9 t33 t34 t35) (
                          mApp 3 1 8 #[.int .i64 (0 : Int)] x85_110 ⟨(some x88_109), 1, 1⟩ fun (x89_111 : Sl) =>
                          mLdI .i64 (a8.add 1) fun (x80_112 : Int) =>
                          mIdx rows6 x80_112 1 fun (x90_113 : Addr) =>
                          mSt x90_113 (.slice x89_111.p x89_111.n x89_111.c) <|
                          K_signalboxlaw10_MailboxPlays_34 rooms0 b5 rows6 a8 in9 t33 t34 t35))))) (
                  mNew #[.int .i64 x87] 3 fun (x88 : Addr) =>
                  mAnd (
                    mLdI .i64 (a8.add 1) fun (x80_100 : Int) =>
                    mLdI .i64 (a8.add 1) fun (x83_101 : Int) =>
                    mIdx rows6 x83_101 1 fun (x84_102 : Addr) =>
                    mLdL x84_102 fun (x85_103 : Sl) =>
                    mApp 3 1 8 #[.int .i64 (0 : Int)] x85_103 ⟨(some x88), 1, 1⟩ fun (x89_104 : Sl) =>
                    mIdx rows6 x80_100 1 fun (x90_105 : Addr) =>
                    mSt x90_105 (.slice x89_104.p x89_104.n x89_104.c) <|
                    K_signalboxlaw10_MailboxPlays_34 rooms0 b5 rows6 a8 in9 t33 t34 t35) (
                    mLdI .i64 (a8.add 1) fun (x83 : Int) =>
                    mIdx rows6 x83 1 fun (x84 : Addr) =>
                    mAnd (
                      mLdI .i64 (a8.add 1) fun (x80_95 : Int) =>
                      mLdL x84 fun (x85_96 : Sl) =>
                      mApp 3 1 8 #[.int .i64 (0 : Int)] x85_96 ⟨(some x88), 1, 1⟩ fun (x89_97 : Sl) =>
                      mIdx rows6 x80_95 1 fun (x90_98 : Addr) =>
                      mSt x90_98 (.slice x89_97.p x89_97.n x89_97.c) <|
                      K_signalboxlaw10_MailboxPlays_34 rooms0 b5 rows6 a8 in9 t33 t34 t35) (
                      mLdL x84 fun (x85 : Sl) =>
                      mAnd (
                        mLdI .i64 (a8.add 1) fun (x80_91 : Int) =>
                        mApp 3 1 8 #[.int .i64 (0 : Int)] x85 ⟨(some x88), 1, 1⟩ fun (x89_92 : Sl) =>
                        mIdx rows6 x80_91 1 fun (x90_93 : Addr) =>
                        mSt x90_93 (.slice x89_92.p x89_92.n x89_92.c) <|
                        K_signalboxlaw10_MailboxPlays_34 rooms0 b5 rows6 a8 in9 t33 t34 t35) (
                        mApp 3 1 8 #[.int .i64 (0 : Int)] x85 ⟨(some x88), 1, 1⟩ fun (x89 : Sl) =>
                        mLdI .i64 (a8.add 1) fun (x80 : Int) =>
                        mIdx rows6 x80 1 fun (x90 : Addr) =>
                        mSt x90 (.slice x89.p x89.n x89.c) <|
                        K_signalboxlaw10_MailboxPlays_34 rooms0 b5 rows6 a8 in9 t33 t34 t35)))))))))))
def B_signalboxlaw10_MailboxPlays_34 (rooms0 : Sl) (b5 : Option Addr) (rows6 : Sl) (a8 : Addr) (in9 : Bool) (t33 : Sl) (t34 : Int) (t35 : Int) : M Value :=
  mIf in9 (
    mLdI .i64 (a8.add 1) fun (x176 : Int) =>
    mBind (N_mailbox_Boxes_All b5 x176) fun r177 =>
    unL r177 fun (x177 : Sl) =>
    mLdI .i64 (a8.add 1) fun (x182 : Int) =>
    mIdx rows6 x182 1 fun (x183 : Addr) =>
    mLdL x183 fun (x184 : Sl) =>
    mIf ((x177.n : Int) != (x184.n : Int)) (
      mRet (.bool false)) (
      K_signalboxlaw10_MailboxPlays_39 rooms0 b5 rows6 a8 x177 t33 t34 t35 (x177.n : Int) (0 : Int))) (
    K_signalboxlaw10_MailboxPlays_8 rooms0 b5 rows6 t33 t34 (IntKind.i64.wrap (t35 + (1 : Int))))
def B_signalboxlaw10_MailboxPlays_39 (rooms0 : Sl) (b5 : Option Addr) (rows6 : Sl) (a8 : Addr) (all13 : Sl) (t33 : Sl) (t34 : Int) (t35 : Int) (t188 : Int) (t189 : Int) : M Value :=
  mIf (decide (t189 < t188)) (
    mIdx all13 t189 1 fun (x194 : Addr) =>
    mLdI .i64 x194 fun (x195 : Int) =>
    mLdI .i64 (a8.add 1) fun (x198 : Int) =>
    mIdx rows6 x198 1 fun (x199 : Addr) =>
    mLdL x199 fun (x200 : Sl) =>
    mIdx x200 t189 1 fun (x202 : Addr) =>
    mLdI .i64 x202 fun (x203 : Int) =>
    mIf (x195 != x203) (
      mRet (.bool false)) (
      K_signalboxlaw10_MailboxPlays_39 rooms0 b5 rows6 a8 all13 t33 t34 t35 t188 (IntKind.i64.wrap (t189 + (1 : Int))))) (
    K_signalboxlaw10_MailboxPlays_8 rooms0 b5 rows6 t33 t34 (IntKind.i64.wrap (t35 + (1 : Int))))
theorem E_signalboxlaw10_MailboxPlays (rooms0 : Sl) (l1 : Sl) : ev Try.prog 4 Try.f4.results.toList C_signalboxlaw10_MailboxPlays D_signalboxlaw10_MailboxPlays 400 false [.code (bodyOf Try.f4)] (List.map some [.slice rooms0.p rooms0.n rooms0.c, .slice l1.p l1.n l1.c] ++ List.replicate (Try.f4.ntmps - List.length ([.slice rooms0.p rooms0.n rooms0.c, .slice l1.p l1.n l1.c] : List Value)) none) = B_signalboxlaw10_MailboxPlays rooms0 l1 := by kernel_rfl
theorem S_signalboxlaw10_MailboxPlays (rooms0 : Sl) (l1 : Sl) {h : Hp} {Q : Value → Hp → Prop} (hb : B_signalboxlaw10_MailboxPlays rooms0 l1 h Q) : N_signalboxlaw10_MailboxPlays rooms0 l1 h Q :=
  Nf.of_ev Try.call4 Try.func4 (c := bodyOf Try.f4) rfl mixed C_signalboxlaw10_MailboxPlays D_signalboxlaw10_MailboxPlays 400 (args := [.slice rooms0.p rooms0.n rooms0.c, .slice l1.p l1.n l1.c]) (by rw [E_signalboxlaw10_MailboxPlays]; exact hb)
theorem E_signalboxlaw10_MailboxPlays_8 (rooms0 : Sl) (b5 : Option Addr) (rows6 : Sl) (t33 : Sl) (t34 : Int) (t35 : Int) : ev Try.prog 4 Try.f4.results.toList C_signalboxlaw10_MailboxPlays D_signalboxlaw10_MailboxPlays 400 true (todoOf Try.f4 8) (T_signalboxlaw10_MailboxPlays_8 rooms0 b5 rows6 t33 t34 t35) = B_signalboxlaw10_MailboxPlays_8 rooms0 b5 rows6 t33 t34 t35 := by kernel_rfl
theorem S_signalboxlaw10_MailboxPlays_8 (rooms0 : Sl) (b5 : Option Addr) (rows6 : Sl) (t33 : Sl) (t34 : Int) (t35 : Int) {h : Hp} {Q : Value → Hp → Prop} (hb : B_signalboxlaw10_MailboxPlays_8 rooms0 b5 rows6 t33 t34 t35 h Q) : K_signalboxlaw10_MailboxPlays_8 rooms0 b5 rows6 t33 t34 t35 h Q :=
  Cut.of_ev Try.func4 mixed C_signalboxlaw10_MailboxPlays D_signalboxlaw10_MailboxPlays 400 (by rw [E_signalboxlaw10_MailboxPlays_8]; exact hb)
theorem E_signalboxlaw10_MailboxPlays_17 (rooms0 : Sl) (b5 : Option Addr) (rows6 : Sl) (a8 : Addr) (in9 : Bool) (room10 : Int) (t33 : Sl) (t34 : Int) (t35 : Int) : ev Try.prog 4 Try.f4.results.toList C_signalboxlaw10_MailboxPlays D_signalboxlaw10_MailboxPlays 400 true (todoOf Try.f4 17) (T_signalboxlaw10_MailboxPlays_17 rooms0 b5 rows6 a8 in9 room10 t33 t34 t35) = B_signalboxlaw10_MailboxPlays_17 rooms0 b5 rows6 a8 in9 room10 t33 t34 t35 := by kernel_rfl
theorem S_signalboxlaw10_MailboxPlays_17 (rooms0 : Sl) (b5 : Option Addr) (rows6 : Sl) (a8 : Addr) (in9 : Bool) (room10 : Int) (t33 : Sl) (t34 : Int) (t35 : Int) {h : Hp} {Q : Value → Hp → Prop} (hb : B_signalboxlaw10_MailboxPlays_17 rooms0 b5 rows6 a8 in9 room10 t33 t34 t35 h Q) : K_signalboxlaw10_MailboxPlays_17 rooms0 b5 rows6 a8 in9 room10 t33 t34 t35 h Q :=
  Cut.of_ev Try.func4 mixed C_signalboxlaw10_MailboxPlays D_signalboxlaw10_MailboxPlays 400 (by rw [E_signalboxlaw10_MailboxPlays_17]; exact hb)
theorem E_signalboxlaw10_MailboxPlays_34 (rooms0 : Sl) (b5 : Option Addr) (rows6 : Sl) (a8 : Addr) (in9 : Bool) (t33 : Sl) (t34 : Int) (t35 : Int) : ev Try.prog 4 Try.f4.results.toList C_signalboxlaw10_MailboxPlays D_signalboxlaw10_MailboxPlays 400 true (todoOf Try.f4 34) (T_signalboxlaw10_MailboxPlays_34 rooms0 b5 rows6 a8 in9 t33 t34 t35) = B_signalboxlaw10_MailboxPlays_34 rooms0 b5 rows6 a8 in9 t33 t34 t35 := by kernel_rfl
theorem S_signalboxlaw10_MailboxPlays_34 (rooms0 : Sl) (b5 : Option Addr) (rows6 : Sl) (a8 : Addr) (in9 : Bool) (t33 : Sl) (t34 : Int) (t35 : Int) {h : Hp} {Q : Value → Hp → Prop} (hb : B_signalboxlaw10_MailboxPlays_34 rooms0 b5 rows6 a8 in9 t33 t34 t35 h Q) : K_signalboxlaw10_MailboxPlays_34 rooms0 b5 rows6 a8 in9 t33 t34 t35 h Q :=
  Cut.of_ev Try.func4 mixed C_signalboxlaw10_MailboxPlays D_signalboxlaw10_MailboxPlays 400 (by rw [E_signalboxlaw10_MailboxPlays_34]; exact hb)
theorem E_signalboxlaw10_MailboxPlays_39 (rooms0 : Sl) (b5 : Option Addr) (rows6 : Sl) (a8 : Addr) (all13 : Sl) (t33 : Sl) (t34 : Int) (t35 : Int) (t188 : Int) (t189 : Int) : ev Try.prog 4 Try.f4.results.toList C_signalboxlaw10_MailboxPlays D_signalboxlaw10_MailboxPlays 400 true (todoOf Try.f4 39) (T_signalboxlaw10_MailboxPlays_39 rooms0 b5 rows6 a8 all13 t33 t34 t35 t188 t189) = B_signalboxlaw10_MailboxPlays_39 rooms0 b5 rows6 a8 all13 t33 t34 t35 t188 t189 := by kernel_rfl
theorem S_signalboxlaw10_MailboxPlays_39 (rooms0 : Sl) (b5 : Option Addr) (rows6 : Sl) (a8 : Addr) (all13 : Sl) (t33 : Sl) (t34 : Int) (t35 : Int) (t188 : Int) (t189 : Int) {h : Hp} {Q : Value → Hp → Prop} (hb : B_signalboxlaw10_MailboxPlays_39 rooms0 b5 rows6 a8 all13 t33 t34 t35 t188 t189 h Q) : K_signalboxlaw10_MailboxPlays_39 rooms0 b5 rows6 a8 all13 t33 t34 t35 t188 t189 h Q :=
  Cut.of_ev Try.func4 mixed C_signalboxlaw10_MailboxPlays D_signalboxlaw10_MailboxPlays 400 (by rw [E_signalboxlaw10_MailboxPlays_39]; exact hb)
end Go.Proofs.Ytjifoicncenfpaa
