/- What the functions of this layer come to, as forms of the small logic; written by program. Conditions: none. -/
import Derived.Test.YtkmenmagclojmaaSbU
import Derived.Test.YtkmenmagclojmaaChecked
import Derived.KernelRfl
set_option maxRecDepth 100000
namespace Go.Proofs.Ytkmenmagclojmaa
open Go Go.Sb
theorem mixed : Try.prog.follows .mixedOrders = true := by kernel_rfl
def N_signalboxlaw03_fixed : M Value := Nf Try.prog 42 #[]
def N_ring_New_string (room0 : Int) : M Value := Nf Try.prog 43 #[.int .i64 room0]
def N_ring_Ring_string_Put (r0 : Option Addr) (x1 : ByteArray) : M Value := Nf Try.prog 44 #[.pointer r0, .string x1]
def N_ring_Ring_string_Take (r0 : Option Addr) : M Value := Nf Try.prog 45 #[.pointer r0]
def N_ring_Ring_string_Len (r0 : Option Addr) : M Value := Nf Try.prog 46 #[.pointer r0]
def N_ring_Ring_string_at (r0 : Option Addr) (i1 : Int) : M Value := Nf Try.prog 71 #[.pointer r0, .int .i64 i1]
def N_ring_Ring_string_First (r0 : Option Addr) : M Value := Nf Try.prog 72 #[.pointer r0]
def N_ring_New_int (room0 : Int) : M Value := Nf Try.prog 57 #[.int .i64 room0]
def N_ring_Ring_int_Take (r0 : Option Addr) : M Value := Nf Try.prog 58 #[.pointer r0]
def N_ring_Ring_int_First (r0 : Option Addr) : M Value := Nf Try.prog 59 #[.pointer r0]
def N_ring_Ring_int_Put (r0 : Option Addr) (x1 : Int) : M Value := Nf Try.prog 60 #[.pointer r0, .int .i64 x1]
def N_ring_Ring_int_Len (r0 : Option Addr) : M Value := Nf Try.prog 61 #[.pointer r0]
def N_ring_Ring_int_Room (r0 : Option Addr) : M Value := Nf Try.prog 62 #[.pointer r0]
def N_ring_Ring_int_All (r0 : Option Addr) : M Value := Nf Try.prog 63 #[.pointer r0]
def N_ring_Ring_int_at (r0 : Option Addr) (i1 : Int) : M Value := Nf Try.prog 76 #[.pointer r0, .int .i64 i1]
def N_signalboxlaw03_RingTexts (l0 : Sl) (room1 : Int) : M Value := Nf Try.prog 10 #[.slice l0.p l0.n l0.c, .int .u8 room1]
def N_signalboxlaw03_RingPlays (room0 : Int) (l1 : Sl) (take2 : Sl) : M Value := Nf Try.prog 14 #[.int .i64 room0, .slice l1.p l1.n l1.c, .slice take2.p take2.n take2.c]
def C_signalboxlaw03_fixed : List (Nat × List Nat) := []
def D_signalboxlaw03_fixed : List (Nat × List Nat) := []
def B_signalboxlaw03_fixed : M Value :=
  mBind (N_ring_New_int (1 : Int)) fun r8 =>
  unP r8 fun (x8 : Option Addr) =>
  mBind (N_ring_Ring_int_Put x8 (7 : Int)) fun r10 =>
  unI .i64 r10 fun (x10 : Int) =>
  mBind (N_ring_Ring_int_Put x8 (8 : Int)) fun r12 =>
  unI .i64 r12 fun (x12 : Int) =>
  mBind (N_ring_Ring_int_Take x8) fun r15 =>
  un2 (unI .i64) (unI .i64) r15 fun (x15_0 : Int) (x15_1 : Int) =>
  mBind (N_ring_Ring_int_Take x8) fun r20 =>
  un2 (unI .i64) (unI .i64) r20 fun (_x20_0 : Int) (x20_1 : Int) =>
  mBind (mIf (((((x10 == (0 : Int)) && (x12 == (7 : Int))) && (x15_0 == (7 : Int))) && (x15_1 == (0 : Int))) && (x20_1 == (8 : Int))) (mBind (N_ring_Ring_int_Room x8) fun r43 =>
    unI .i64 r43 fun (x43 : Int) =>
    mRet (x43 == (1 : Int))) (mRet false)) fun (b7 : Bool) =>
  mBind (mIf b7 (mBind (N_ring_New_int (-1 : Int)) fun r47 =>
    unP r47 fun (x47 : Option Addr) =>
    mRet x47.isNone) (mRet false)) fun (b9 : Bool) =>
  mRet (.bool b9)
theorem E_signalboxlaw03_fixed : ev Try.prog 42 Try.f42.results.toList C_signalboxlaw03_fixed D_signalboxlaw03_fixed 400 false [.code (bodyOf Try.f42)] (List.map some [] ++ List.replicate (Try.f42.ntmps - List.length ([] : List Value)) none) = B_signalboxlaw03_fixed := by kernel_rfl
theorem S_signalboxlaw03_fixed {h : Hp} {Q : Value → Hp → Prop} (hb : B_signalboxlaw03_fixed h Q) : N_signalboxlaw03_fixed h Q :=
  Nf.of_ev Try.call42 Try.func42 (c := bodyOf Try.f42) rfl mixed C_signalboxlaw03_fixed D_signalboxlaw03_fixed 400 (args := []) (by rw [E_signalboxlaw03_fixed]; exact hb)
def C_ring_New_string : List (Nat × List Nat) := []
def D_ring_New_string : List (Nat × List Nat) := []
def B_ring_New_string (room0 : Int) : M Value :=
  mIf ((decide (room0 < (0 : Int))) || (decide (room0 > (4096 : Int)))) (
    mRet (.pointer none)) (
    mMake 9 16 #[.string (ByteArray.mk #[])] room0 room0 fun (x10 : Sl) =>
    mNew #[.slice x10.p x10.n x10.c, .int .i64 (0 : Int), .int .i64 (0 : Int)] 123 fun (x12 : Addr) =>
    mRet (.pointer (some x12)))
theorem E_ring_New_string (room0 : Int) : ev Try.prog 43 Try.f43.results.toList C_ring_New_string D_ring_New_string 400 false [.code (bodyOf Try.f43)] (List.map some [.int .i64 room0] ++ List.replicate (Try.f43.ntmps - List.length ([.int .i64 room0] : List Value)) none) = B_ring_New_string room0 := by kernel_rfl
theorem S_ring_New_string (room0 : Int) {h : Hp} {Q : Value → Hp → Prop} (hb : B_ring_New_string room0 h Q) : N_ring_New_string room0 h Q :=
  Nf.of_ev Try.call43 Try.func43 (c := bodyOf Try.f43) rfl mixed C_ring_New_string D_ring_New_string 400 (args := [.int .i64 room0]) (by rw [E_ring_New_string]; exact hb)
def C_ring_Ring_string_Put : List (Nat × List Nat) := []
def D_ring_Ring_string_Put : List (Nat × List Nat) := []
def B_ring_Ring_string_Put (r0 : Option Addr) (x1 : ByteArray) : M Value :=
  mIf r0.isNone (
    mRet (.int .i64 (1 : Int))) (
    mNil r0 fun (a2 : Addr) =>
    mLdI .i64 (a2.add 2) fun (x12 : Int) =>
    mNil r0 fun (a6 : Addr) =>
    mLdL a6 fun (x16 : Sl) =>
    mIf (x12 == (x16.n : Int)) (
      mRet (.int .i64 (7 : Int))) (
      mNil r0 fun (a10 : Addr) =>
      mLdI .i64 (a10.add 2) fun (x23 : Int) =>
      mBind (N_ring_Ring_string_at r0 x23) fun r24 =>
      unP r24 fun (x24 : Option Addr) =>
      mNil x24 fun (a15 : Addr) =>
      mSt a15 (.string x1) <|
      mNil r0 fun (a18 : Addr) =>
      mLdI .i64 (a18.add 2) fun (x30 : Int) =>
      mNil r0 fun (a22 : Addr) =>
      mSt (a22.add 2) (.int .i64 (IntKind.i64.wrap (x30 + (1 : Int)))) <|
      mRet (.int .i64 (0 : Int))))
theorem E_ring_Ring_string_Put (r0 : Option Addr) (x1 : ByteArray) : ev Try.prog 44 Try.f44.results.toList C_ring_Ring_string_Put D_ring_Ring_string_Put 400 false [.code (bodyOf Try.f44)] (List.map some [.pointer r0, .string x1] ++ List.replicate (Try.f44.ntmps - List.length ([.pointer r0, .string x1] : List Value)) none) = B_ring_Ring_string_Put r0 x1 := by kernel_rfl
theorem S_ring_Ring_string_Put (r0 : Option Addr) (x1 : ByteArray) {h : Hp} {Q : Value → Hp → Prop} (hb : B_ring_Ring_string_Put r0 x1 h Q) : N_ring_Ring_string_Put r0 x1 h Q :=
  Nf.of_ev Try.call44 Try.func44 (c := bodyOf Try.f44) rfl mixed C_ring_Ring_string_Put D_ring_Ring_string_Put 400 (args := [.pointer r0, .string x1]) (by rw [E_ring_Ring_string_Put]; exact hb)
def C_ring_Ring_string_Take : List (Nat × List Nat) := []
def D_ring_Ring_string_Take : List (Nat × List Nat) := [(6, [0, 1, 2, 3, 4, 5, 6, 7, 8, 9, 10, 11])]
def B_ring_Ring_string_Take (r0 : Option Addr) : M Value :=
  mBind (N_ring_Ring_string_First r0) fun r9 =>
  un2 unS unB r9 fun (x9_0 : ByteArray) (x9_1 : Bool) =>
  mIf (!x9_1) (
    mRet (.tuple #[.string (ByteArray.mk #[]), .int .i64 (8 : Int)])) (
    mBind (N_ring_Ring_string_at r0 (0 : Int)) fun r16 =>
    unP r16 fun (x16 : Option Addr) =>
    mNil x16 fun (a4 : Addr) =>
    mSt a4 (.string (ByteArray.mk #[])) <|
    mNil r0 fun (a7 : Addr) =>
    mLdI .i64 (a7.add 1) fun (x23 : Int) =>
    mNil r0 fun (a11 : Addr) =>
    mLdL a11 fun (x28 : Sl) =>
    mGuard ((x28.n : Int) ≠ 0) <|
    mNil r0 fun (a16 : Addr) =>
    mSt (a16.add 1) (.int .i64 (Int.tmod (IntKind.i64.wrap (x23 + (1 : Int))) (x28.n : Int))) <|
    mNil r0 fun (a20 : Addr) =>
    mLdI .i64 (a20.add 2) fun (x36 : Int) =>
    mNil r0 fun (a24 : Addr) =>
    mSt (a24.add 2) (.int .i64 (IntKind.i64.wrap (x36 - (1 : Int)))) <|
    mRet (.tuple #[.string x9_0, .int .i64 (0 : Int)]))
theorem E_ring_Ring_string_Take (r0 : Option Addr) : ev Try.prog 45 Try.f45.results.toList C_ring_Ring_string_Take D_ring_Ring_string_Take 400 false [.code (bodyOf Try.f45)] (List.map some [.pointer r0] ++ List.replicate (Try.f45.ntmps - List.length ([.pointer r0] : List Value)) none) = B_ring_Ring_string_Take r0 := by kernel_rfl
theorem S_ring_Ring_string_Take (r0 : Option Addr) {h : Hp} {Q : Value → Hp → Prop} (hb : B_ring_Ring_string_Take r0 h Q) : N_ring_Ring_string_Take r0 h Q :=
  Nf.of_ev Try.call45 Try.func45 (c := bodyOf Try.f45) rfl mixed C_ring_Ring_string_Take D_ring_Ring_string_Take 400 (args := [.pointer r0]) (by rw [E_ring_Ring_string_Take]; exact hb)
def C_ring_Ring_string_Len : List (Nat × List Nat) := []
def D_ring_Ring_string_Len : List (Nat × List Nat) := []
def B_ring_Ring_string_Len (r0 : Option Addr) : M Value :=
  mIf r0.isNone (
    mRet (.int .i64 (0 : Int))) (
    mNil r0 fun (a2 : Addr) =>
    mLdI .i64 (a2.add 2) fun (x8 : Int) =>
    mRet (.int .i64 x8))
theorem E_ring_Ring_string_Len (r0 : Option Addr) : ev Try.prog 46 Try.f46.results.toList C_ring_Ring_string_Len D_ring_Ring_string_Len 400 false [.code (bodyOf Try.f46)] (List.map some [.pointer r0] ++ List.replicate (Try.f46.ntmps - List.length ([.pointer r0] : List Value)) none) = B_ring_Ring_string_Len r0 := by kernel_rfl
theorem S_ring_Ring_string_Len (r0 : Option Addr) {h : Hp} {Q : Value → Hp → Prop} (hb : B_ring_Ring_string_Len r0 h Q) : N_ring_Ring_string_Len r0 h Q :=
  Nf.of_ev Try.call46 Try.func46 (c := bodyOf Try.f46) rfl mixed C_ring_Ring_string_Len D_ring_Ring_string_Len 400 (args := [.pointer r0]) (by rw [E_ring_Ring_string_Len]; exact hb)
def C_ring_Ring_string_at : List (Nat × List Nat) := []
def D_ring_Ring_string_at : List (Nat × List Nat) := []
def B_ring_Ring_string_at (r0 : Option Addr) (i1 : Int) : M Value :=
  mNil r0 fun (a2 : Addr) =>
  mLdL a2 fun (x8 : Sl) =>
  mNil r0 fun (a6 : Addr) =>
  mLdI .i64 (a6.add 1) fun (x12 : Int) =>
  mNil r0 fun (a10 : Addr) =>
  mLdL a10 fun (x18 : Sl) =>
  mGuard ((x18.n : Int) ≠ 0) <|
  mIdx x8 (Int.tmod (IntKind.i64.wrap (x12 + i1)) (x18.n : Int)) 1 fun (x21 : Addr) =>
  mRet (.pointer (some x21))
theorem E_ring_Ring_string_at (r0 : Option Addr) (i1 : Int) : ev Try.prog 71 Try.f71.results.toList C_ring_Ring_string_at D_ring_Ring_string_at 400 false [.code (bodyOf Try.f71)] (List.map some [.pointer r0, .int .i64 i1] ++ List.replicate (Try.f71.ntmps - List.length ([.pointer r0, .int .i64 i1] : List Value)) none) = B_ring_Ring_string_at r0 i1 := by kernel_rfl
theorem S_ring_Ring_string_at (r0 : Option Addr) (i1 : Int) {h : Hp} {Q : Value → Hp → Prop} (hb : B_ring_Ring_string_at r0 i1 h Q) : N_ring_Ring_string_at r0 i1 h Q :=
  Nf.of_ev Try.call71 Try.func71 (c := bodyOf Try.f71) rfl mixed C_ring_Ring_string_at D_ring_Ring_string_at 400 (args := [.pointer r0, .int .i64 i1]) (by rw [E_ring_Ring_string_at]; exact hb)
def C_ring_Ring_string_First : List (Nat × List Nat) := []
def D_ring_Ring_string_First : List (Nat × List Nat) := []
def B_ring_Ring_string_First (r0 : Option Addr) : M Value :=
  mBind (N_ring_Ring_string_Len r0) fun r5 =>
  unI .i64 r5 fun (x5 : Int) =>
  mIf (x5 == (0 : Int)) (
    mRet (.tuple #[.string (ByteArray.mk #[]), .bool false])) (
    mBind (N_ring_Ring_string_at r0 (0 : Int)) fun r9 =>
    unP r9 fun (x9 : Option Addr) =>
    mNil x9 fun (a4 : Addr) =>
    mLdS a4 fun (x11 : ByteArray) =>
    mRet (.tuple #[.string x11, .bool true]))
theorem E_ring_Ring_string_First (r0 : Option Addr) : ev Try.prog 72 Try.f72.results.toList C_ring_Ring_string_First D_ring_Ring_string_First 400 false [.code (bodyOf Try.f72)] (List.map some [.pointer r0] ++ List.replicate (Try.f72.ntmps - List.length ([.pointer r0] : List Value)) none) = B_ring_Ring_string_First r0 := by kernel_rfl
theorem S_ring_Ring_string_First (r0 : Option Addr) {h : Hp} {Q : Value → Hp → Prop} (hb : B_ring_Ring_string_First r0 h Q) : N_ring_Ring_string_First r0 h Q :=
  Nf.of_ev Try.call72 Try.func72 (c := bodyOf Try.f72) rfl mixed C_ring_Ring_string_First D_ring_Ring_string_First 400 (args := [.pointer r0]) (by rw [E_ring_Ring_string_First]; exact hb)
def C_ring_New_int : List (Nat × List Nat) := []
def D_ring_New_int : List (Nat × List Nat) := []
def B_ring_New_int (room0 : Int) : M Value :=
  mIf ((decide (room0 < (0 : Int))) || (decide (room0 > (4096 : Int)))) (
    mRet (.pointer none)) (
    mMake 3 8 #[.int .i64 (0 : Int)] room0 room0 fun (x10 : Sl) =>
    mNew #[.slice x10.p x10.n x10.c, .int .i64 (0 : Int), .int .i64 (0 : Int)] 133 fun (x12 : Addr) =>
    mRet (.pointer (some x12)))
theorem E_ring_New_int (room0 : Int) : ev Try.prog 57 Try.f57.results.toList C_ring_New_int D_ring_New_int 400 false [.code (bodyOf Try.f57)] (List.map some [.int .i64 room0] ++ List.replicate (Try.f57.ntmps - List.length ([.int .i64 room0] : List Value)) none) = B_ring_New_int room0 := by kernel_rfl
theorem S_ring_New_int (room0 : Int) {h : Hp} {Q : Value → Hp → Prop} (hb : B_ring_New_int room0 h Q) : N_ring_New_int room0 h Q :=
  Nf.of_ev Try.call57 Try.func57 (c := bodyOf Try.f57) rfl mixed C_ring_New_int D_ring_New_int 400 (args := [.int .i64 room0]) (by rw [E_ring_New_int]; exact hb)
def C_ring_Ring_int_Take : List (Nat × List Nat) := []
def D_ring_Ring_int_Take : List (Nat × List Nat) := [(6, [0, 1, 2, 3, 4, 5, 6, 7, 8, 9, 10, 11])]
def B_ring_Ring_int_Take (r0 : Option Addr) : M Value :=
  mBind (N_ring_Ring_int_First r0) fun r9 =>
  un2 (unI .i64) unB r9 fun (x9_0 : Int) (x9_1 : Bool) =>
  mIf (!x9_1) (
    mRet (.tuple #[.int .i64 (0 : Int), .int .i64 (8 : Int)])) (
    mBind (N_ring_Ring_int_at r0 (0 : Int)) fun r16 =>
    unP r16 fun (x16 : Option Addr) =>
    mNil x16 fun (a4 : Addr) =>
    mSt a4 (.int .i64 (0 : Int)) <|
    mNil r0 fun (a7 : Addr) =>
    mLdI .i64 (a7.add 1) fun (x23 : Int) =>
    mNil r0 fun (a11 : Addr) =>
    mLdL a11 fun (x28 : Sl) =>
    mGuard ((x28.n : Int) ≠ 0) <|
    mNil r0 fun (a16 : Addr) =>
    mSt (a16.add 1) (.int .i64 (Int.tmod (IntKind.i64.wrap (x23 + (1 : Int))) (x28.n : Int))) <|
    mNil r0 fun (a20 : Addr) =>
    mLdI .i64 (a20.add 2) fun (x36 : Int) =>
    mNil r0 fun (a24 : Addr) =>
    mSt (a24.add 2) (.int .i64 (IntKind.i64.wrap (x36 - (1 : Int)))) <|
    mRet (.tuple #[.int .i64 x9_0, .int .i64 (0 : Int)]))
theorem E_ring_Ring_int_Take (r0 : Option Addr) : ev Try.prog 58 Try.f58.results.toList C_ring_Ring_int_Take D_ring_Ring_int_Take 400 false [.code (bodyOf Try.f58)] (List.map some [.pointer r0] ++ List.replicate (Try.f58.ntmps - List.length ([.pointer r0] : List Value)) none) = B_ring_Ring_int_Take r0 := by kernel_rfl
theorem S_ring_Ring_int_Take (r0 : Option Addr) {h : Hp} {Q : Value → Hp → Prop} (hb : B_ring_Ring_int_Take r0 h Q) : N_ring_Ring_int_Take r0 h Q :=
  Nf.of_ev Try.call58 Try.func58 (c := bodyOf Try.f58) rfl mixed C_ring_Ring_int_Take D_ring_Ring_int_Take 400 (args := [.pointer r0]) (by rw [E_ring_Ring_int_Take]; exact hb)
def C_ring_Ring_int_First : List (Nat × List Nat) := []
def D_ring_Ring_int_First : List (Nat × List Nat) := []
def B_ring_Ring_int_First (r0 : Option Addr) : M Value :=
  mBind (N_ring_Ring_int_Len r0) fun r5 =>
  unI .i64 r5 fun (x5 : Int) =>
  mIf (x5 == (0 : Int)) (
    mRet (.tuple #[.int .i64 (0 : Int), .bool false])) (
    mBind (N_ring_Ring_int_at r0 (0 : Int)) fun r9 =>
    unP r9 fun (x9 : Option Addr) =>
    mNil x9 fun (a4 : Addr) =>
    mLdI .i64 a4 fun (x11 : Int) =>
    mRet (.tuple #[.int .i64 x11, .bool true]))
theorem E_ring_Ring_int_First (r0 : Option Addr) : ev Try.prog 59 Try.f59.results.toList C_ring_Ring_int_First D_ring_Ring_int_First 400 false [.code (bodyOf Try.f59)] (List.map some [.pointer r0] ++ List.replicate (Try.f59.ntmps - List.length ([.pointer r0] : List Value)) none) = B_ring_Ring_int_First r0 := by kernel_rfl
theorem S_ring_Ring_int_First (r0 : Option Addr) {h : Hp} {Q : Value → Hp → Prop} (hb : B_ring_Ring_int_First r0 h Q) : N_ring_Ring_int_First r0 h Q :=
  Nf.of_ev Try.call59 Try.func59 (c := bodyOf Try.f59) rfl mixed C_ring_Ring_int_First D_ring_Ring_int_First 400 (args := [.pointer r0]) (by rw [E_ring_Ring_int_First]; exact hb)
def C_ring_Ring_int_Put : List (Nat × List Nat) := []
def D_ring_Ring_int_Put : List (Nat × List Nat) := []
def B_ring_Ring_int_Put (r0 : Option Addr) (x1 : Int) : M Value :=
  mIf r0.isNone (
    mRet (.int .i64 (1 : Int))) (
    mNil r0 fun (a2 : Addr) =>
    mLdI .i64 (a2.add 2) fun (x12 : Int) =>
    mNil r0 fun (a6 : Addr) =>
    mLdL a6 fun (x16 : Sl) =>
    mIf (x12 == (x16.n : Int)) (
      mRet (.int .i64 (7 : Int))) (
      mNil r0 fun (a10 : Addr) =>
      mLdI .i64 (a10.add 2) fun (x23 : Int) =>
      mBind (N_ring_Ring_int_at r0 x23) fun r24 =>
      unP r24 fun (x24 : Option Addr) =>
      mNil x24 fun (a15 : Addr) =>
      mSt a15 (.int .i64 x1) <|
      mNil r0 fun (a18 : Addr) =>
      mLdI .i64 (a18.add 2) fun (x30 : Int) =>
      mNil r0 fun (a22 : Addr) =>
      mSt (a22.add 2) (.int .i64 (IntKind.i64.wrap (x30 + (1 : Int)))) <|
      mRet (.int .i64 (0 : Int))))
theorem E_ring_Ring_int_Put (r0 : Option Addr) (x1 : Int) : ev Try.prog 60 Try.f60.results.toList C_ring_Ring_int_Put D_ring_Ring_int_Put 400 false [.code (bodyOf Try.f60)] (List.map some [.pointer r0, .int .i64 x1] ++ List.replicate (Try.f60.ntmps - List.length ([.pointer r0, .int .i64 x1] : List Value)) none) = B_ring_Ring_int_Put r0 x1 := by kernel_rfl
theorem S_ring_Ring_int_Put (r0 : Option Addr) (x1 : Int) {h : Hp} {Q : Value → Hp → Prop} (hb : B_ring_Ring_int_Put r0 x1 h Q) : N_ring_Ring_int_Put r0 x1 h Q :=
  Nf.of_ev Try.call60 Try.func60 (c := bodyOf Try.f60) rfl mixed C_ring_Ring_int_Put D_ring_Ring_int_Put 400 (args := [.pointer r0, .int .i64 x1]) (by rw [E_ring_Ring_int_Put]; exact hb)
def C_ring_Ring_int_Len : List (Nat × List Nat) := []
def D_ring_Ring_int_Len : List (Nat × List Nat) := []
def B_ring_Ring_int_Len (r0 : Option Addr) : M Value :=
  mIf r0.isNone (
    mRet (.int .i64 (0 : Int))) (
    mNil r0 fun (a2 : Addr) =>
    mLdI .i64 (a2.add 2) fun (x8 : Int) =>
    mRet (.int .i64 x8))
theorem E_ring_Ring_int_Len (r0 : Option Addr) : ev Try.prog 61 Try.f61.results.toList C_ring_Ring_int_Len D_ring_Ring_int_Len 400 false [.code (bodyOf Try.f61)] (List.map some [.pointer r0] ++ List.replicate (Try.f61.ntmps - List.length ([.pointer r0] : List Value)) none) = B_ring_Ring_int_Len r0 := by kernel_rfl
theorem S_ring_Ring_int_Len (r0 : Option Addr) {h : Hp} {Q : Value → Hp → Prop} (hb : B_ring_Ring_int_Len r0 h Q) : N_ring_Ring_int_Len r0 h Q :=
  Nf.of_ev Try.call61 Try.func61 (c := bodyOf Try.f61) rfl mixed C_ring_Ring_int_Len D_ring_Ring_int_Len 400 (args := [.pointer r0]) (by rw [E_ring_Ring_int_Len]; exact hb)
def C_ring_Ring_int_Room : List (Nat × List Nat) := []
def D_ring_Ring_int_Room : List (Nat × List Nat) := []
def B_ring_Ring_int_Room (r0 : Option Addr) : M Value :=
  mIf r0.isNone (
    mRet (.int .i64 (0 : Int))) (
    mNil r0 fun (a2 : Addr) =>
    mLdL a2 fun (x8 : Sl) =>
    mRet (.int .i64 (x8.n : Int)))
theorem E_ring_Ring_int_Room (r0 : Option Addr) : ev Try.prog 62 Try.f62.results.toList C_ring_Ring_int_Room D_ring_Ring_int_Room 400 false [.code (bodyOf Try.f62)] (List.map some [.pointer r0] ++ List.replicate (Try.f62.ntmps - List.length ([.pointer r0] : List Value)) none) = B_ring_Ring_int_Room r0 := by kernel_rfl
theorem S_ring_Ring_int_Room (r0 : Option Addr) {h : Hp} {Q : Value → Hp → Prop} (hb : B_ring_Ring_int_Room r0 h Q) : N_ring_Ring_int_Room r0 h Q :=
  Nf.of_ev Try.call62 Try.func62 (c := bodyOf Try.f62) rfl mixed C_ring_Ring_int_Room D_ring_Ring_int_Room 400 (args := [.pointer r0]) (by rw [E_ring_Ring_int_Room]; exact hb)
def C_ring_Ring_int_All : List (Nat × List Nat) := [(3, [0, 3, 6, 7])]
def D_ring_Ring_int_All : List (Nat × List Nat) := []
def T_ring_Ring_int_All_3 (r0 : Option Addr) (out3 : Sl) (t6 : Int) (t7 : Int) : Env := mkEnv [(0, .pointer r0), (3, .slice out3.p out3.n out3.c), (6, .int .i64 t6), (7, .int .i64 t7)] 20 0
def K_ring_Ring_int_All_3 (r0 : Option Addr) (out3 : Sl) (t6 : Int) (t7 : Int) : M Value := Cut Try.prog 63 (todoOf Try.f63 3) (T_ring_Ring_int_All_3 r0 out3 t6 t7)
def B_ring_Ring_int_All (r0 : Option Addr) : M Value :=
  mBind (N_ring_Ring_int_Len r0) fun r6 =>
  unI .i64 r6 fun (x6 : Int) =>
  K_ring_Ring_int_All_3 r0 (Sl.mk none 0 0) x6 (0 : Int)
def B_ring_Ring_int_All_3 (r0 : Option Addr) (out3 : Sl) (t6 : Int) (t7 : Int) : M Value :=
  mIf (decide (t7 < t6)) (
    mBind (N_ring_Ring_int_at r0 t7) fun r13 =>
    unP r13 fun (x13 : Option Addr) =>
    mNil x13 fun (a4 : Addr) =>
    mLdI .i64 a4 fun (x15 : Int) =>
    mNew #[.int .i64 x15] 3 fun (x16 : Addr) =>
    mApp 3 1 8 #[.int .i64 (0 : Int)] out3 ⟨(some x16), 1, 1⟩ fun (x17 : Sl) =>
    K_ring_Ring_int_All_3 r0 x17 t6 (IntKind.i64.wrap (t7 + (1 : Int)))) (
    mRet (.slice out3.p out3.n out3.c))
theorem E_ring_Ring_int_All (r0 : Option Addr) : ev Try.prog 63 Try.f63.results.toList C_ring_Ring_int_All D_ring_Ring_int_All 400 false [.code (bodyOf Try.f63)] (List.map some [.pointer r0] ++ List.replicate (Try.f63.ntmps - List.length ([.pointer r0] : List Value)) none) = B_ring_Ring_int_All r0 := by kernel_rfl
theorem S_ring_Ring_int_All (r0 : Option Addr) {h : Hp} {Q : Value → Hp → Prop} (hb : B_ring_Ring_int_All r0 h Q) : N_ring_Ring_int_All r0 h Q :=
  Nf.of_ev Try.call63 Try.func63 (c := bodyOf Try.f63) rfl mixed C_ring_Ring_int_All D_ring_Ring_int_All 400 (args := [.pointer r0]) (by rw [E_ring_Ring_int_All]; exact hb)
theorem E_ring_Ring_int_All_3 (r0 : Option Addr) (out3 : Sl) (t6 : Int) (t7 : Int) : ev Try.prog 63 Try.f63.results.toList C_ring_Ring_int_All D_ring_Ring_int_All 400 true (todoOf Try.f63 3) (T_ring_Ring_int_All_3 r0 out3 t6 t7) = B_ring_Ring_int_All_3 r0 out3 t6 t7 := by kernel_rfl
theorem S_ring_Ring_int_All_3 (r0 : Option Addr) (out3 : Sl) (t6 : Int) (t7 : Int) {h : Hp} {Q : Value → Hp → Prop} (hb : B_ring_Ring_int_All_3 r0 out3 t6 t7 h Q) : K_ring_Ring_int_All_3 r0 out3 t6 t7 h Q :=
  Cut.of_ev Try.func63 mixed C_ring_Ring_int_All D_ring_Ring_int_All 400 (by rw [E_ring_Ring_int_All_3]; exact hb)
def C_ring_Ring_int_at : List (Nat × List Nat) := []
def D_ring_Ring_int_at : List (Nat × List Nat) := []
def B_ring_Ring_int_at (r0 : Option Addr) (i1 : Int) : M Value :=
  mNil r0 fun (a2 : Addr) =>
  mLdL a2 fun (x8 : Sl) =>
  mNil r0 fun (a6 : Addr) =>
  mLdI .i64 (a6.add 1) fun (x12 : Int) =>
  mNil r0 fun (a10 : Addr) =>
  mLdL a10 fun (x18 : Sl) =>
  mGuard ((x18.n : Int) ≠ 0) <|
  mIdx x8 (Int.tmod (IntKind.i64.wrap (x12 + i1)) (x18.n : Int)) 1 fun (x21 : Addr) =>
  mRet (.pointer (some x21))
theorem E_ring_Ring_int_at (r0 : Option Addr) (i1 : Int) : ev Try.prog 76 Try.f76.results.toList C_ring_Ring_int_at D_ring_Ring_int_at 400 false [.code (bodyOf Try.f76)] (List.map some [.pointer r0, .int .i64 i1] ++ List.replicate (Try.f76.ntmps - List.length ([.pointer r0, .int .i64 i1] : List Value)) none) = B_ring_Ring_int_at r0 i1 := by kernel_rfl
theorem S_ring_Ring_int_at (r0 : Option Addr) (i1 : Int) {h : Hp} {Q : Value → Hp → Prop} (hb : B_ring_Ring_int_at r0 i1 h Q) : N_ring_Ring_int_at r0 i1 h Q :=
  Nf.of_ev Try.call76 Try.func76 (c := bodyOf Try.f76) rfl mixed C_ring_Ring_int_at D_ring_Ring_int_at 400 (args := [.pointer r0, .int .i64 i1]) (by rw [E_ring_Ring_int_at]; exact hb)
def C_signalboxlaw03_RingTexts : List (Nat × List Nat) := [(8, [0, 5, 6, 23, 24, 25]), (14, [5, 6, 39, 40, 41])]
def D_signalboxlaw03_RingTexts : List (Nat × List Nat) := []
def T_signalboxlaw03_RingTexts_8 (l0 : Sl) (n5 : Int) (r6 : Option Addr) (t23 : Sl) (t24 : Int) (t25 : Int) : Env := mkEnv [(0, .slice l0.p l0.n l0.c), (5, .int .i64 n5), (6, .pointer r6), (23, .slice t23.p t23.n t23.c), (24, .int .i64 t24), (25, .int .i64 t25)] 76 0
def K_signalboxlaw03_RingTexts_8 (l0 : Sl) (n5 : Int) (r6 : Option Addr) (t23 : Sl) (t24 : Int) (t25 : Int) : M Value := Cut Try.prog 10 (todoOf Try.f10 8) (T_signalboxlaw03_RingTexts_8 l0 n5 r6 t23 t24 t25)
def T_signalboxlaw03_RingTexts_14 (n5 : Int) (r6 : Option Addr) (t39 : Sl) (t40 : Int) (t41 : Int) : Env := mkEnv [(5, .int .i64 n5), (6, .pointer r6), (39, .slice t39.p t39.n t39.c), (40, .int .i64 t40), (41, .int .i64 t41)] 76 0
def K_signalboxlaw03_RingTexts_14 (n5 : Int) (r6 : Option Addr) (t39 : Sl) (t40 : Int) (t41 : Int) : M Value := Cut Try.prog 10 (todoOf Try.f10 14) (T_signalboxlaw03_RingTexts_14 n5 r6 t39 t40 t41)
def B_signalboxlaw03_RingTexts (l0 : Sl) (room1 : Int) : M Value :=
  mBind (N_signalboxlaw03_fixed) fun r13 =>
  unB r13 fun (x13 : Bool) =>
  mIf (!x13) (
    mRet (.bool false)) (
    mIf (decide ((l0.n : Int) > (100 : Int))) (
      mRet (.bool true)) (
      mGuard ((40 : Int) ≠ 0) <|
      mBind (N_ring_New_string (IntKind.i64.wrap (Int.tmod room1 (40 : Int)))) fun r22 =>
      unP r22 fun (x22 : Option Addr) =>
      K_signalboxlaw03_RingTexts_8 l0 (IntKind.i64.wrap (Int.tmod room1 (40 : Int))) x22 l0 (l0.n : Int) (0 : Int)))
def B_signalboxlaw03_RingTexts_8 (l0 : Sl) (n5 : Int) (r6 : Option Addr) (t23 : Sl) (t24 : Int) (t25 : Int) : M Value :=
  mIf (decide (t25 < t24)) (
    mIdx t23 t25 1 fun (x28 : Addr) =>
    mLdS x28 fun (x29 : ByteArray) =>
    mBind (N_ring_Ring_string_Put r6 x29) fun r32 =>
    unI .i64 r32 fun (x32 : Int) =>
    mIf (!((x32 == (0 : Int)) == (decide (t25 < n5)))) (
      mRet (.bool false)) (
      K_signalboxlaw03_RingTexts_8 l0 n5 r6 t23 t24 (IntKind.i64.wrap (t25 + (1 : Int))))) (
    K_signalboxlaw03_RingTexts_14 n5 r6 l0 (l0.n : Int) (0 : Int))
def B_signalboxlaw03_RingTexts_14 (n5 : Int) (r6 : Option Addr) (t39 : Sl) (t40 : Int) (t41 : Int) : M Value :=
  mIf (decide (t41 < t40)) (
    mIdx t39 t41 1 fun (x44 : Addr) =>
    mLdS x44 fun (x45 : ByteArray) =>
    mBind (N_ring_Ring_string_Take r6) fun r48 =>
    un2 unS (unI .i64) r48 fun (x48_0 : ByteArray) (x48_1 : Int) =>
    mBind (mIf (decide (t41 < n5)) (mRet ((x48_1 != (0 : Int)) || (!((x48_0).toList == (x45).toList)))) (mRet false)) fun (b10 : Bool) =>
    mBind (mIf b10 (mRet true) (mRet ((decide (t41 ≥ n5)) && (x48_1 != (8 : Int))))) fun (b11 : Bool) =>
    mIf b11 (
      mRet (.bool false)) (
      K_signalboxlaw03_RingTexts_14 n5 r6 t39 t40 (IntKind.i64.wrap (t41 + (1 : Int))))) (
    mBind (N_ring_Ring_string_Len r6) fun r74 =>
    unI .i64 r74 fun (x74 : Int) =>
    mRet (.bool (x74 == (0 : Int))))
theorem E_signalboxlaw03_RingTexts (l0 : Sl) (room1 : Int) : ev Try.prog 10 Try.f10.results.toList C_signalboxlaw03_RingTexts D_signalboxlaw03_RingTexts 400 false [.code (bodyOf Try.f10)] (List.map some [.slice l0.p l0.n l0.c, .int .u8 room1] ++ List.replicate (Try.f10.ntmps - List.length ([.slice l0.p l0.n l0.c, .int .u8 room1] : List Value)) none) = B_signalboxlaw03_RingTexts l0 room1 := by kernel_rfl
theorem S_signalboxlaw03_RingTexts (l0 : Sl) (room1 : Int) {h : Hp} {Q : Value → Hp → Prop} (hb : B_signalboxlaw03_RingTexts l0 room1 h Q) : N_signalboxlaw03_RingTexts l0 room1 h Q :=
  Nf.of_ev Try.call10 Try.func10 (c := bodyOf Try.f10) rfl mixed C_signalboxlaw03_RingTexts D_signalboxlaw03_RingTexts 400 (args := [.slice l0.p l0.n l0.c, .int .u8 room1]) (by rw [E_signalboxlaw03_RingTexts]; exact hb)
theorem E_signalboxlaw03_RingTexts_8 (l0 : Sl) (n5 : Int) (r6 : Option Addr) (t23 : Sl) (t24 : Int) (t25 : Int) : ev Try.prog 10 Try.f10.results.toList C_signalboxlaw03_RingTexts D_signalboxlaw03_RingTexts 400 true (todoOf Try.f10 8) (T_signalboxlaw03_RingTexts_8 l0 n5 r6 t23 t24 t25) = B_signalboxlaw03_RingTexts_8 l0 n5 r6 t23 t24 t25 := by kernel_rfl
theorem S_signalboxlaw03_RingTexts_8 (l0 : Sl) (n5 : Int) (r6 : Option Addr) (t23 : Sl) (t24 : Int) (t25 : Int) {h : Hp} {Q : Value → Hp → Prop} (hb : B_signalboxlaw03_RingTexts_8 l0 n5 r6 t23 t24 t25 h Q) : K_signalboxlaw03_RingTexts_8 l0 n5 r6 t23 t24 t25 h Q :=
  Cut.of_ev Try.func10 mixed C_signalboxlaw03_RingTexts D_signalboxlaw03_RingTexts 400 (by rw [E_signalboxlaw03_RingTexts_8]; exact hb)
theorem E_signalboxlaw03_RingTexts_14 (n5 : Int) (r6 : Option Addr) (t39 : Sl) (t40 : Int) (t41 : Int) : ev Try.prog 10 Try.f10.results.toList C_signalboxlaw03_RingTexts D_signalboxlaw03_RingTexts 400 true (todoOf Try.f10 14) (T_signalboxlaw03_RingTexts_14 n5 r6 t39 t40 t41) = B_signalboxlaw03_RingTexts_14 n5 r6 t39 t40 t41 := by kernel_rfl
theorem S_signalboxlaw03_RingTexts_14 (n5 : Int) (r6 : Option Addr) (t39 : Sl) (t40 : Int) (t41 : Int) {h : Hp} {Q : Value → Hp → Prop} (hb : B_signalboxlaw03_RingTexts_14 n5 r6 t39 t40 t41 h Q) : K_signalboxlaw03_RingTexts_14 n5 r6 t39 t40 t41 h Q :=
  Cut.of_ev Try.func10 mixed C_signalboxlaw03_RingTexts D_signalboxlaw03_RingTexts 400 (by rw [E_signalboxlaw03_RingTexts_14]; exact hb)
def C_signalboxlaw03_RingPlays : List (Nat × List Nat) := [(12, [0, 2, 7, 12, 72, 73, 74]), (27, [0, 2, 7, 12, 72, 73, 74]), (32, [0, 2, 7, 12, 18, 72, 73, 74, 181, 182])]
def D_signalboxlaw03_RingPlays : List (Nat × List Nat) := []
def T_signalboxlaw03_RingPlays_12 (room0 : Int) (take2 : Sl) (r7 : Option Addr) (row12 : Sl) (t72 : Sl) (t73 : Int) (t74 : Int) : Env := mkEnv [(0, .int .i64 room0), (2, .slice take2.p take2.n take2.c), (7, .pointer r7), (12, .slice row12.p row12.n row12.c), (72, .slice t72.p t72.n t72.c), (73, .int .i64 t73), (74, .int .i64 t74)] 196 0
def K_signalboxlaw03_RingPlays_12 (room0 : Int) (take2 : Sl) (r7 : Option Addr) (row12 : Sl) (t72 : Sl) (t73 : Int) (t74 : Int) : M Value := Cut Try.prog 14 (todoOf Try.f14 12) (T_signalboxlaw03_RingPlays_12 room0 take2 r7 row12 t72 t73 t74)
def T_signalboxlaw03_RingPlays_27 (room0 : Int) (take2 : Sl) (r7 : Option Addr) (row12 : Sl) (t72 : Sl) (t73 : Int) (t74 : Int) : Env := mkEnv [(0, .int .i64 room0), (2, .slice take2.p take2.n take2.c), (7, .pointer r7), (12, .slice row12.p row12.n row12.c), (72, .slice t72.p t72.n t72.c), (73, .int .i64 t73), (74, .int .i64 t74)] 196 0
def K_signalboxlaw03_RingPlays_27 (room0 : Int) (take2 : Sl) (r7 : Option Addr) (row12 : Sl) (t72 : Sl) (t73 : Int) (t74 : Int) : M Value := Cut Try.prog 14 (todoOf Try.f14 27) (T_signalboxlaw03_RingPlays_27 room0 take2 r7 row12 t72 t73 t74)
def T_signalboxlaw03_RingPlays_32 (room0 : Int) (take2 : Sl) (r7 : Option Addr) (row12 : Sl) (all18 : Sl) (t72 : Sl) (t73 : Int) (t74 : Int) (t181 : Int) (t182 : Int) : Env := mkEnv [(0, .int .i64 room0), (2, .slice take2.p take2.n take2.c), (7, .pointer r7), (12, .slice row12.p row12.n row12.c), (18, .slice all18.p all18.n all18.c), (72, .slice t72.p t72.n t72.c), (73, .int .i64 t73), (74, .int .i64 t74), (181, .int .i64 t181), (182, .int .i64 t182)] 196 0
def K_signalboxlaw03_RingPlays_32 (room0 : Int) (take2 : Sl) (r7 : Option Addr) (row12 : Sl) (all18 : Sl) (t72 : Sl) (t73 : Int) (t74 : Int) (t181 : Int) (t182 : Int) : M Value := Cut Try.prog 14 (todoOf Try.f14 32) (T_signalboxlaw03_RingPlays_32 room0 take2 r7 row12 all18 t72 t73 t74 t181 t182)
def B_signalboxlaw03_RingPlays (room0 : Int) (l1 : Sl) (take2 : Sl) : M Value :=
  mBind (N_signalboxlaw03_fixed) fun r22 =>
  unB r22 fun (x22 : Bool) =>
  mIf (!x22) (
    mRet (.bool false)) (
    mIf (decide ((l1.n : Int) > (200 : Int))) (
      mRet (.bool true)) (
      mBind (N_ring_New_int room0) fun r28 =>
      unP r28 fun (x28 : Option Addr) =>
      mIf ((decide (room0 < (0 : Int))) || (decide (room0 > (4096 : Int)))) (
        mBind (N_ring_Ring_int_Take x28) fun r37 =>
        un2 (unI .i64) (unI .i64) r37 fun (_x37_0 : Int) (x37_1 : Int) =>
        mBind (N_ring_Ring_int_First x28) fun r42 =>
        un2 (unI .i64) unB r42 fun (_x42_0 : Int) (x42_1 : Bool) =>
        mBind (mIf x28.isNone (mBind (N_ring_Ring_int_Put x28 (1 : Int)) fun r49 =>
          unI .i64 r49 fun (x49 : Int) =>
          mRet (x49 == (1 : Int))) (mRet false)) fun (b6 : Bool) =>
        mBind (mIf ((b6 && (x37_1 == (8 : Int))) && (!x42_1)) (mBind (N_ring_Ring_int_Len x28) fun r62 =>
          unI .i64 r62 fun (x62 : Int) =>
          mBind (N_ring_Ring_int_Room x28) fun r64 =>
          unI .i64 r64 fun (x64 : Int) =>
          mBind (N_ring_Ring_int_All x28) fun r67 =>
          unL r67 fun (x67 : Sl) =>
          mRet ((IntKind.i64.wrap ((IntKind.i64.wrap (x62 + x64)) + (x67.n : Int))) == (0 : Int))) (mRet false)) fun (b10 : Bool) =>
        mRet (.bool b10)) (
        K_signalboxlaw03_RingPlays_12 room0 take2 x28 (Sl.mk none 0 0) l1 (l1.n : Int) (0 : Int))))
def B_signalboxlaw03_RingPlays_12 (room0 : Int) (take2 : Sl) (r7 : Option Addr) (row12 : Sl) (t72 : Sl) (t73 : Int) (t74 : Int) : M Value :=
  mIf (decide (t74 < t73)) (
    mIdx t72 t74 1 fun (x77 : Addr) =>
    mLdI .i64 x77 fun (x78 : Int) =>
    mBind (mIf (decide (t74 < (take2.n : Int))) (mIdx take2 t74 1 fun (x86 : Addr) =>
      mLdB x86 fun (x87 : Bool) =>
      mRet x87) (mRet false)) fun (b15 : Bool) =>
    mIf b15 (
      mBind (N_ring_Ring_int_Take r7) fun r91 =>
      un2 (unI .i64) (unI .i64) r91 fun (x91_0 : Int) (x91_1 : Int) =>
      mIf ((row12.n : Int) == (0 : Int)) (
        mIf ((x91_1 != (8 : Int)) || (x91_0 != (0 : Int))) (
          mRet (.bool false)) (
          K_signalboxlaw03_RingPlays_27 room0 take2 r7 row12 t72 t73 t74)) (
        mBind (mIf (x91_1 != (0 : Int)) (mRet true) (mIdx row12 (0 : Int) 1 fun (x108 : Addr) =>
          mLdI .i64 x108 fun (x109 : Int) =>
          mRet (x91_0 != x109))) fun (b19 : Bool) =>
        mIf b19 (
          mRet (.bool false)) (
          mSlc row12 1 (1 : Int) (row12.n : Int) (row12.c : Int) fun (x113 : Sl) =>
          K_signalboxlaw03_RingPlays_27 room0 take2 r7 x113 t72 t73 t74))) (
      mBind (N_ring_Ring_int_Put r7 x78) fun r116 =>
      unI .i64 r116 fun (x116 : Int) =>
      mBind (mIf (!((x116 == (7 : Int)) == ((row12.n : Int) == room0))) (mRet true) (mRet ((x116 != (0 : Int)) && (x116 != (7 : Int))))) fun (b22 : Bool) =>
      mIf b22 (
        mRet (.bool false)) (
        mIf (x116 == (0 : Int)) (
          mNew #[.int .i64 x78] 3 fun (x136 : Addr) =>
          mApp 3 1 8 #[.int .i64 (0 : Int)] row12 ⟨(some x136), 1, 1⟩ fun (x137 : Sl) =>
          K_signalboxlaw03_RingPlays_27 room0 take2 r7 x137 t72 t73 t74) (
          K_signalboxlaw03_RingPlays_27 room0 take2 r7 row12 t72 t73 t74)))) (
    mRet (.bool true))
def B_signalboxlaw03_RingPlays_27 (room0 : Int) (take2 : Sl) (r7 : Option Addr) (row12 : Sl) (t72 : Sl) (t73 : Int) (t74 : Int) : M Value :=
  mBind (N_ring_Ring_int_All r7) fun r139 =>
  unL r139 fun (x139 : Sl) =>
  mBind (N_ring_Ring_int_First r7) fun r142 =>
  un2 (unI .i64) unB r142 fun (x142_0 : Int) (x142_1 : Bool) =>
  mBind (mIf ((x139.n : Int) != (row12.n : Int)) (mRet true) (mBind (N_ring_Ring_int_Len r7) fun r152 =>
    unI .i64 r152 fun (x152 : Int) =>
    mRet (x152 != (row12.n : Int)))) fun (b28 : Bool) =>
  mBind (mIf b28 (mRet true) (mBind (N_ring_Ring_int_Room r7) fun r159 =>
    unI .i64 r159 fun (x159 : Int) =>
    mRet (x159 != room0))) fun (b30 : Bool) =>
  mBind (mIf (b30 || (!(x142_1 == (decide ((row12.n : Int) > (0 : Int)))))) (mRet true) (mBind (mIf x142_1 (mIdx row12 (0 : Int) 1 fun (x175 : Addr) =>
    mLdI .i64 x175 fun (x176 : Int) =>
    mRet (x142_0 != x176)) (mRet false)) fun (b33 : Bool) =>
    mRet b33)) fun (b34 : Bool) =>
  mIf b34 (
    mRet (.bool false)) (
    K_signalboxlaw03_RingPlays_32 room0 take2 r7 row12 x139 t72 t73 t74 (x139.n : Int) (0 : Int))
def B_signalboxlaw03_RingPlays_32 (room0 : Int) (take2 : Sl) (r7 : Option Addr) (row12 : Sl) (all18 : Sl) (t72 : Sl) (t73 : Int) (t74 : Int) (t181 : Int) (t182 : Int) : M Value :=
  mIf (decide (t182 < t181)) (
    mIdx all18 t182 1 fun (x187 : Addr) =>
    mLdI .i64 x187 fun (x188 : Int) =>
    mIdx row12 t182 1 fun (x191 : Addr) =>
    mLdI .i64 x191 fun (x192 : Int) =>
    mIf (x188 != x192) (
      mRet (.bool false)) (
      K_signalboxlaw03_RingPlays_32 room0 take2 r7 row12 all18 t72 t73 t74 t181 (IntKind.i64.wrap (t182 + (1 : Int))))) (
    K_signalboxlaw03_RingPlays_12 room0 take2 r7 row12 t72 t73 (IntKind.i64.wrap (t74 + (1 : Int))))
theorem E_signalboxlaw03_RingPlays (room0 : Int) (l1 : Sl) (take2 : Sl) : ev Try.prog 14 Try.f14.results.toList C_signalboxlaw03_RingPlays D_signalboxlaw03_RingPlays 400 false [.code (bodyOf Try.f14)] (List.map some [.int .i64 room0, .slice l1.p l1.n l1.c, .slice take2.p take2.n take2.c] ++ List.replicate (Try.f14.ntmps - List.length ([.int .i64 room0, .slice l1.p l1.n l1.c, .slice take2.p take2.n take2.c] : List Value)) none) = B_signalboxlaw03_RingPlays room0 l1 take2 := by kernel_rfl
theorem S_signalboxlaw03_RingPlays (room0 : Int) (l1 : Sl) (take2 : Sl) {h : Hp} {Q : Value → Hp → Prop} (hb : B_signalboxlaw03_RingPlays room0 l1 take2 h Q) : N_signalboxlaw03_RingPlays room0 l1 take2 h Q :=
  Nf.of_ev Try.call14 Try.func14 (c := bodyOf Try.f14) rfl mixed C_signalboxlaw03_RingPlays D_signalboxlaw03_RingPlays 400 (args := [.int .i64 room0, .slice l1.p l1.n l1.c, .slice take2.p take2.n take2.c]) (by rw [E_signalboxlaw03_RingPlays]; exact hb)
theorem E_signalboxlaw03_RingPlays_12 (room0 : Int) (take2 : Sl) (r7 : Option Addr) (row12 : Sl) (t72 : Sl) (t73 : Int) (t74 : Int) : ev Try.prog 14 Try.f14.results.toList C_signalboxlaw03_RingPlays D_signalboxlaw03_RingPlays 400 true (todoOf Try.f14 12) (T_signalboxlaw03_RingPlays_12 room0 take2 r7 row12 t72 t73 t74) = B_signalboxlaw03_RingPlays_12 room0 take2 r7 row12 t72 t73 t74 := by kernel_rfl
theorem S_signalboxlaw03_RingPlays_12 (room0 : Int) (take2 : Sl) (r7 : Option Addr) (row12 : Sl) (t72 : Sl) (t73 : Int) (t74 : Int) {h : Hp} {Q : Value → Hp → Prop} (hb : B_signalboxlaw03_RingPlays_12 room0 take2 r7 row12 t72 t73 t74 h Q) : K_signalboxlaw03_RingPlays_12 room0 take2 r7 row12 t72 t73 t74 h Q :=
  Cut.of_ev Try.func14 mixed C_signalboxlaw03_RingPlays D_signalboxlaw03_RingPlays 400 (by rw [E_signalboxlaw03_RingPlays_12]; exact hb)
theorem E_signalboxlaw03_RingPlays_27 (room0 : Int) (take2 : Sl) (r7 : Option Addr) (row12 : Sl) (t72 : Sl) (t73 : Int) (t74 : Int) : ev Try.prog 14 Try.f14.results.toList C_signalboxlaw03_RingPlays D_signalboxlaw03_RingPlays 400 true (todoOf Try.f14 27) (T_signalboxlaw03_RingPlays_27 room0 take2 r7 row12 t72 t73 t74) = B_signalboxlaw03_RingPlays_27 room0 take2 r7 row12 t72 t73 t74 := by kernel_rfl
theorem S_signalboxlaw03_RingPlays_27 (room0 : Int) (take2 : Sl) (r7 : Option Addr) (row12 : Sl) (t72 : Sl) (t73 : Int) (t74 : Int) {h : Hp} {Q : Value → Hp → Prop} (hb : B_signalboxlaw03_RingPlays_27 room0 take2 r7 row12 t72 t73 t74 h Q) : K_signalboxlaw03_RingPlays_27 room0 take2 r7 row12 t72 t73 t74 h Q :=
  Cut.of_ev Try.func14 mixed C_signalboxlaw03_RingPlays D_signalboxlaw03_RingPlays 400 (by rw [E_signalboxlaw03_RingPlays_27]; exact hb)
theorem E_signalboxlaw03_RingPlays_32 (room0 : Int) (take2 : Sl) (r7 : Option Addr) (row12 : Sl) (all18 : Sl) (t72 : Sl) (t73 : Int) (t74 : Int) (t181 : Int) (t182 : Int) : ev Try.prog 14 Try.f14.results.toList C_signalboxlaw03_RingPlays D_signalboxlaw03_RingPlays 400 true (todoOf Try.f14 32) (T_signalboxlaw03_RingPlays_32 room0 take2 r7 row12 all18 t72 t73 t74 t181 t182) = B_signalboxlaw03_RingPlays_32 room0 take2 r7 row12 all18 t72 t73 t74 t181 t182 := by kernel_rfl
theorem S_signalboxlaw03_RingPlays_32 (room0 : Int) (take2 : Sl) (r7 : Option Addr) (row12 : Sl) (all18 : Sl) (t72 : Sl) (t73 : Int) (t74 : Int) (t181 : Int) (t182 : Int) {h : Hp} {Q : Value → Hp → Prop} (hb : B_signalboxlaw03_RingPlays_32 room0 take2 r7 row12 all18 t72 t73 t74 t181 t182 h Q) : K_signalboxlaw03_RingPlays_32 room0 take2 r7 row12 all18 t72 t73 t74 t181 t182 h Q :=
  Cut.of_ev Try.func14 mixed C_signalboxlaw03_RingPlays D_signalboxlaw03_RingPlays 400 (by rw [E_signalboxlaw03_RingPlays_32]; exact hb)
end Go.Proofs.Ytkmenmagclojmaa
