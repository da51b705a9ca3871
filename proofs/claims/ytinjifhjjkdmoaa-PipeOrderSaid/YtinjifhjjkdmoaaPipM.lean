/- What the functions of this layer come to, as forms of the small logic; written by program. Conditions: none. -/
import Derived.Test.YtinjifhjjkdmoaaSbU
import Derived.Test.YtinjifhjjkdmoaaChecked
import Derived.KernelRfl
set_option maxRecDepth 100000
namespace Go.Proofs.Ytinjifhjjkdmoaa
open Go Go.Sb
theorem mixed : Try.prog.follows .mixedOrders = true := by kernel_rfl
def N_signalboxlaw37_fixed : M Value := Nf Try.prog 36 #[]
def N_pipe_New (room0 : Int) : M Value := Nf Try.prog 37 #[.int .i64 room0]
def N_pipe_Pipe_Write (p0 : Option Addr) (b1 : Sl) : M Value := Nf Try.prog 38 #[.pointer p0, .slice b1.p b1.n b1.c]
def N_pipe_Pipe_Read (p0 : Option Addr) (n1 : Int) : M Value := Nf Try.prog 39 #[.pointer p0, .int .i64 n1]
def N_pipe_Pipe_Line (p0 : Option Addr) : M Value := Nf Try.prog 72 #[.pointer p0]
def N_pipe_Pipe_Close (p0 : Option Addr) : M Value := Nf Try.prog 73 #[.pointer p0]
def N_pipe_Pipe_none (p0 : Option Addr) : M Value := Nf Try.prog 74 #[.pointer p0]
def N_pipe_Pipe_take (p0 : Option Addr) (n1 : Int) : M Value := Nf Try.prog 75 #[.pointer p0, .int .i64 n1]
def N_bytes_IndexByte (b0 : Sl) (c1 : Int) : M Value := Nf Try.prog 89 #[.slice b0.p b0.n b0.c, .int .u8 c1]
def N_pipe_Pipe_Peek (p0 : Option Addr) (n1 : Int) : M Value := Nf Try.prog 90 #[.pointer p0, .int .i64 n1]
def N_internal_bytealg_IndexByte (x0 : Sl) (x1 : Int) : M Value := Nf Try.prog 96 #[.slice x0.p x0.n x0.c, .int .u8 x1]
def N_pipe_Pipe_Len (p0 : Option Addr) : M Value := Nf Try.prog 97 #[.pointer p0]
def N_signalboxlaw37_PipeOrder (room0 : Int) (b1 : Sl) (writes2 : Sl) (reads3 : Sl) : M Value := Nf Try.prog 7 #[.int .u8 room0, .slice b1.p b1.n b1.c, .slice writes2.p writes2.n writes2.c, .slice reads3.p reads3.n reads3.c]
def C_signalboxlaw37_fixed : List (Nat × List Nat) := []
def D_signalboxlaw37_fixed : List (Nat × List Nat) := []
def B_signalboxlaw37_fixed : M Value :=
  mBind (N_pipe_New (3 : Int)) fun r14 =>
  unP r14 fun (x14 : Option Addr) =>
  mNew #[.int .u8 (97 : Int), .int .u8 (10 : Int), .int .u8 (98 : Int), .int .u8 (99 : Int)] 5 fun (x17 : Addr) =>
  mMark ⟨(some x17), 4, 4⟩ <|
  mBind (N_pipe_Pipe_Write x14 (Sl.mk (some x17) 4 4)) fun r19 =>
  un2 (unI .i64) (unI .i64) r19 fun (x19_0 : Int) (x19_1 : Int) =>
  mBind (N_pipe_Pipe_Line x14) fun r24 =>
  un2 unL (unI .i64) r24 fun (x24_0 : Sl) (x24_1 : Int) =>
  mBind (N_pipe_Pipe_Line x14) fun r29 =>
  un2 unL (unI .i64) r29 fun (_x29_0 : Sl) (x29_1 : Int) =>
  mBind (N_pipe_Pipe_Read x14 (9 : Int)) fun r34 =>
  un2 unL (unI .i64) r34 fun (x34_0 : Sl) (x34_1 : Int) =>
  mBind (N_pipe_Pipe_Read x14 (1 : Int)) fun r39 =>
  un2 unL (unI .i64) r39 fun (_x39_0 : Sl) (x39_1 : Int) =>
  mBind (N_pipe_Pipe_Close x14) fun _r43 =>
  mBind (N_pipe_Pipe_Read x14 (1 : Int)) fun r46 =>
  un2 unL (unI .i64) r46 fun (_x46_0 : Sl) (x46_1 : Int) =>
  mBind (mIf ((x19_0 == (3 : Int)) && (x19_1 == (7 : Int))) (mStr x24_0 fun (x57 : ByteArray) =>
    mRet ((x57).toList == ((ByteArray.mk #[97, 10])).toList)) (mRet false)) fun (b12 : Bool) =>
  mBind (mIf ((b12 && (x24_1 == (0 : Int))) && (x29_1 == (6 : Int))) (mStr x34_0 fun (x70 : ByteArray) =>
    mRet ((x70).toList == ((ByteArray.mk #[98])).toList)) (mRet false)) fun (b14 : Bool) =>
  mBind (mIf (((b14 && (x34_1 == (0 : Int))) && (x39_1 == (6 : Int))) && (x46_1 == (8 : Int))) (mBind (N_pipe_New (0 : Int)) fun r86 =>
    unP r86 fun (x86 : Option Addr) =>
    mRet x86.isNone) (mRet false)) fun (b16 : Bool) =>
  mRet (.bool b16)
theorem E_signalboxlaw37_fixed : ev Try.prog 36 Try.f36.results.toList C_signalboxlaw37_fixed D_signalboxlaw37_fixed 400 false [.code (bodyOf Try.f36)] (List.map some [] ++ List.replicate (Try.f36.ntmps - List.length ([] : List Value)) none) = B_signalboxlaw37_fixed := by kernel_rfl
theorem S_signalboxlaw37_fixed {h : Hp} {Q : Value → Hp → Prop} (hb : B_signalboxlaw37_fixed h Q) : N_signalboxlaw37_fixed h Q :=
  Nf.of_ev Try.call36 Try.func36 (c := bodyOf Try.f36) rfl mixed C_signalboxlaw37_fixed D_signalboxlaw37_fixed 400 (args := []) (by rw [E_signalboxlaw37_fixed]; exact hb)
def C_pipe_New : List (Nat × List Nat) := []
def D_pipe_New : List (Nat × List Nat) := []
def B_pipe_New (room0 : Int) : M Value :=
  mIf ((decide (room0 < (1 : Int))) || (decide (room0 > (4096 : Int)))) (
    mRet (.pointer none)) (
    mMake 5 1 #[.int .u8 (0 : Int)] room0 room0 fun (x10 : Sl) =>
    mNew #[.slice x10.p x10.n x10.c, .int .i64 (0 : Int), .int .i64 (0 : Int), .bool false] 113 fun (x12 : Addr) =>
    mRet (.pointer (some x12)))
theorem E_pipe_New (room0 : Int) : ev Try.prog 37 Try.f37.results.toList C_pipe_New D_pipe_New 400 false [.code (bodyOf Try.f37)] (List.map some [.int .i64 room0] ++ List.replicate (Try.f37.ntmps - List.length ([.int .i64 room0] : List Value)) none) = B_pipe_New room0 := by kernel_rfl
theorem S_pipe_New (room0 : Int) {h : Hp} {Q : Value → Hp → Prop} (hb : B_pipe_New room0 h Q) : N_pipe_New room0 h Q :=
  Nf.of_ev Try.call37 Try.func37 (c := bodyOf Try.f37) rfl mixed C_pipe_New D_pipe_New 400 (args := [.int .i64 room0]) (by rw [E_pipe_New]; exact hb)
def C_pipe_Pipe_Write : List (Nat × List Nat) := []
def D_pipe_Pipe_Write : List (Nat × List Nat) := [(7, []), (8, [])]
def B_pipe_Pipe_Write (p0 : Option Addr) (b1 : Sl) : M Value :=
  mIf p0.isNone (
    mRet (.tuple #[.int .i64 (0 : Int), .int .i64 (1 : Int)])) (
    mNil p0 fun (a2 : Addr) =>
    mLdB (a2.add 3) fun (x16 : Bool) =>
    mIf x16 (
      mRet (.tuple #[.int .i64 (0 : Int), .int .i64 (8 : Int)])) (
      mNil p0 fun (a6 : Addr) =>
      mLdL a6 fun (x22 : Sl) =>
      mNil p0 fun (a10 : Addr) =>
      mLdI .i64 (a10.add 2) fun (x27 : Int) =>
      mNil p0 fun (a14 : Addr) =>
      mLdI .i64 (a14.add 1) fun (x33 : Int) =>
      mNil p0 fun (a18 : Addr) =>
      mLdI .i64 (a18.add 2) fun (x37 : Int) =>
      mNil p0 fun (a22 : Addr) =>
      mLdL a22 fun (x42 : Sl) =>
      mGuard ((x42.n : Int) ≠ 0) <|
      mNil p0 fun (a27 : Addr) =>
      mSlc b1 1 (0 : Int) (if (IntKind.i64.wrap ((x22.n : Int) - x27)) < (b1.n : Int) then (IntKind.i64.wrap ((x22.n : Int) - x27)) else (b1.n : Int)) (b1.c : Int) fun (x53 : Sl) =>
      mLdL a27 fun (x48 : Sl) =>
      mSlc x48 1 (Int.tmod (IntKind.i64.wrap (x33 + x37)) (x42.n : Int)) (x48.n : Int) (x48.c : Int) fun (x50 : Sl) =>
      mCopy 1 x50 x53 fun (x54 : Int) =>
      mNil p0 fun (a34 : Addr) =>
      mSlc b1 1 x54 (if (IntKind.i64.wrap ((x22.n : Int) - x27)) < (b1.n : Int) then (IntKind.i64.wrap ((x22.n : Int) - x27)) else (b1.n : Int)) (b1.c : Int) fun (x62 : Sl) =>
      mLdL a34 fun (x58 : Sl) =>
      mCopy 1 x58 x62 fun (_x63 : Int) =>
      mNil p0 fun (a40 : Addr) =>
      mLdI .i64 (a40.add 2) fun (x67 : Int) =>
      mNil p0 fun (a44 : Addr) =>
      mSt (a44.add 2) (.int .i64 (IntKind.i64.wrap (x67 + (if (IntKind.i64.wrap ((x22.n : Int) - x27)) < (b1.n : Int) then (IntKind.i64.wrap ((x22.n : Int) - x27)) else (b1.n : Int))))) <|
      mIf (decide ((if (IntKind.i64.wrap ((x22.n : Int) - x27)) < (b1.n : Int) then (IntKind.i64.wrap ((x22.n : Int) - x27)) else (b1.n : Int)) < (b1.n : Int))) (
        mRet (.tuple #[.int .i64 (if (IntKind.i64.wrap ((x22.n : Int) - x27)) < (b1.n : Int) then (IntKind.i64.wrap ((x22.n : Int) - x27)) else (b1.n : Int)), .int .i64 (7 : Int)])) (
        mRet (.tuple #[.int .i64 (if (IntKind.i64.wrap ((x22.n : Int) - x27)) < (b1.n : Int) then (IntKind.i64.wrap ((x22.n : Int) - x27)) else (b1.n : Int)), .int .i64 (0 : Int)]))))
theorem E_pipe_Pipe_Write (p0 : Option Addr) (b1 : Sl) : ev Try.prog 38 Try.f38.results.toList C_pipe_Pipe_Write D_pipe_Pipe_Write 400 false [.code (bodyOf Try.f38)] (List.map some [.pointer p0, .slice b1.p b1.n b1.c] ++ List.replicate (Try.f38.ntmps - List.length ([.pointer p0, .slice b1.p b1.n b1.c] : List Value)) none) = B_pipe_Pipe_Write p0 b1 := by kernel_rfl
theorem S_pipe_Pipe_Write (p0 : Option Addr) (b1 : Sl) {h : Hp} {Q : Value → Hp → Prop} (hb : B_pipe_Pipe_Write p0 b1 h Q) : N_pipe_Pipe_Write p0 b1 h Q :=
  Nf.of_ev Try.call38 Try.func38 (c := bodyOf Try.f38) rfl mixed C_pipe_Pipe_Write D_pipe_Pipe_Write 400 (args := [.pointer p0, .slice b1.p b1.n b1.c]) (by rw [E_pipe_Pipe_Write]; exact hb)
def C_pipe_Pipe_Read : List (Nat × List Nat) := []
def D_pipe_Pipe_Read : List (Nat × List Nat) := []
def B_pipe_Pipe_Read (p0 : Option Addr) (n1 : Int) : M Value :=
  mIf p0.isNone (
    mRet (.tuple #[.slice none (0) (0), .int .i64 (1 : Int)])) (
    mIf (decide (n1 < (0 : Int))) (
      mRet (.tuple #[.slice none (0) (0), .int .i64 (5 : Int)])) (
      mBind (mIf (decide (n1 > (0 : Int))) (mNil p0 fun (a2 : Addr) =>
        mLdI .i64 (a2.add 2) fun (x19 : Int) =>
        mRet (x19 == (0 : Int))) (mRet false)) fun (b5 : Bool) =>
      mIf b5 (
        mBind (N_pipe_Pipe_none p0) fun r23 =>
        unI .i64 r23 fun (x23 : Int) =>
        mRet (.tuple #[.slice none (0) (0), .int .i64 x23])) (
        mBind (N_pipe_Pipe_take p0 n1) fun r26 =>
        unL r26 fun (x26 : Sl) =>
        mRet (.tuple #[.slice x26.p x26.n x26.c, .int .i64 (0 : Int)]))))
theorem E_pipe_Pipe_Read (p0 : Option Addr) (n1 : Int) : ev Try.prog 39 Try.f39.results.toList C_pipe_Pipe_Read D_pipe_Pipe_Read 400 false [.code (bodyOf Try.f39)] (List.map some [.pointer p0, .int .i64 n1] ++ List.replicate (Try.f39.ntmps - List.length ([.pointer p0, .int .i64 n1] : List Value)) none) = B_pipe_Pipe_Read p0 n1 := by kernel_rfl
theorem S_pipe_Pipe_Read (p0 : Option Addr) (n1 : Int) {h : Hp} {Q : Value → Hp → Prop} (hb : B_pipe_Pipe_Read p0 n1 h Q) : N_pipe_Pipe_Read p0 n1 h Q :=
  Nf.of_ev Try.call39 Try.func39 (c := bodyOf Try.f39) rfl mixed C_pipe_Pipe_Read D_pipe_Pipe_Read 400 (args := [.pointer p0, .int .i64 n1]) (by rw [E_pipe_Pipe_Read]; exact hb)
def C_pipe_Pipe_Line : List (Nat × List Nat) := []
def D_pipe_Pipe_Line : List (Nat × List Nat) := []
def B_pipe_Pipe_Line (p0 : Option Addr) : M Value :=
  mIf p0.isNone (
    mRet (.tuple #[.slice none (0) (0), .int .i64 (1 : Int)])) (
    mNil p0 fun (a2 : Addr) =>
    mLdI .i64 (a2.add 2) fun (x11 : Int) =>
    mBind (N_pipe_Pipe_Peek p0 x11) fun r12 =>
    unL r12 fun (x12 : Sl) =>
    mBind (N_bytes_IndexByte x12 (10 : Int)) fun r13 =>
    unI .i64 r13 fun (x13 : Int) =>
    mIf (decide (x13 ≥ (0 : Int))) (
      mBind (N_pipe_Pipe_take p0 (IntKind.i64.wrap (x13 + (1 : Int)))) fun r20 =>
      unL r20 fun (x20 : Sl) =>
      mRet (.tuple #[.slice x20.p x20.n x20.c, .int .i64 (0 : Int)])) (
      mNil p0 fun (a9 : Addr) =>
      mLdB (a9.add 3) fun (x25 : Bool) =>
      mBind (mIf x25 (mNil p0 fun (a13 : Addr) =>
        mLdI .i64 (a13.add 2) fun (x30 : Int) =>
        mRet (decide (x30 > (0 : Int)))) (mRet false)) fun (b16 : Bool) =>
      mIf b16 (
        mNil p0 fun (a18 : Addr) =>
        mLdI .i64 (a18.add 2) fun (x37 : Int) =>
        mBind (N_pipe_Pipe_take p0 x37) fun r38 =>
        unL r38 fun (x38 : Sl) =>
        mRet (.tuple #[.slice x38.p x38.n x38.c, .int .i64 (0 : Int)])) (
        mNil p0 fun (a23 : Addr) =>
        mLdB (a23.add 3) fun (x43 : Bool) =>
        mBind (mIf (!x43) (mNil p0 fun (a27 : Addr) =>
          mLdI .i64 (a27.add 2) fun (x49 : Int) =>
          mNil p0 fun (a31 : Addr) =>
          mLdL a31 fun (x53 : Sl) =>
          mRet (x49 == (x53.n : Int))) (mRet false)) fun (b34 : Bool) =>
        mIf b34 (
          mRet (.tuple #[.slice none (0) (0), .int .i64 (7 : Int)])) (
          mBind (N_pipe_Pipe_none p0) fun r58 =>
          unI .i64 r58 fun (x58 : Int) =>
          mRet (.tuple #[.slice none (0) (0), .int .i64 x58])))))
theorem E_pipe_Pipe_Line (p0 : Option Addr) : ev Try.prog 72 Try.f72.results.toList C_pipe_Pipe_Line D_pipe_Pipe_Line 400 false [.code (bodyOf Try.f72)] (List.map some [.pointer p0] ++ List.replicate (Try.f72.ntmps - List.length ([.pointer p0] : List Value)) none) = B_pipe_Pipe_Line p0 := by kernel_rfl
theorem S_pipe_Pipe_Line (p0 : Option Addr) {h : Hp} {Q : Value → Hp → Prop} (hb : B_pipe_Pipe_Line p0 h Q) : N_pipe_Pipe_Line p0 h Q :=
  Nf.of_ev Try.call72 Try.func72 (c := bodyOf Try.f72) rfl mixed C_pipe_Pipe_Line D_pipe_Pipe_Line 400 (args := [.pointer p0]) (by rw [E_pipe_Pipe_Line]; exact hb)
def C_pipe_Pipe_Close : List (Nat × List Nat) := []
def D_pipe_Pipe_Close : List (Nat × List Nat) := []
def B_pipe_Pipe_Close (p0 : Option Addr) : M Value :=
  mIf (!p0.isNone) (
    mNil p0 fun (a2 : Addr) =>
    mSt (a2.add 3) (.bool true) <|
    mRet (.tuple #[])) (
    mRet (.tuple #[]))
theorem E_pipe_Pipe_Close (p0 : Option Addr) : ev Try.prog 73 Try.f73.results.toList C_pipe_Pipe_Close D_pipe_Pipe_Close 400 false [.code (bodyOf Try.f73)] (List.map some [.pointer p0] ++ List.replicate (Try.f73.ntmps - List.length ([.pointer p0] : List Value)) none) = B_pipe_Pipe_Close p0 := by kernel_rfl
theorem S_pipe_Pipe_Close (p0 : Option Addr) {h : Hp} {Q : Value → Hp → Prop} (hb : B_pipe_Pipe_Close p0 h Q) : N_pipe_Pipe_Close p0 h Q :=
  Nf.of_ev Try.call73 Try.func73 (c := bodyOf Try.f73) rfl mixed C_pipe_Pipe_Close D_pipe_Pipe_Close 400 (args := [.pointer p0]) (by rw [E_pipe_Pipe_Close]; exact hb)
def C_pipe_Pipe_none : List (Nat × List Nat) := []
def D_pipe_Pipe_none : List (Nat × List Nat) := []
def B_pipe_Pipe_none (p0 : Option Addr) : M Value :=
  mNil p0 fun (a2 : Addr) =>
  mLdB (a2.add 3) fun (x6 : Bool) =>
  mIf x6 (
    mRet (.int .i64 (8 : Int))) (
    mRet (.int .i64 (6 : Int)))
theorem E_pipe_Pipe_none (p0 : Option Addr) : ev Try.prog 74 Try.f74.results.toList C_pipe_Pipe_none D_pipe_Pipe_none 400 false [.code (bodyOf Try.f74)] (List.map some [.pointer p0] ++ List.replicate (Try.f74.ntmps - List.length ([.pointer p0] : List Value)) none) = B_pipe_Pipe_none p0 := by kernel_rfl
theorem S_pipe_Pipe_none (p0 : Option Addr) {h : Hp} {Q : Value → Hp → Prop} (hb : B_pipe_Pipe_none p0 h Q) : N_pipe_Pipe_none p0 h Q :=
  Nf.of_ev Try.call74 Try.func74 (c := bodyOf Try.f74) rfl mixed C_pipe_Pipe_none D_pipe_Pipe_none 400 (args := [.pointer p0]) (by rw [E_pipe_Pipe_none]; exact hb)
def C_pipe_Pipe_take : List (Nat × List Nat) := []
def D_pipe_Pipe_take : List (Nat × List Nat) := [(3, [0, 1, 2, 3, 4, 5, 6, 7, 8, 9, 10, 11, 12, 13])]
def B_pipe_Pipe_take (p0 : Option Addr) (n1 : Int) : M Value :=
  mBind (N_pipe_Pipe_Peek p0 n1) fun r8 =>
  unL r8 fun (x8 : Sl) =>
  mNil p0 fun (a3 : Addr) =>
  mLdI .i64 (a3.add 2) fun (x12 : Int) =>
  mNil p0 fun (a7 : Addr) =>
  mSt (a7.add 2) (.int .i64 (IntKind.i64.wrap (x12 - (x8.n : Int)))) <|
  mNil p0 fun (a11 : Addr) =>
  mLdI .i64 (a11.add 1) fun (x22 : Int) =>
  mNil p0 fun (a15 : Addr) =>
  mLdL a15 fun (x29 : Sl) =>
  mGuard ((x29.n : Int) ≠ 0) <|
  mNil p0 fun (a20 : Addr) =>
  mSt (a20.add 1) (.int .i64 (Int.tmod (IntKind.i64.wrap (x22 + (x8.n : Int))) (x29.n : Int))) <|
  mRet (.slice x8.p x8.n x8.c)
theorem E_pipe_Pipe_take (p0 : Option Addr) (n1 : Int) : ev Try.prog 75 Try.f75.results.toList C_pipe_Pipe_take D_pipe_Pipe_take 400 false [.code (bodyOf Try.f75)] (List.map some [.pointer p0, .int .i64 n1] ++ List.replicate (Try.f75.ntmps - List.length ([.pointer p0, .int .i64 n1] : List Value)) none) = B_pipe_Pipe_take p0 n1 := by kernel_rfl
theorem S_pipe_Pipe_take (p0 : Option Addr) (n1 : Int) {h : Hp} {Q : Value → Hp → Prop} (hb : B_pipe_Pipe_take p0 n1 h Q) : N_pipe_Pipe_take p0 n1 h Q :=
  Nf.of_ev Try.call75 Try.func75 (c := bodyOf Try.f75) rfl mixed C_pipe_Pipe_take D_pipe_Pipe_take 400 (args := [.pointer p0, .int .i64 n1]) (by rw [E_pipe_Pipe_take]; exact hb)
def C_bytes_IndexByte : List (Nat × List Nat) := []
def D_bytes_IndexByte : List (Nat × List Nat) := []
def B_bytes_IndexByte (b0 : Sl) (c1 : Int) : M Value :=
  mBind (N_internal_bytealg_IndexByte b0 c1) fun r7 =>
  unI .i64 r7 fun (x7 : Int) =>
  mRet (.int .i64 x7)
theorem E_bytes_IndexByte (b0 : Sl) (c1 : Int) : ev Try.prog 89 Try.f89.results.toList C_bytes_IndexByte D_bytes_IndexByte 400 false [.code (bodyOf Try.f89)] (List.map some [.slice b0.p b0.n b0.c, .int .u8 c1] ++ List.replicate (Try.f89.ntmps - List.length ([.slice b0.p b0.n b0.c, .int .u8 c1] : List Value)) none) = B_bytes_IndexByte b0 c1 := by kernel_rfl
theorem S_bytes_IndexByte (b0 : Sl) (c1 : Int) {h : Hp} {Q : Value → Hp → Prop} (hb : B_bytes_IndexByte b0 c1 h Q) : N_bytes_IndexByte b0 c1 h Q :=
  Nf.of_ev Try.call89 Try.func89 (c := bodyOf Try.f89) rfl mixed C_bytes_IndexByte D_bytes_IndexByte 400 (args := [.slice b0.p b0.n b0.c, .int .u8 c1]) (by rw [E_bytes_IndexByte]; exact hb)
def C_pipe_Pipe_Peek : List (Nat × List Nat) := [(6, [0, 5, 6])]
def D_pipe_Pipe_Peek : List (Nat × List Nat) := [(5, []), (6, [])]
def T_pipe_Pipe_Peek_6 (p0 : Option Addr) (out5 : Sl) (done6 : Int) : Env := mkEnv [(0, .pointer p0), (5, .slice out5.p out5.n out5.c), (6, .int .i64 done6)] 36 0
def K_pipe_Pipe_Peek_6 (p0 : Option Addr) (out5 : Sl) (done6 : Int) : M Value := Cut Try.prog 90 (todoOf Try.f90 6) (T_pipe_Pipe_Peek_6 p0 out5 done6)
def B_pipe_Pipe_Peek (p0 : Option Addr) (n1 : Int) : M Value :=
  mBind (N_pipe_Pipe_Len p0) fun r10 =>
  unI .i64 r10 fun (x10 : Int) =>
  mIf ((if x10 < (if (0 : Int) > n1 then (0 : Int) else n1) then x10 else (if (0 : Int) > n1 then (0 : Int) else n1)) == (0 : Int)) (
    mRet (.slice none (0) (0))) (
    mMake 5 1 #[.int .u8 (0 : Int)] (if x10 < (if (0 : Int) > n1 then (0 : Int) else n1) then x10 else (if (0 : Int) > n1 then (0 : Int) else n1)) (if x10 < (if (0 : Int) > n1 then (0 : Int) else n1) then x10 else (if (0 : Int) > n1 then (0 : Int) else n1)) fun (x15 : Sl) =>
    mNil p0 fun (a4 : Addr) =>
    mNil p0 fun (a7 : Addr) =>
    mAnd (
      mLdL a4 fun (x20_13 : Sl) =>
      mLdI .i64 (a7.add 1) fun (x24_14 : Int) =>
      mSlc x20_13 1 x24_14 (x20_13.n : Int) (x20_13.c : Int) fun (x25_15 : Sl) =>
      mCopy 1 x15 x25_15 fun (x26_16 : Int) =>
      K_pipe_Pipe_Peek_6 p0 x15 x26_16) (
      mLdI .i64 (a7.add 1) fun (x24 : Int) =>
      mLdL a4 fun (x20 : Sl) =>
      mSlc x20 1 x24 (x20.n : Int) (x20.c : Int) fun (x25 : Sl) =>
      mCopy 1 x15 x25 fun (x26 : Int) =>
      K_pipe_Pipe_Peek_6 p0 x15 x26))
def B_pipe_Pipe_Peek_6 (p0 : Option Addr) (out5 : Sl) (done6 : Int) : M Value :=
  mSlc out5 1 done6 (out5.n : Int) (out5.c : Int) fun (x29 : Sl) =>
  mNil p0 fun (a19 : Addr) =>
  mLdL a19 fun (x33 : Sl) =>
  mCopy 1 x29 x33 fun (_x34 : Int) =>
  mRet (.slice out5.p out5.n out5.c)
theorem E_pipe_Pipe_Peek (p0 : Option Addr) (n1 : Int) : ev Try.prog 90 Try.f90.results.toList C_pipe_Pipe_Peek D_pipe_Pipe_Peek 400 false [.code (bodyOf Try.f90)] (List.map some [.pointer p0, .int .i64 n1] ++ List.replicate (Try.f90.ntmps - List.length ([.pointer p0, .int .i64 n1] : List Value)) none) = B_pipe_Pipe_Peek p0 n1 := by kernel_rfl
theorem S_pipe_Pipe_Peek (p0 : Option Addr) (n1 : Int) {h : Hp} {Q : Value → Hp → Prop} (hb : B_pipe_Pipe_Peek p0 n1 h Q) : N_pipe_Pipe_Peek p0 n1 h Q :=
  Nf.of_ev Try.call90 Try.func90 (c := bodyOf Try.f90) rfl mixed C_pipe_Pipe_Peek D_pipe_Pipe_Peek 400 (args := [.pointer p0, .int .i64 n1]) (by rw [E_pipe_Pipe_Peek]; exact hb)
theorem E_pipe_Pipe_Peek_6 (p0 : Option Addr) (out5 : Sl) (done6 : Int) : ev Try.prog 90 Try.f90.results.toList C_pipe_Pipe_Peek D_pipe_Pipe_Peek 400 true (todoOf Try.f90 6) (T_pipe_Pipe_Peek_6 p0 out5 done6) = B_pipe_Pipe_Peek_6 p0 out5 done6 := by kernel_rfl
theorem S_pipe_Pipe_Peek_6 (p0 : Option Addr) (out5 : Sl) (done6 : Int) {h : Hp} {Q : Value → Hp → Prop} (hb : B_pipe_Pipe_Peek_6 p0 out5 done6 h Q) : K_pipe_Pipe_Peek_6 p0 out5 done6 h Q :=
  Cut.of_ev Try.func90 mixed C_pipe_Pipe_Peek D_pipe_Pipe_Peek 400 (by rw [E_pipe_Pipe_Peek_6]; exact hb)

def C_pipe_Pipe_Len : List (Nat × List Nat) := []
def D_pipe_Pipe_Len : List (Nat × List Nat) := []
def B_pipe_Pipe_Len (p0 : Option Addr) : M Value :=
  mIf p0.isNone (
    mRet (.int .i64 (0 : Int))) (
    mNil p0 fun (a2 : Addr) =>
    mLdI .i64 (a2.add 2) fun (x8 : Int) =>
    mRet (.int .i64 x8))
theorem E_pipe_Pipe_Len (p0 : Option Addr) : ev Try.prog 97 Try.f97.results.toList C_pipe_Pipe_Len D_pipe_Pipe_Len 400 false [.code (bodyOf Try.f97)] (List.map some [.pointer p0] ++ List.replicate (Try.f97.ntmps - List.length ([.pointer p0] : List Value)) none) = B_pipe_Pipe_Len p0 := by kernel_rfl
theorem S_pipe_Pipe_Len (p0 : Option Addr) {h : Hp} {Q : Value → Hp → Prop} (hb : B_pipe_Pipe_Len p0 h Q) : N_pipe_Pipe_Len p0 h Q :=
  Nf.of_ev Try.call97 Try.func97 (c := bodyOf Try.f97) rfl mixed C_pipe_Pipe_Len D_pipe_Pipe_Len 400 (args := [.pointer p0]) (by rw [E_pipe_Pipe_Len]; exact hb)
def C_signalboxlaw37_PipeOrder : List (Nat × List Nat) := [(9, [1, 3, 9, 10, 11, 35, 36, 37])]
def D_signalboxlaw37_PipeOrder : List (Nat × List Nat) := [(19, [])]
def T_signalboxlaw37_PipeOrder_9 (b1 : Sl) (reads3 : Sl) (p9 : Option Addr) (rest10 : Sl) (out11 : Sl) (t35 : Sl) (t36 : Int) (t37 : Int) : Env := mkEnv [(1, .slice b1.p b1.n b1.c), (3, .slice reads3.p reads3.n reads3.c), (9, .pointer p9), (10, .slice rest10.p rest10.n rest10.c), (11, .slice out11.p out11.n out11.c), (35, .slice t35.p t35.n t35.c), (36, .int .i64 t36), (37, .int .i64 t37)] 94 0
def K_signalboxlaw37_PipeOrder_9 (b1 : Sl) (reads3 : Sl) (p9 : Option Addr) (rest10 : Sl) (out11 : Sl) (t35 : Sl) (t36 : Int) (t37 : Int) : M Value := Cut Try.prog 7 (todoOf Try.f7 9) (T_signalboxlaw37_PipeOrder_9 b1 reads3 p9 rest10 out11 t35 t36 t37)
def B_signalboxlaw37_PipeOrder (room0 : Int) (b1 : Sl) (writes2 : Sl) (reads3 : Sl) : M Value :=
  mBind (N_signalboxlaw37_fixed) fun r20 =>
  unB r20 fun (x20 : Bool) =>
  mIf (!x20) (
    mRet (.bool false)) (
    mIf ((decide ((b1.n : Int) > (400 : Int))) || (decide ((writes2.n : Int) > (100 : Int)))) (
      mRet (.bool true)) (
      mBind (N_pipe_New (IntKind.i64.wrap ((1 : Int) + (IntKind.i64.wrap room0)))) fun r33 =>
      unP r33 fun (x33 : Option Addr) =>
      K_signalboxlaw37_PipeOrder_9 b1 reads3 x33 b1 (Sl.mk none 0 0) writes2 (writes2.n : Int) (0 : Int)))
def B_signalboxlaw37_PipeOrder_9 (b1 : Sl) (reads3 : Sl) (p9 : Option Addr) (rest10 : Sl) (out11 : Sl) (t35 : Sl) (t36 : Int) (t37 : Int) : M Value :=
  mIf (decide (t37 < t36)) (
    mIdx t35 t37 1 fun (x40 : Addr) =>
    mLdI .u8 x40 fun (x41 : Int) =>
    mSlc rest10 1 (0 : Int) (if (rest10.n : Int) < (IntKind.i64.wrap x41) then (rest10.n : Int) else (IntKind.i64.wrap x41)) (rest10.c : Int) fun (x50 : Sl) =>
    mBind (N_pipe_Pipe_Write p9 x50) fun r51 =>
    un2 (unI .i64) (unI .i64) r51 fun (x51_0 : Int) (_x51_1 : Int) =>
    mSlc rest10 1 x51_0 (rest10.n : Int) (rest10.c : Int) fun (x56 : Sl) =>
    mIf (decide (t37 < (reads3.n : Int))) (
      mIdx reads3 t37 1 fun (x65 : Addr) =>
      mLdI .u8 x65 fun (x66 : Int) =>
      mBind (N_pipe_Pipe_Read p9 (IntKind.i64.wrap x66)) fun r68 =>
      un2 unL (unI .i64) r68 fun (x68_0 : Sl) (_x68_1 : Int) =>
      mApp 5 1 1 #[.int .u8 (0 : Int)] out11 x68_0 fun (x73 : Sl) =>
      K_signalboxlaw37_PipeOrder_9 b1 reads3 p9 x56 x73 t35 t36 (IntKind.i64.wrap (t37 + (1 : Int)))) (
      K_signalboxlaw37_PipeOrder_9 b1 reads3 p9 x56 out11 t35 t36 (IntKind.i64.wrap (t37 + (1 : Int))))) (
    mBind (N_pipe_Pipe_Read p9 (5000 : Int)) fun r77 =>
    un2 unL (unI .i64) r77 fun (x77_0 : Sl) (_x77_1 : Int) =>
    mApp 5 1 1 #[.int .u8 (0 : Int)] out11 x77_0 fun (x82 : Sl) =>
    mSlc b1 1 (0 : Int) (IntKind.i64.wrap ((b1.n : Int) - (rest10.n : Int))) (b1.c : Int) fun (x91 : Sl) =>
    mAnd (
      mStr x82 fun (x84_17 : ByteArray) =>
      mStr x91 fun (x92_18 : ByteArray) =>
      mRet (.bool ((x84_17).toList == (x92_18).toList))) (
      mStr x91 fun (x92 : ByteArray) =>
      mStr x82 fun (x84 : ByteArray) =>
      mRet (.bool ((x84).toList == (x92).toList))))
theorem E_signalboxlaw37_PipeOrder (room0 : Int) (b1 : Sl) (writes2 : Sl) (reads3 : Sl) : ev Try.prog 7 Try.f7.results.toList C_signalboxlaw37_PipeOrder D_signalboxlaw37_PipeOrder 400 false [.code (bodyOf Try.f7)] (List.map some [.int .u8 room0, .slice b1.p b1.n b1.c, .slice writes2.p writes2.n writes2.c, .slice reads3.p reads3.n reads3.c] ++ List.replicate (Try.f7.ntmps - List.length ([.int .u8 room0, .slice b1.p b1.n b1.c, .slice writes2.p writes2.n writes2.c, .slice reads3.p reads3.n reads3.c] : List Value)) none) = B_signalboxlaw37_PipeOrder room0 b1 writes2 reads3 := by kernel_rfl
theorem S_signalboxlaw37_PipeOrder (room0 : Int) (b1 : Sl) (writes2 : Sl) (reads3 : Sl) {h : Hp} {Q : Value → Hp → Prop} (hb : B_signalboxlaw37_PipeOrder room0 b1 writes2 reads3 h Q) : N_signalboxlaw37_PipeOrder room0 b1 writes2 reads3 h Q :=
  Nf.of_ev Try.call7 Try.func7 (c := bodyOf Try.f7) rfl mixed C_signalboxlaw37_PipeOrder D_signalboxlaw37_PipeOrder 400 (args := [.int .u8 room0, .slice b1.p b1.n b1.c, .slice writes2.p writes2.n writes2.c, .slice reads3.p reads3.n reads3.c]) (by rw [E_signalboxlaw37_PipeOrder]; exact hb)
theorem E_signalboxlaw37_PipeOrder_9 (b1 : Sl) (reads3 : Sl) (p9 : Option Addr) (rest10 : Sl) (out11 : Sl) (t35 : Sl) (t36 : Int) (t37 : Int) : ev Try.prog 7 Try.f7.results.toList C_signalboxlaw37_PipeOrder D_signalboxlaw37_PipeOrder 400 true (todoOf Try.f7 9) (T_signalboxlaw37_PipeOrder_9 b1 reads3 p9 rest10 out11 t35 t36 t37) = B_signalboxlaw37_PipeOrder_9 b1 reads3 p9 rest10 out11 t35 t36 t37 := by kernel_rfl
theorem S_signalboxlaw37_PipeOrder_9 (b1 : Sl) (reads3 : Sl) (p9 : Option Addr) (rest10 : Sl) (out11 : Sl) (t35 : Sl) (t36 : Int) (t37 : Int) {h : Hp} {Q : Value → Hp → Prop} (hb : B_signalboxlaw37_PipeOrder_9 b1 reads3 p9 rest10 out11 t35 t36 t37 h Q) : K_signalboxlaw37_PipeOrder_9 b1 reads3 p9 rest10 out11 t35 t36 t37 h Q :=
  Cut.of_ev Try.func7 mixed C_signalboxlaw37_PipeOrder D_signalboxlaw37_PipeOrder 400 (by rw [E_signalboxlaw37_PipeOrder_9]; exact hb)
end Go.Proofs.Ytinjifhjjkdmoaa
