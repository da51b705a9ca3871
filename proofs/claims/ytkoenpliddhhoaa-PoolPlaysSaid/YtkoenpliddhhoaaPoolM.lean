/- What the functions of this layer come to, as forms of the small logic; written by program. Conditions: none. -/
import Derived.Test.YtkoenpliddhhoaaSbU
import Derived.Test.YtkoenpliddhhoaaChecked
import Derived.KernelRfl
set_option maxRecDepth 100000
namespace Go.Proofs.Ytkoenpliddhhoaa
open Go Go.Sb
theorem mixed : Try.prog.follows .mixedOrders = true := by kernel_rfl
def N_signalboxlaw36_fixed : M Value := Nf Try.prog 38 #[]
def N_pool_New (blocks0 : Int) : M Value := Nf Try.prog 39 #[.int .i64 blocks0]
def N_pool_Pool_Get (p0 : Option Addr) (who1 : Int) : M Value := Nf Try.prog 40 #[.pointer p0, .int .i64 who1]
def N_pool_Pool_Free (p0 : Option Addr) : M Value := Nf Try.prog 41 #[.pointer p0]
def N_pool_Pool_Owner (p0 : Option Addr) (block1 : Int) : M Value := Nf Try.prog 42 #[.pointer p0, .int .i64 block1]
def N_pool_Pool_Put (p0 : Option Addr) (block1 : Int) (who2 : Int) : M Value := Nf Try.prog 43 #[.pointer p0, .int .i64 block1, .int .i64 who2]
def N_pool_Pool_Low (p0 : Option Addr) : M Value := Nf Try.prog 44 #[.pointer p0]
def N_pool_Pool_Reclaim (p0 : Option Addr) (who1 : Int) : M Value := Nf Try.prog 45 #[.pointer p0, .int .i64 who1]
def N_pool_Pool_All (p0 : Option Addr) (who1 : Int) : M Value := Nf Try.prog 46 #[.pointer p0, .int .i64 who1]
def N_signalboxlaw36_PoolApart (blocks0 : Int) (who1 : Sl) : M Value := Nf Try.prog 11 #[.int .u8 blocks0, .slice who1.p who1.n who1.c]
def N_signalboxlaw36_PoolPlays (blocks0 : Int) (l1 : Sl) (who2 : Int) : M Value := Nf Try.prog 12 #[.int .i64 blocks0, .slice l1.p l1.n l1.c, .int .i64 who2]
def C_signalboxlaw36_fixed : List (Nat × List Nat) := []
def D_signalboxlaw36_fixed : List (Nat × List Nat) := []
def B_signalboxlaw36_fixed : M Value :=
  mBind (N_pool_New (2 : Int)) fun r12 =>
  unP r12 fun (x12 : Option Addr) =>
  mBind (N_pool_Pool_Get x12 (7 : Int)) fun r15 =>
  un2 (unI .i64) (unI .i64) r15 fun (x15_0 : Int) (x15_1 : Int) =>
  mBind (N_pool_Pool_Get x12 (8 : Int)) fun r20 =>
  un2 (unI .i64) (unI .i64) r20 fun (x20_0 : Int) (x20_1 : Int) =>
  mBind (N_pool_Pool_Get x12 (9 : Int)) fun r25 =>
  un2 (unI .i64) (unI .i64) r25 fun (_x25_0 : Int) (x25_1 : Int) =>
  mBind (N_pool_Pool_Put x12 (0 : Int) (8 : Int)) fun r29 =>
  unI .i64 r29 fun (x29 : Int) =>
  mBind (N_pool_Pool_Put x12 (0 : Int) (7 : Int)) fun r31 =>
  unI .i64 r31 fun (x31 : Int) =>
  mBind (N_pool_Pool_Get x12 (5 : Int)) fun r34 =>
  un2 (unI .i64) (unI .i64) r34 fun (x34_0 : Int) (x34_1 : Int) =>
  mBind (mIf (((((((((x15_0 == (0 : Int)) && (x15_1 == (0 : Int))) && (x20_0 == (1 : Int))) && (x20_1 == (0 : Int))) && (x25_1 == (8 : Int))) && (x29 == (6 : Int))) && (x31 == (0 : Int))) && (x34_0 == (0 : Int))) && (x34_1 == (0 : Int))) (mBind (N_pool_Pool_Low x12) fun r73 =>
    unI .i64 r73 fun (x73 : Int) =>
    mRet (x73 == (0 : Int))) (mRet false)) fun (b9 : Bool) =>
  mBind (mIf b9 (mBind (N_pool_Pool_Reclaim x12 (8 : Int)) fun r78 =>
    unI .i64 r78 fun (x78 : Int) =>
    mRet (x78 == (1 : Int))) (mRet false)) fun (b11 : Bool) =>
  mBind (mIf b11 (mBind (N_pool_New (-1 : Int)) fun r82 =>
    unP r82 fun (x82 : Option Addr) =>
    mRet x82.isNone) (mRet false)) fun (b13 : Bool) =>
  mRet (.bool b13)
theorem E_signalboxlaw36_fixed : ev Try.prog 38 Try.f38.results.toList C_signalboxlaw36_fixed D_signalboxlaw36_fixed 400 false [.code (bodyOf Try.f38)] (List.map some [] ++ List.replicate (Try.f38.ntmps - List.length ([] : List Value)) none) = B_signalboxlaw36_fixed := by kernel_rfl
theorem S_signalboxlaw36_fixed {h : Hp} {Q : Value → Hp → Prop} (hb : B_signalboxlaw36_fixed h Q) : N_signalboxlaw36_fixed h Q :=
  Nf.of_ev Try.call38 Try.func38 (c := bodyOf Try.f38) rfl mixed C_signalboxlaw36_fixed D_signalboxlaw36_fixed 400 (args := []) (by rw [E_signalboxlaw36_fixed]; exact hb)
def C_pool_New : List (Nat × List Nat) := [(5, [3, 4])]
def D_pool_New : List (Nat × List Nat) := [(7, [0, 1, 2, 3, 4, 5, 6, 7, 8])]
def T_pool_New_5 (p3 : Addr) (i4 : Int) : Env := mkEnv [(3, .pointer (some p3)), (4, .int .i64 i4)] 39 0
def K_pool_New_5 (p3 : Addr) (i4 : Int) : M Value := Cut Try.prog 39 (todoOf Try.f39 5) (T_pool_New_5 p3 i4)
def B_pool_New (blocks0 : Int) : M Value :=
  mIf ((decide (blocks0 < (0 : Int))) || (decide (blocks0 > (1024 : Int)))) (
    mRet (.pointer none)) (
    mMake 124 24 #[.int .i64 (0 : Int), .int .i64 (0 : Int), .bool false] blocks0 blocks0 fun (x12 : Sl) =>
    mNew #[.slice x12.p x12.n x12.c, .int .i64 (-1 : Int), .int .i64 blocks0, .int .i64 blocks0] 122 fun (x16 : Addr) =>
    K_pool_New_5 x16 (IntKind.i64.wrap (blocks0 - (1 : Int))))
def B_pool_New_5 (p3 : Addr) (i4 : Int) : M Value :=
  mIf (decide (i4 ≥ (0 : Int))) (
    mLdL p3 fun (x26 : Sl) =>
    mLdI .i64 (p3.add 1) fun (x31 : Int) =>
    mIdx x26 i4 3 fun (x32 : Addr) =>
    mSt x32 (.int .i64 x31) <|
    mSt (p3.add 1) (.int .i64 i4) <|
    K_pool_New_5 p3 (IntKind.i64.wrap (i4 - (1 : Int)))) (
    mRet (.pointer (some p3)))
theorem E_pool_New (blocks0 : Int) : ev Try.prog 39 Try.f39.results.toList C_pool_New D_pool_New 400 false [.code (bodyOf Try.f39)] (List.map some [.int .i64 blocks0] ++ List.replicate (Try.f39.ntmps - List.length ([.int .i64 blocks0] : List Value)) none) = B_pool_New blocks0 := by kernel_rfl
theorem S_pool_New (blocks0 : Int) {h : Hp} {Q : Value → Hp → Prop} (hb : B_pool_New blocks0 h Q) : N_pool_New blocks0 h Q :=
  Nf.of_ev Try.call39 Try.func39 (c := bodyOf Try.f39) rfl mixed C_pool_New D_pool_New 400 (args := [.int .i64 blocks0]) (by rw [E_pool_New]; exact hb)
theorem E_pool_New_5 (p3 : Addr) (i4 : Int) : ev Try.prog 39 Try.f39.results.toList C_pool_New D_pool_New 400 true (todoOf Try.f39 5) (T_pool_New_5 p3 i4) = B_pool_New_5 p3 i4 := by kernel_rfl
theorem S_pool_New_5 (p3 : Addr) (i4 : Int) {h : Hp} {Q : Value → Hp → Prop} (hb : B_pool_New_5 p3 i4 h Q) : K_pool_New_5 p3 i4 h Q :=
  Cut.of_ev Try.func39 mixed C_pool_New D_pool_New 400 (by rw [E_pool_New_5]; exact hb)
def C_pool_Pool_Get : List (Nat × List Nat) := []
def D_pool_Pool_Get : List (Nat × List Nat) := [(9, [0, 1, 2, 3, 4, 5, 6, 7, 8, 9])]
def B_pool_Pool_Get (p0 : Option Addr) (who1 : Int) : M Value :=
  mIf p0.isNone (
    mRet (.tuple #[.int .i64 (0 : Int), .int .i64 (1 : Int)])) (
    mNil p0 fun (a2 : Addr) =>
    mLdI .i64 (a2.add 1) fun (x14 : Int) =>
    mIf (x14 == (-1 : Int)) (
      mRet (.tuple #[.int .i64 (0 : Int), .int .i64 (8 : Int)])) (
      mNil p0 fun (a6 : Addr) =>
      mLdI .i64 (a6.add 1) fun (x19 : Int) =>
      mNil p0 fun (a10 : Addr) =>
      mLdL a10 fun (x24 : Sl) =>
      mIdx x24 x19 3 fun (x26 : Addr) =>
      mLdI .i64 x26 fun (x28 : Int) =>
      mNil p0 fun (a17 : Addr) =>
      mSt (a17.add 1) (.int .i64 x28) <|
      mNil p0 fun (a21 : Addr) =>
      mLdL a21 fun (x34 : Sl) =>
      mIdx x34 x19 3 fun (x38 : Addr) =>
      mSt x38 (.int .i64 (-1 : Int)) <|
      mSt (x38.add 1) (.int .i64 who1) <|
      mSt (x38.add 2) (.bool true) <|
      mNil p0 fun (a27 : Addr) =>
      mLdI .i64 (a27.add 2) fun (x42 : Int) =>
      mNil p0 fun (a31 : Addr) =>
      mSt (a31.add 2) (.int .i64 (IntKind.i64.wrap (x42 - (1 : Int)))) <|
      mNil p0 fun (a35 : Addr) =>
      mLdI .i64 (a35.add 3) fun (x50 : Int) =>
      mNil p0 fun (a39 : Addr) =>
      mLdI .i64 (a39.add 2) fun (x54 : Int) =>
      mNil p0 fun (a43 : Addr) =>
      mSt (a43.add 3) (.int .i64 (if x54 < x50 then x54 else x50)) <|
      mRet (.tuple #[.int .i64 x19, .int .i64 (0 : Int)])))
theorem E_pool_Pool_Get (p0 : Option Addr) (who1 : Int) : ev Try.prog 40 Try.f40.results.toList C_pool_Pool_Get D_pool_Pool_Get 400 false [.code (bodyOf Try.f40)] (List.map some [.pointer p0, .int .i64 who1] ++ List.replicate (Try.f40.ntmps - List.length ([.pointer p0, .int .i64 who1] : List Value)) none) = B_pool_Pool_Get p0 who1 := by kernel_rfl
theorem S_pool_Pool_Get (p0 : Option Addr) (who1 : Int) {h : Hp} {Q : Value → Hp → Prop} (hb : B_pool_Pool_Get p0 who1 h Q) : N_pool_Pool_Get p0 who1 h Q :=
  Nf.of_ev Try.call40 Try.func40 (c := bodyOf Try.f40) rfl mixed C_pool_Pool_Get D_pool_Pool_Get 400 (args := [.pointer p0, .int .i64 who1]) (by rw [E_pool_Pool_Get]; exact hb)
def C_pool_Pool_Free : List (Nat × List Nat) := []
def D_pool_Pool_Free : List (Nat × List Nat) := []
def B_pool_Pool_Free (p0 : Option Addr) : M Value :=
  mIf p0.isNone (
    mRet (.int .i64 (0 : Int))) (
    mNil p0 fun (a2 : Addr) =>
    mLdI .i64 (a2.add 2) fun (x8 : Int) =>
    mRet (.int .i64 x8))
theorem E_pool_Pool_Free (p0 : Option Addr) : ev Try.prog 41 Try.f41.results.toList C_pool_Pool_Free D_pool_Pool_Free 400 false [.code (bodyOf Try.f41)] (List.map some [.pointer p0] ++ List.replicate (Try.f41.ntmps - List.length ([.pointer p0] : List Value)) none) = B_pool_Pool_Free p0 := by kernel_rfl
theorem S_pool_Pool_Free (p0 : Option Addr) {h : Hp} {Q : Value → Hp → Prop} (hb : B_pool_Pool_Free p0 h Q) : N_pool_Pool_Free p0 h Q :=
  Nf.of_ev Try.call41 Try.func41 (c := bodyOf Try.f41) rfl mixed C_pool_Pool_Free D_pool_Pool_Free 400 (args := [.pointer p0]) (by rw [E_pool_Pool_Free]; exact hb)
def C_pool_Pool_Owner : List (Nat × List Nat) := []
def D_pool_Pool_Owner : List (Nat × List Nat) := []
def B_pool_Pool_Owner (p0 : Option Addr) (block1 : Int) : M Value :=
  mBind (mIf (p0.isNone || (decide (block1 < (0 : Int)))) (mRet true) (mNil p0 fun (a2 : Addr) =>
    mLdL a2 fun (x17 : Sl) =>
    mRet (decide (block1 ≥ (x17.n : Int))))) fun (b5 : Bool) =>
  mIf b5 (
    mRet (.tuple #[.int .i64 (0 : Int), .bool false])) (
    mNil p0 fun (a7 : Addr) =>
    mLdL a7 fun (x24 : Sl) =>
    mIdx x24 block1 3 fun (x26 : Addr) =>
    mLdI .i64 (x26.add 1) fun (x28 : Int) =>
    mNil p0 fun (a14 : Addr) =>
    mLdL a14 fun (x32 : Sl) =>
    mIdx x32 block1 3 fun (x34 : Addr) =>
    mLdB (x34.add 2) fun (x36 : Bool) =>
    mRet (.tuple #[.int .i64 x28, .bool x36]))
theorem E_pool_Pool_Owner (p0 : Option Addr) (block1 : Int) : ev Try.prog 42 Try.f42.results.toList C_pool_Pool_Owner D_pool_Pool_Owner 400 false [.code (bodyOf Try.f42)] (List.map some [.pointer p0, .int .i64 block1] ++ List.replicate (Try.f42.ntmps - List.length ([.pointer p0, .int .i64 block1] : List Value)) none) = B_pool_Pool_Owner p0 block1 := by kernel_rfl
theorem S_pool_Pool_Owner (p0 : Option Addr) (block1 : Int) {h : Hp} {Q : Value → Hp → Prop} (hb : B_pool_Pool_Owner p0 block1 h Q) : N_pool_Pool_Owner p0 block1 h Q :=
  Nf.of_ev Try.call42 Try.func42 (c := bodyOf Try.f42) rfl mixed C_pool_Pool_Owner D_pool_Pool_Owner 400 (args := [.pointer p0, .int .i64 block1]) (by rw [E_pool_Pool_Owner]; exact hb)
def C_pool_Pool_Put : List (Nat × List Nat) := []
def D_pool_Pool_Put : List (Nat × List Nat) := []
def B_pool_Pool_Put (p0 : Option Addr) (block1 : Int) (who2 : Int) : M Value :=
  mIf p0.isNone (
    mRet (.int .i64 (1 : Int))) (
    mBind (mIf (decide (block1 < (0 : Int))) (mRet true) (mNil p0 fun (a2 : Addr) =>
      mLdL a2 fun (x19 : Sl) =>
      mRet (decide (block1 ≥ (x19.n : Int))))) fun (b5 : Bool) =>
    mIf b5 (
      mRet (.int .i64 (5 : Int))) (
      mNil p0 fun (a7 : Addr) =>
      mLdL a7 fun (x26 : Sl) =>
      mIdx x26 block1 3 fun (x28 : Addr) =>
      mLdB (x28.add 2) fun (x32 : Bool) =>
      mBind (mIf (!x32) (mRet true) (mLdI .i64 (x28.add 1) fun (x38 : Int) =>
        mRet (x38 != who2))) fun (b17 : Bool) =>
      mIf b17 (
        mRet (.int .i64 (6 : Int))) (
        mNil p0 fun (a19 : Addr) =>
        mLdI .i64 (a19.add 1) fun (x46 : Int) =>
        mSt x28 (.int .i64 x46) <|
        mSt (x28.add 1) (.int .i64 (0 : Int)) <|
        mSt (x28.add 2) (.bool false) <|
        mNil p0 fun (a25 : Addr) =>
        mSt (a25.add 1) (.int .i64 block1) <|
        mNil p0 fun (a29 : Addr) =>
        mLdI .i64 (a29.add 2) fun (x56 : Int) =>
        mNil p0 fun (a33 : Addr) =>
        mSt (a33.add 2) (.int .i64 (IntKind.i64.wrap (x56 + (1 : Int)))) <|
        mRet (.int .i64 (0 : Int)))))
theorem E_pool_Pool_Put (p0 : Option Addr) (block1 : Int) (who2 : Int) : ev Try.prog 43 Try.f43.results.toList C_pool_Pool_Put D_pool_Pool_Put 400 false [.code (bodyOf Try.f43)] (List.map some [.pointer p0, .int .i64 block1, .int .i64 who2] ++ List.replicate (Try.f43.ntmps - List.length ([.pointer p0, .int .i64 block1, .int .i64 who2] : List Value)) none) = B_pool_Pool_Put p0 block1 who2 := by kernel_rfl
theorem S_pool_Pool_Put (p0 : Option Addr) (block1 : Int) (who2 : Int) {h : Hp} {Q : Value → Hp → Prop} (hb : B_pool_Pool_Put p0 block1 who2 h Q) : N_pool_Pool_Put p0 block1 who2 h Q :=
  Nf.of_ev Try.call43 Try.func43 (c := bodyOf Try.f43) rfl mixed C_pool_Pool_Put D_pool_Pool_Put 400 (args := [.pointer p0, .int .i64 block1, .int .i64 who2]) (by rw [E_pool_Pool_Put]; exact hb)
def C_pool_Pool_Low : List (Nat × List Nat) := []
def D_pool_Pool_Low : List (Nat × List Nat) := []
def B_pool_Pool_Low (p0 : Option Addr) : M Value :=
  mIf p0.isNone (
    mRet (.int .i64 (0 : Int))) (
    mNil p0 fun (a2 : Addr) =>
    mLdI .i64 (a2.add 3) fun (x8 : Int) =>
    mRet (.int .i64 x8))
theorem E_pool_Pool_Low (p0 : Option Addr) : ev Try.prog 44 Try.f44.results.toList C_pool_Pool_Low D_pool_Pool_Low 400 false [.code (bodyOf Try.f44)] (List.map some [.pointer p0] ++ List.replicate (Try.f44.ntmps - List.length ([.pointer p0] : List Value)) none) = B_pool_Pool_Low p0 := by kernel_rfl
theorem S_pool_Pool_Low (p0 : Option Addr) {h : Hp} {Q : Value → Hp → Prop} (hb : B_pool_Pool_Low p0 h Q) : N_pool_Pool_Low p0 h Q :=
  Nf.of_ev Try.call44 Try.func44 (c := bodyOf Try.f44) rfl mixed C_pool_Pool_Low D_pool_Pool_Low 400 (args := [.pointer p0]) (by rw [E_pool_Pool_Low]; exact hb)
def C_pool_Pool_Reclaim : List (Nat × List Nat) := [(3, [0, 1, 5, 11, 12, 13])]
def D_pool_Pool_Reclaim : List (Nat × List Nat) := []
def T_pool_Pool_Reclaim_3 (p0 : Option Addr) (who1 : Int) (all5 : Sl) (t11 : Sl) (t12 : Int) (t13 : Int) : Env := mkEnv [(0, .pointer p0), (1, .int .i64 who1), (5, .slice all5.p all5.n all5.c), (11, .slice t11.p t11.n t11.c), (12, .int .i64 t12), (13, .int .i64 t13)] 24 0
def K_pool_Pool_Reclaim_3 (p0 : Option Addr) (who1 : Int) (all5 : Sl) (t11 : Sl) (t12 : Int) (t13 : Int) : M Value := Cut Try.prog 45 (todoOf Try.f45 3) (T_pool_Pool_Reclaim_3 p0 who1 all5 t11 t12 t13)
def B_pool_Pool_Reclaim (p0 : Option Addr) (who1 : Int) : M Value :=
  mBind (N_pool_Pool_All p0 who1) fun r10 =>
  unL r10 fun (x10 : Sl) =>
  K_pool_Pool_Reclaim_3 p0 who1 x10 x10 (x10.n : Int) (0 : Int)
def B_pool_Pool_Reclaim_3 (p0 : Option Addr) (who1 : Int) (all5 : Sl) (t11 : Sl) (t12 : Int) (t13 : Int) : M Value :=
  mIf (decide (t13 < t12)) (
    mIdx t11 t13 1 fun (x15 : Addr) =>
    mLdI .i64 x15 fun (x16 : Int) =>
    mBind (N_pool_Pool_Put p0 x16 who1) fun r20 =>
    unI .i64 r20 fun (_x20 : Int) =>
    K_pool_Pool_Reclaim_3 p0 who1 all5 t11 t12 (IntKind.i64.wrap (t13 + (1 : Int)))) (
    mRet (.int .i64 (all5.n : Int)))
theorem E_pool_Pool_Reclaim (p0 : Option Addr) (who1 : Int) : ev Try.prog 45 Try.f45.results.toList C_pool_Pool_Reclaim D_pool_Pool_Reclaim 400 false [.code (bodyOf Try.f45)] (List.map some [.pointer p0, .int .i64 who1] ++ List.replicate (Try.f45.ntmps - List.length ([.pointer p0, .int .i64 who1] : List Value)) none) = B_pool_Pool_Reclaim p0 who1 := by kernel_rfl
theorem S_pool_Pool_Reclaim (p0 : Option Addr) (who1 : Int) {h : Hp} {Q : Value → Hp → Prop} (hb : B_pool_Pool_Reclaim p0 who1 h Q) : N_pool_Pool_Reclaim p0 who1 h Q :=
  Nf.of_ev Try.call45 Try.func45 (c := bodyOf Try.f45) rfl mixed C_pool_Pool_Reclaim D_pool_Pool_Reclaim 400 (args := [.pointer p0, .int .i64 who1]) (by rw [E_pool_Pool_Reclaim]; exact hb)
theorem E_pool_Pool_Reclaim_3 (p0 : Option Addr) (who1 : Int) (all5 : Sl) (t11 : Sl) (t12 : Int) (t13 : Int) : ev Try.prog 45 Try.f45.results.toList C_pool_Pool_Reclaim D_pool_Pool_Reclaim 400 true (todoOf Try.f45 3) (T_pool_Pool_Reclaim_3 p0 who1 all5 t11 t12 t13) = B_pool_Pool_Reclaim_3 p0 who1 all5 t11 t12 t13 := by kernel_rfl
theorem S_pool_Pool_Reclaim_3 (p0 : Option Addr) (who1 : Int) (all5 : Sl) (t11 : Sl) (t12 : Int) (t13 : Int) {h : Hp} {Q : Value → Hp → Prop} (hb : B_pool_Pool_Reclaim_3 p0 who1 all5 t11 t12 t13 h Q) : K_pool_Pool_Reclaim_3 p0 who1 all5 t11 t12 t13 h Q :=
  Cut.of_ev Try.func45 mixed C_pool_Pool_Reclaim D_pool_Pool_Reclaim 400 (by rw [E_pool_Pool_Reclaim_3]; exact hb)
def C_pool_Pool_All : List (Nat × List Nat) := [(5, [1, 5, 13, 14, 15])]
def D_pool_Pool_All : List (Nat × List Nat) := []
def T_pool_Pool_All_5 (who1 : Int) (out5 : Sl) (t13 : Sl) (t14 : Int) (t15 : Int) : Env := mkEnv [(1, .int .i64 who1), (5, .slice out5.p out5.n out5.c), (13, .slice t13.p t13.n t13.c), (14, .int .i64 t14), (15, .int .i64 t15)] 34 0
def K_pool_Pool_All_5 (who1 : Int) (out5 : Sl) (t13 : Sl) (t14 : Int) (t15 : Int) : M Value := Cut Try.prog 46 (todoOf Try.f46 5) (T_pool_Pool_All_5 who1 out5 t13 t14 t15)
def B_pool_Pool_All (p0 : Option Addr) (who1 : Int) : M Value :=
  mIf p0.isNone (
    mRet (.slice none (0) (0))) (
    mNil p0 fun (a2 : Addr) =>
    mLdL a2 fun (x13 : Sl) =>
    K_pool_Pool_All_5 who1 (Sl.mk none 0 0) x13 (x13.n : Int) (0 : Int))
def B_pool_Pool_All_5 (who1 : Int) (out5 : Sl) (t13 : Sl) (t14 : Int) (t15 : Int) : M Value :=
  mIf (decide (t15 < t14)) (
    mIdx t13 t15 3 fun (x18 : Addr) =>
    mLdI .i64 x18 fun (x19_0 : Int) =>
    mLdI .i64 (x18.add 1) fun (x19_1 : Int) =>
    mLdB (x18.add 2) fun (x19_2 : Bool) =>
    mNew #[.int .i64 (0 : Int), .int .i64 (0 : Int), .bool false] 124 fun (x7 : Addr) =>
    mSt x7 (.int .i64 x19_0) <|
    mSt (x7.add 1) (.int .i64 x19_1) <|
    mSt (x7.add 2) (.bool x19_2) <|
    mLdB (x7.add 2) fun (x21 : Bool) =>
    mBind (mIf x21 (mLdI .i64 (x7.add 1) fun (x24 : Int) =>
      mRet (x24 == who1)) (mRet false)) fun (b13 : Bool) =>
    mIf b13 (
      mNew #[.int .i64 t15] 3 fun (x30 : Addr) =>
      mApp 3 1 8 #[.int .i64 (0 : Int)] out5 ⟨(some x30), 1, 1⟩ fun (x31 : Sl) =>
      K_pool_Pool_All_5 who1 x31 t13 t14 (IntKind.i64.wrap (t15 + (1 : Int)))) (
      K_pool_Pool_All_5 who1 out5 t13 t14 (IntKind.i64.wrap (t15 + (1 : Int))))) (
    mRet (.slice out5.p out5.n out5.c))
theorem E_pool_Pool_All (p0 : Option Addr) (who1 : Int) : ev Try.prog 46 Try.f46.results.toList C_pool_Pool_All D_pool_Pool_All 400 false [.code (bodyOf Try.f46)] (List.map some [.pointer p0, .int .i64 who1] ++ List.replicate (Try.f46.ntmps - List.length ([.pointer p0, .int .i64 who1] : List Value)) none) = B_pool_Pool_All p0 who1 := by kernel_rfl
theorem S_pool_Pool_All (p0 : Option Addr) (who1 : Int) {h : Hp} {Q : Value → Hp → Prop} (hb : B_pool_Pool_All p0 who1 h Q) : N_pool_Pool_All p0 who1 h Q :=
  Nf.of_ev Try.call46 Try.func46 (c := bodyOf Try.f46) rfl mixed C_pool_Pool_All D_pool_Pool_All 400 (args := [.pointer p0, .int .i64 who1]) (by rw [E_pool_Pool_All]; exact hb)
theorem E_pool_Pool_All_5 (who1 : Int) (out5 : Sl) (t13 : Sl) (t14 : Int) (t15 : Int) : ev Try.prog 46 Try.f46.results.toList C_pool_Pool_All D_pool_Pool_All 400 true (todoOf Try.f46 5) (T_pool_Pool_All_5 who1 out5 t13 t14 t15) = B_pool_Pool_All_5 who1 out5 t13 t14 t15 := by kernel_rfl
theorem S_pool_Pool_All_5 (who1 : Int) (out5 : Sl) (t13 : Sl) (t14 : Int) (t15 : Int) {h : Hp} {Q : Value → Hp → Prop} (hb : B_pool_Pool_All_5 who1 out5 t13 t14 t15 h Q) : K_pool_Pool_All_5 who1 out5 t13 t14 t15 h Q :=
  Cut.of_ev Try.func46 mixed C_pool_Pool_All D_pool_Pool_All 400 (by rw [E_pool_Pool_All_5]; exact hb)
def C_signalboxlaw36_PoolApart : List (Nat × List Nat) := [(8, [0, 1, 5, 6, 20, 21, 22])]
def D_signalboxlaw36_PoolApart : List (Nat × List Nat) := []
def T_signalboxlaw36_PoolApart_8 (blocks0 : Int) (who1 : Sl) (p5 : Option Addr) (seen6 : Option Nat) (t20 : Sl) (t21 : Int) (t22 : Int) : Env := mkEnv [(0, .int .u8 blocks0), (1, .slice who1.p who1.n who1.c), (5, .pointer p5), (6, .map seen6), (20, .slice t20.p t20.n t20.c), (21, .int .i64 t21), (22, .int .i64 t22)] 68 0
def K_signalboxlaw36_PoolApart_8 (blocks0 : Int) (who1 : Sl) (p5 : Option Addr) (seen6 : Option Nat) (t20 : Sl) (t21 : Int) (t22 : Int) : M Value := Cut Try.prog 11 (todoOf Try.f11 8) (T_signalboxlaw36_PoolApart_8 blocks0 who1 p5 seen6 t20 t21 t22)
def B_signalboxlaw36_PoolApart (blocks0 : Int) (who1 : Sl) : M Value :=
  mBind (N_signalboxlaw36_fixed) fun r11 =>
  unB r11 fun (x11 : Bool) =>
  mIf (!x11) (
    mRet (.bool false)) (
    mIf (decide ((who1.n : Int) > (300 : Int))) (
      mRet (.bool true)) (
      mBind (N_pool_New (IntKind.i64.wrap blocks0)) fun r18 =>
      unP r18 fun (x18 : Option Addr) =>
      mMapNew fun (x19 : Nat) =>
      K_signalboxlaw36_PoolApart_8 blocks0 who1 x18 (some x19) who1 (who1.n : Int) (0 : Int)))
def B_signalboxlaw36_PoolApart_8 (blocks0 : Int) (who1 : Sl) (p5 : Option Addr) (seen6 : Option Nat) (t20 : Sl) (t21 : Int) (t22 : Int) : M Value :=
  mIf (decide (t22 < t21)) (
    mIdx t20 t22 1 fun (x25 : Addr) =>
    mLdI .i64 x25 fun (x26 : Int) =>
    mBind (N_pool_Pool_Get p5 x26) fun r30 =>
    un2 (unI .i64) (unI .i64) r30 fun (x30_0 : Int) (x30_1 : Int) =>
    mIf (decide (t22 ≥ (IntKind.i64.wrap blocks0))) (
      mIf (x30_1 != (8 : Int)) (
        mRet (.bool false)) (
        K_signalboxlaw36_PoolApart_8 blocks0 who1 p5 seen6 t20 t21 (IntKind.i64.wrap (t22 + (1 : Int))))) (
      mBind (mIf (((x30_1 != (0 : Int)) || (decide (x30_0 < (0 : Int)))) || (decide (x30_0 ≥ (IntKind.i64.wrap blocks0)))) (mRet true) (mNilM seen6 fun (m8 : Nat) =>
        mMapGet .i64 m8 x30_0 (.bool false) fun x54w (_x54b : Bool) =>
        unB x54w fun (x54 : Bool) =>
        mRet x54)) fun (b9 : Bool) =>
      mIf b9 (
        mRet (.bool false)) (
        mNilM seen6 fun (m11 : Nat) =>
        mMapSet .i64 m11 x30_0 (.bool true) <|
        K_signalboxlaw36_PoolApart_8 blocks0 who1 p5 seen6 t20 t21 (IntKind.i64.wrap (t22 + (1 : Int)))))) (
    mBind (N_pool_Pool_Free p5) fun r60 =>
    unI .i64 r60 fun (x60 : Int) =>
    mRet (.bool (x60 == (if (0 : Int) > (IntKind.i64.wrap ((IntKind.i64.wrap blocks0) - (who1.n : Int))) then (0 : Int) else (IntKind.i64.wrap ((IntKind.i64.wrap blocks0) - (who1.n : Int)))))))
theorem E_signalboxlaw36_PoolApart (blocks0 : Int) (who1 : Sl) : ev Try.prog 11 Try.f11.results.toList C_signalboxlaw36_PoolApart D_signalboxlaw36_PoolApart 400 false [.code (bodyOf Try.f11)] (List.map some [.int .u8 blocks0, .slice who1.p who1.n who1.c] ++ List.replicate (Try.f11.ntmps - List.length ([.int .u8 blocks0, .slice who1.p who1.n who1.c] : List Value)) none) = B_signalboxlaw36_PoolApart blocks0 who1 := by kernel_rfl
theorem S_signalboxlaw36_PoolApart (blocks0 : Int) (who1 : Sl) {h : Hp} {Q : Value → Hp → Prop} (hb : B_signalboxlaw36_PoolApart blocks0 who1 h Q) : N_signalboxlaw36_PoolApart blocks0 who1 h Q :=
  Nf.of_ev Try.call11 Try.func11 (c := bodyOf Try.f11) rfl mixed C_signalboxlaw36_PoolApart D_signalboxlaw36_PoolApart 400 (args := [.int .u8 blocks0, .slice who1.p who1.n who1.c]) (by rw [E_signalboxlaw36_PoolApart]; exact hb)
theorem E_signalboxlaw36_PoolApart_8 (blocks0 : Int) (who1 : Sl) (p5 : Option Addr) (seen6 : Option Nat) (t20 : Sl) (t21 : Int) (t22 : Int) : ev Try.prog 11 Try.f11.results.toList C_signalboxlaw36_PoolApart D_signalboxlaw36_PoolApart 400 true (todoOf Try.f11 8) (T_signalboxlaw36_PoolApart_8 blocks0 who1 p5 seen6 t20 t21 t22) = B_signalboxlaw36_PoolApart_8 blocks0 who1 p5 seen6 t20 t21 t22 := by kernel_rfl
theorem S_signalboxlaw36_PoolApart_8 (blocks0 : Int) (who1 : Sl) (p5 : Option Addr) (seen6 : Option Nat) (t20 : Sl) (t21 : Int) (t22 : Int) {h : Hp} {Q : Value → Hp → Prop} (hb : B_signalboxlaw36_PoolApart_8 blocks0 who1 p5 seen6 t20 t21 t22 h Q) : K_signalboxlaw36_PoolApart_8 blocks0 who1 p5 seen6 t20 t21 t22 h Q :=
  Cut.of_ev Try.func11 mixed C_signalboxlaw36_PoolApart D_signalboxlaw36_PoolApart 400 (by rw [E_signalboxlaw36_PoolApart_8]; exact hb)
def C_signalboxlaw36_PoolPlays : List (Nat × List Nat) := [(12, [0, 1, 2, 7, 12, 13]), (18, [0, 2, 7, 12, 14, 15, 16, 106, 107, 108]), (47, [0, 2, 7, 12, 14, 15, 16, 18, 23, 106, 107, 108, 216, 217]), (56, [0, 2, 7, 12, 14, 15, 16, 106, 107, 108]), (59, [0, 2, 7, 12, 14, 15, 16, 25, 26, 106, 107, 108, 253, 254])]
def D_signalboxlaw36_PoolPlays : List (Nat × List Nat) := [(15, []), (31, [])]
def T_signalboxlaw36_PoolPlays_12 (blocks0 : Int) (l1 : Sl) (who2 : Int) (p7 : Option Addr) (free12 : Sl) (i13 : Int) : Env := mkEnv [(0, .int .i64 blocks0), (1, .slice l1.p l1.n l1.c), (2, .int .i64 who2), (7, .pointer p7), (12, .slice free12.p free12.n free12.c), (13, .int .i64 i13)] 325 0
def K_signalboxlaw36_PoolPlays_12 (blocks0 : Int) (l1 : Sl) (who2 : Int) (p7 : Option Addr) (free12 : Sl) (i13 : Int) : M Value := Cut Try.prog 12 (todoOf Try.f12 12) (T_signalboxlaw36_PoolPlays_12 blocks0 l1 who2 p7 free12 i13)
def T_signalboxlaw36_PoolPlays_18 (blocks0 : Int) (who2 : Int) (p7 : Option Addr) (free12 : Sl) (taken14 : Sl) (owner15 : Sl) (low16 : Int) (t106 : Sl) (t107 : Int) (t108 : Int) : Env := mkEnv [(0, .int .i64 blocks0), (2, .int .i64 who2), (7, .pointer p7), (12, .slice free12.p free12.n free12.c), (14, .slice taken14.p taken14.n taken14.c), (15, .slice owner15.p owner15.n owner15.c), (16, .int .i64 low16), (106, .slice t106.p t106.n t106.c), (107, .int .i64 t107), (108, .int .i64 t108)] 325 0
def K_signalboxlaw36_PoolPlays_18 (blocks0 : Int) (who2 : Int) (p7 : Option Addr) (free12 : Sl) (taken14 : Sl) (owner15 : Sl) (low16 : Int) (t106 : Sl) (t107 : Int) (t108 : Int) : M Value := Cut Try.prog 12 (todoOf Try.f12 18) (T_signalboxlaw36_PoolPlays_18 blocks0 who2 p7 free12 taken14 owner15 low16 t106 t107 t108)
def T_signalboxlaw36_PoolPlays_47 (blocks0 : Int) (who2 : Int) (p7 : Option Addr) (free12 : Sl) (taken14 : Sl) (owner15 : Sl) (low16 : Int) (a18 : Addr) (n23 : Int) (t106 : Sl) (t107 : Int) (t108 : Int) (t216 : Int) (t217 : Int) : Env := mkEnv [(0, .int .i64 blocks0), (2, .int .i64 who2), (7, .pointer p7), (12, .slice free12.p free12.n free12.c), (14, .slice taken14.p taken14.n taken14.c), (15, .slice owner15.p owner15.n owner15.c), (16, .int .i64 low16), (18, .pointer (some a18)), (23, .int .i64 n23), (106, .slice t106.p t106.n t106.c), (107, .int .i64 t107), (108, .int .i64 t108), (216, .int .i64 t216), (217, .int .i64 t217)] 325 0
def K_signalboxlaw36_PoolPlays_47 (blocks0 : Int) (who2 : Int) (p7 : Option Addr) (free12 : Sl) (taken14 : Sl) (owner15 : Sl) (low16 : Int) (a18 : Addr) (n23 : Int) (t106 : Sl) (t107 : Int) (t108 : Int) (t216 : Int) (t217 : Int) : M Value := Cut Try.prog 12 (todoOf Try.f12 47) (T_signalboxlaw36_PoolPlays_47 blocks0 who2 p7 free12 taken14 owner15 low16 a18 n23 t106 t107 t108 t216 t217)
def T_signalboxlaw36_PoolPlays_56 (blocks0 : Int) (who2 : Int) (p7 : Option Addr) (free12 : Sl) (taken14 : Sl) (owner15 : Sl) (low16 : Int) (t106 : Sl) (t107 : Int) (t108 : Int) : Env := mkEnv [(0, .int .i64 blocks0), (2, .int .i64 who2), (7, .pointer p7), (12, .slice free12.p free12.n free12.c), (14, .slice taken14.p taken14.n taken14.c), (15, .slice owner15.p owner15.n owner15.c), (16, .int .i64 low16), (106, .slice t106.p t106.n t106.c), (107, .int .i64 t107), (108, .int .i64 t108)] 325 0
def K_signalboxlaw36_PoolPlays_56 (blocks0 : Int) (who2 : Int) (p7 : Option Addr) (free12 : Sl) (taken14 : Sl) (owner15 : Sl) (low16 : Int) (t106 : Sl) (t107 : Int) (t108 : Int) : M Value := Cut Try.prog 12 (todoOf Try.f12 56) (T_signalboxlaw36_PoolPlays_56 blocks0 who2 p7 free12 taken14 owner15 low16 t106 t107 t108)
def T_signalboxlaw36_PoolPlays_59 (blocks0 : Int) (who2 : Int) (p7 : Option Addr) (free12 : Sl) (taken14 : Sl) (owner15 : Sl) (low16 : Int) (mine25 : Sl) (at26 : Int) (t106 : Sl) (t107 : Int) (t108 : Int) (t253 : Int) (t254 : Int) : Env := mkEnv [(0, .int .i64 blocks0), (2, .int .i64 who2), (7, .pointer p7), (12, .slice free12.p free12.n free12.c), (14, .slice taken14.p taken14.n taken14.c), (15, .slice owner15.p owner15.n owner15.c), (16, .int .i64 low16), (25, .slice mine25.p mine25.n mine25.c), (26, .int .i64 at26), (106, .slice t106.p t106.n t106.c), (107, .int .i64 t107), (108, .int .i64 t108), (253, .int .i64 t253), (254, .int .i64 t254)] 325 0
def K_signalboxlaw36_PoolPlays_59 (blocks0 : Int) (who2 : Int) (p7 : Option Addr) (free12 : Sl) (taken14 : Sl) (owner15 : Sl) (low16 : Int) (mine25 : Sl) (at26 : Int) (t106 : Sl) (t107 : Int) (t108 : Int) (t253 : Int) (t254 : Int) : M Value := Cut Try.prog 12 (todoOf Try.f12 59) (T_signalboxlaw36_PoolPlays_59 blocks0 who2 p7 free12 taken14 owner15 low16 mine25 at26 t106 t107 t108 t253 t254)
def B_signalboxlaw36_PoolPlays (blocks0 : Int) (l1 : Sl) (who2 : Int) : M Value :=
  mBind (N_signalboxlaw36_fixed) fun r30 =>
  unB r30 fun (x30 : Bool) =>
  mIf (!x30) (
    mRet (.bool false)) (
    mBind (mIf (decide ((l1.n : Int) > (150 : Int))) (mRet true) (mRet ((decide (blocks0 > (200 : Int))) && (decide (blocks0 ≤ (1024 : Int)))))) fun (b2 : Bool) =>
    mIf b2 (
      mRet (.bool true)) (
      mBind (N_pool_New blocks0) fun r44 =>
      unP r44 fun (x44 : Option Addr) =>
      mIf ((decide (blocks0 < (0 : Int))) || (decide (blocks0 > (1024 : Int)))) (
        mBind (N_pool_Pool_Get x44 (1 : Int)) fun r53 =>
        un2 (unI .i64) (unI .i64) r53 fun (_x53_0 : Int) (x53_1 : Int) =>
        mBind (N_pool_Pool_Owner x44 (0 : Int)) fun r58 =>
        un2 (unI .i64) unB r58 fun (_x58_0 : Int) (x58_1 : Bool) =>
        mBind (mIf (x44.isNone && (x53_1 == (1 : Int))) (mBind (N_pool_Pool_Put x44 (0 : Int) (1 : Int)) fun r69 =>
          unI .i64 r69 fun (x69 : Int) =>
          mRet (x69 == (1 : Int))) (mRet false)) fun (b7 : Bool) =>
        mBind (mIf (b7 && (!x58_1)) (mBind (N_pool_Pool_Free x44) fun r78 =>
          unI .i64 r78 fun (x78 : Int) =>
          mBind (N_pool_Pool_Low x44) fun r80 =>
          unI .i64 r80 fun (x80 : Int) =>
          mBind (N_pool_Pool_Reclaim x44 (1 : Int)) fun r83 =>
          unI .i64 r83 fun (x83 : Int) =>
          mBind (N_pool_Pool_All x44 (1 : Int)) fun r86 =>
          unL r86 fun (x86 : Sl) =>
          mRet ((IntKind.i64.wrap ((IntKind.i64.wrap ((IntKind.i64.wrap (x78 + x80)) + x83)) + (x86.n : Int))) == (0 : Int))) (mRet false)) fun (b12 : Bool) =>
        mRet (.bool b12)) (
        K_signalboxlaw36_PoolPlays_12 blocks0 l1 who2 x44 (Sl.mk none 0 0) (IntKind.i64.wrap (blocks0 - (1 : Int))))))
def B_signalboxlaw36_PoolPlays_12 (blocks0 : Int) (l1 : Sl) (who2 : Int) (p7 : Option Addr) (free12 : Sl) (i13 : Int) : M Value :=
  mIf (decide (i13 ≥ (0 : Int))) (
    mNew #[.int .i64 i13] 3 fun (x99 : Addr) =>
    mApp 3 1 8 #[.int .i64 (0 : Int)] free12 ⟨(some x99), 1, 1⟩ fun (x100 : Sl) =>
    K_signalboxlaw36_PoolPlays_12 blocks0 l1 who2 p7 x100 (IntKind.i64.wrap (i13 - (1 : Int)))) (
    mAnd (
      mMake 4 1 #[.bool false] blocks0 blocks0 fun (x102_17 : Sl) =>
      mMake 3 8 #[.int .i64 (0 : Int)] blocks0 blocks0 fun (x104_18 : Sl) =>
      K_signalboxlaw36_PoolPlays_18 blocks0 who2 p7 free12 x102_17 x104_18 blocks0 l1 (l1.n : Int) (0 : Int)) (
      mMake 3 8 #[.int .i64 (0 : Int)] blocks0 blocks0 fun (x104 : Sl) =>
      mMake 4 1 #[.bool false] blocks0 blocks0 fun (x102 : Sl) =>
      K_signalboxlaw36_PoolPlays_18 blocks0 who2 p7 free12 x102 x104 blocks0 l1 (l1.n : Int) (0 : Int)))
def B_signalboxlaw36_PoolPlays_18 (blocks0 : Int) (who2 : Int) (p7 : Option Addr) (free12 : Sl) (taken14 : Sl) (owner15 : Sl) (low16 : Int) (t106 : Sl) (t107 : Int) (t108 : Int) : M Value :=
  mIf (decide (t108 < t107)) (
    mIdx t106 t108 3 fun (x110 : Addr) =>
    mLdI .u8 x110 fun (x111_0 : Int) =>
    mLdI .i64 (x110.add 1) fun (x111_1 : Int) =>
    mLdI .i64 (x110.add 2) fun (x111_2 : Int) =>
    mNew #[.int .u8 (0 : Int), .int .i64 (0 : Int), .int .i64 (0 : Int)] 99 fun (x18 : Addr) =>
    mSt x18 (.int .u8 x111_0) <|
    mSt (x18.add 1) (.int .i64 x111_1) <|
    mSt (x18.add 2) (.int .i64 x111_2) <|
    mLdI .u8 x18 fun (x113 : Int) =>
    mGuard ((3 : Int) ≠ 0) <|
    mIf ((Int.tmod x113 (3 : Int)) == (0 : Int)) (
      mLdI .i64 (x18.add 2) fun (x120 : Int) =>
      mBind (N_pool_Pool_Get p7 x120) fun r121 =>
      un2 (unI .i64) (unI .i64) r121 fun (x121_0 : Int) (x121_1 : Int) =>
      mIf ((free12.n : Int) == (0 : Int)) (
        mIf ((x121_1 != (8 : Int)) || (x121_0 != (0 : Int))) (
          mRet (.bool false)) (
          K_signalboxlaw36_PoolPlays_18 blocks0 who2 p7 free12 taken14 owner15 low16 t106 t107 (IntKind.i64.wrap (t108 + (1 : Int))))) (
        mIdx free12 (IntKind.i64.wrap ((free12.n : Int) - (1 : Int))) 1 fun (x137 : Addr) =>
        mLdI .i64 x137 fun (x138 : Int) =>
        mSlc free12 1 (0 : Int) (IntKind.i64.wrap ((free12.n : Int) - (1 : Int))) (free12.c : Int) fun (x143 : Sl) =>
        mIf ((x121_1 != (0 : Int)) || (x121_0 != x138)) (
          mRet (.bool false)) (
          mIdx taken14 x121_0 1 fun (x161 : Addr) =>
          mAnd (
            mLdI .i64 (x18.add 2) fun (x160_38 : Int) =>
            mSt x161 (.bool true) <|
            mIdx owner15 x121_0 1 fun (x162_40 : Addr) =>
            mSt x162_40 (.int .i64 x160_38) <|
            K_signalboxlaw36_PoolPlays_56 blocks0 who2 p7 x143 taken14 owner15 (if (x143.n : Int) < low16 then (x143.n : Int) else low16) t106 t107 t108) (
            mSt x161 (.bool true) <|
            mLdI .i64 (x18.add 2) fun (x160 : Int) =>
            mIdx owner15 x121_0 1 fun (x162 : Addr) =>
            mSt x162 (.int .i64 x160) <|
            K_signalboxlaw36_PoolPlays_56 blocks0 who2 p7 x143 taken14 owner15 (if (x143.n : Int) < low16 then (x143.n : Int) else low16) t106 t107 t108)))) (
      mIf ((Int.tmod x113 (3 : Int)) == (1 : Int)) (
        mLdI .i64 (x18.add 1) fun (x167 : Int) =>
        mLdI .i64 (x18.add 2) fun (x169 : Int) =>
        mBind (N_pool_Pool_Put p7 x167 x169) fun r170 =>
        unI .i64 r170 fun (x170 : Int) =>
        mLdI .i64 (x18.add 1) fun (x184 : Int) =>
        mBind (mIf (decide (x184 < (0 : Int))) (mRet true) (mLdI .i64 (x18.add 1) fun (x188 : Int) =>
          mRet (decide (x188 ≥ blocks0)))) fun (b51 : Bool) =>
        mIf b51 (
          mIf (x170 != (5 : Int)) (
            mRet (.bool false)) (
            K_signalboxlaw36_PoolPlays_56 blocks0 who2 p7 free12 taken14 owner15 low16 t106 t107 t108)) (
          mLdI .i64 (x18.add 1) fun (x197 : Int) =>
          mIdx taken14 x197 1 fun (x198 : Addr) =>
          mLdB x198 fun (x199 : Bool) =>
          mBind (mIf (!x199) (mRet true) (mLdI .i64 (x18.add 1) fun (x204 : Int) =>
            mIdx owner15 x204 1 fun (x205 : Addr) =>
            mLdI .i64 x205 fun (x206 : Int) =>
            mLdI .i64 (x18.add 2) fun (x208 : Int) =>
            mRet (x206 != x208))) fun (b62 : Bool) =>
          mIf b62 (
            mIf (x170 != (6 : Int)) (
              mRet (.bool false)) (
              K_signalboxlaw36_PoolPlays_56 blocks0 who2 p7 free12 taken14 owner15 low16 t106 t107 t108)) (
            mIf (x170 != (0 : Int)) (
              mRet (.bool false)) (
              mLdI .i64 (x18.add 1) fun (x175 : Int) =>
              mIdx taken14 x175 1 fun (x176 : Addr) =>
              mSt x176 (.bool false) <|
              mLdI .i64 (x18.add 1) fun (x179 : Int) =>
              mNew #[.int .i64 x179] 3 fun (x180 : Addr) =>
              mApp 3 1 8 #[.int .i64 (0 : Int)] free12 ⟨(some x180), 1, 1⟩ fun (x181 : Sl) =>
              K_signalboxlaw36_PoolPlays_56 blocks0 who2 p7 x181 taken14 owner15 low16 t106 t107 t108)))) (
        mIf ((Int.tmod x113 (3 : Int)) == (2 : Int)) (
          K_signalboxlaw36_PoolPlays_47 blocks0 who2 p7 free12 taken14 owner15 low16 x18 (0 : Int) t106 t107 t108 (taken14.n : Int) (0 : Int)) (
          K_signalboxlaw36_PoolPlays_56 blocks0 who2 p7 free12 taken14 owner15 low16 t106 t107 t108)))) (
    mRet (.bool true))
def B_signalboxlaw36_PoolPlays_47 (blocks0 : Int) (who2 : Int) (p7 : Option Addr) (free12 : Sl) (taken14 : Sl) (owner15 : Sl) (low16 : Int) (a18 : Addr) (n23 : Int) (t106 : Sl) (t107 : Int) (t108 : Int) (t216 : Int) (t217 : Int) : M Value :=
  mIf (decide (t217 < t216)) (
    mIdx taken14 t217 1 fun (x222 : Addr) =>
    mLdB x222 fun (x223 : Bool) =>
    mBind (mIf x223 (mIdx owner15 t217 1 fun (x227 : Addr) =>
      mLdI .i64 x227 fun (x228 : Int) =>
      mLdI .i64 (a18.add 2) fun (x230 : Int) =>
      mRet (x228 == x230)) (mRet false)) fun (b78 : Bool) =>
    mIf b78 (
      mIdx taken14 t217 1 fun (x235 : Addr) =>
      mSt x235 (.bool false) <|
      mNew #[.int .i64 t217] 3 fun (x238 : Addr) =>
      mApp 3 1 8 #[.int .i64 (0 : Int)] free12 ⟨(some x238), 1, 1⟩ fun (x239 : Sl) =>
      K_signalboxlaw36_PoolPlays_47 blocks0 who2 p7 x239 taken14 owner15 low16 a18 (IntKind.i64.wrap (n23 + (1 : Int))) t106 t107 t108 t216 (IntKind.i64.wrap (t217 + (1 : Int)))) (
      K_signalboxlaw36_PoolPlays_47 blocks0 who2 p7 free12 taken14 owner15 low16 a18 n23 t106 t107 t108 t216 (IntKind.i64.wrap (t217 + (1 : Int))))) (
    mLdI .i64 (a18.add 2) fun (x245 : Int) =>
    mBind (N_pool_Pool_Reclaim p7 x245) fun r246 =>
    unI .i64 r246 fun (x246 : Int) =>
    mIf (x246 != n23) (
      mRet (.bool false)) (
      K_signalboxlaw36_PoolPlays_56 blocks0 who2 p7 free12 taken14 owner15 low16 t106 t107 t108))
def B_signalboxlaw36_PoolPlays_56 (blocks0 : Int) (who2 : Int) (p7 : Option Addr) (free12 : Sl) (taken14 : Sl) (owner15 : Sl) (low16 : Int) (t106 : Sl) (t107 : Int) (t108 : Int) : M Value :=
  mBind (N_pool_Pool_All p7 who2) fun r251 =>
  unL r251 fun (x251 : Sl) =>
  K_signalboxlaw36_PoolPlays_59 blocks0 who2 p7 free12 taken14 owner15 low16 x251 (0 : Int) t106 t107 t108 (taken14.n : Int) (0 : Int)
def B_signalboxlaw36_PoolPlays_59 (blocks0 : Int) (who2 : Int) (p7 : Option Addr) (free12 : Sl) (taken14 : Sl) (owner15 : Sl) (low16 : Int) (mine25 : Sl) (at26 : Int) (t106 : Sl) (t107 : Int) (t108 : Int) (t253 : Int) (t254 : Int) : M Value :=
  mIf (decide (t254 < t253)) (
    mBind (N_pool_Pool_Owner p7 t254) fun r260 =>
    un2 (unI .i64) unB r260 fun (x260_0 : Int) (x260_1 : Bool) =>
    mIdx taken14 t254 1 fun (x266 : Addr) =>
    mLdB x266 fun (x267 : Bool) =>
    mBind (mIf (!(x260_1 == x267)) (mRet true) (mBind (mIf x260_1 (mIdx owner15 t254 1 fun (x275 : Addr) =>
      mLdI .i64 x275 fun (x276 : Int) =>
      mRet (x260_0 != x276)) (mRet false)) fun (b91 : Bool) =>
      mRet b91)) fun (b92 : Bool) =>
    mIf b92 (
      mRet (.bool false)) (
      mIdx taken14 t254 1 fun (x282 : Addr) =>
      mLdB x282 fun (x283 : Bool) =>
      mBind (mIf x283 (mIdx owner15 t254 1 fun (x287 : Addr) =>
        mLdI .i64 x287 fun (x288 : Int) =>
        mRet (x288 == who2)) (mRet false)) fun (b97 : Bool) =>
      mIf b97 (
        mBind (mIf (decide (at26 ≥ (mine25.n : Int))) (mRet true) (mIdx mine25 at26 1 fun (x299 : Addr) =>
          mLdI .i64 x299 fun (x300 : Int) =>
          mRet (x300 != t254))) fun (b100 : Bool) =>
        mIf b100 (
          mRet (.bool false)) (
          K_signalboxlaw36_PoolPlays_59 blocks0 who2 p7 free12 taken14 owner15 low16 mine25 (IntKind.i64.wrap (at26 + (1 : Int))) t106 t107 t108 t253 (IntKind.i64.wrap (t254 + (1 : Int))))) (
        K_signalboxlaw36_PoolPlays_59 blocks0 who2 p7 free12 taken14 owner15 low16 mine25 at26 t106 t107 t108 t253 (IntKind.i64.wrap (t254 + (1 : Int)))))) (
    mBind (mIf (at26 != (mine25.n : Int)) (mRet true) (mBind (N_pool_Pool_Free p7) fun r313 =>
      unI .i64 r313 fun (x313 : Int) =>
      mRet (x313 != (free12.n : Int)))) fun (b102 : Bool) =>
    mBind (mIf b102 (mRet true) (mBind (N_pool_Pool_Low p7) fun r320 =>
      unI .i64 r320 fun (x320 : Int) =>
      mRet (x320 != low16))) fun (b104 : Bool) =>
    mIf b104 (
      mRet (.bool false)) (
      K_signalboxlaw36_PoolPlays_18 blocks0 who2 p7 free12 taken14 owner15 low16 t106 t107 (IntKind.i64.wrap (t108 + (1 : Int)))))
theorem E_signalboxlaw36_PoolPlays (blocks0 : Int) (l1 : Sl) (who2 : Int) : ev Try.prog 12 Try.f12.results.toList C_signalboxlaw36_PoolPlays D_signalboxlaw36_PoolPlays 400 false [.code (bodyOf Try.f12)] (List.map some [.int .i64 blocks0, .slice l1.p l1.n l1.c, .int .i64 who2] ++ List.replicate (Try.f12.ntmps - List.length ([.int .i64 blocks0, .slice l1.p l1.n l1.c, .int .i64 who2] : List Value)) none) = B_signalboxlaw36_PoolPlays blocks0 l1 who2 := by kernel_rfl
theorem S_signalboxlaw36_PoolPlays (blocks0 : Int) (l1 : Sl) (who2 : Int) {h : Hp} {Q : Value → Hp → Prop} (hb : B_signalboxlaw36_PoolPlays blocks0 l1 who2 h Q) : N_signalboxlaw36_PoolPlays blocks0 l1 who2 h Q :=
  Nf.of_ev Try.call12 Try.func12 (c := bodyOf Try.f12) rfl mixed C_signalboxlaw36_PoolPlays D_signalboxlaw36_PoolPlays 400 (args := [.int .i64 blocks0, .slice l1.p l1.n l1.c, .int .i64 who2]) (by rw [E_signalboxlaw36_PoolPlays]; exact hb)
theorem E_signalboxlaw36_PoolPlays_12 (blocks0 : Int) (l1 : Sl) (who2 : Int) (p7 : Option Addr) (free12 : Sl) (i13 : Int) : ev Try.prog 12 Try.f12.results.toList C_signalboxlaw36_PoolPlays D_signalboxlaw36_PoolPlays 400 true (todoOf Try.f12 12) (T_signalboxlaw36_PoolPlays_12 blocks0 l1 who2 p7 free12 i13) = B_signalboxlaw36_PoolPlays_12 blocks0 l1 who2 p7 free12 i13 := by kernel_rfl
theorem S_signalboxlaw36_PoolPlays_12 (blocks0 : Int) (l1 : Sl) (who2 : Int) (p7 : Option Addr) (free12 : Sl) (i13 : Int) {h : Hp} {Q : Value → Hp → Prop} (hb : B_signalboxlaw36_PoolPlays_12 blocks0 l1 who2 p7 free12 i13 h Q) : K_signalboxlaw36_PoolPlays_12 blocks0 l1 who2 p7 free12 i13 h Q :=
  Cut.of_ev Try.func12 mixed C_signalboxlaw36_PoolPlays D_signalboxlaw36_PoolPlays 400 (by rw [E_signalboxlaw36_PoolPlays_12]; exact hb)
theorem E_signalboxlaw36_PoolPlays_18 (blocks0 : Int) (who2 : Int) (p7 : Option Addr) (free12 : Sl) (taken14 : Sl) (owner15 : Sl) (low16 : Int) (t106 : Sl) (t107 : Int) (t108 : Int) : ev Try.prog 12 Try.f12.results.toList C_signalboxlaw36_PoolPlays D_signalboxlaw36_PoolPlays 400 true (todoOf Try.f12 18) (T_signalboxlaw36_PoolPlays_18 blocks0 who2 p7 free12 taken14 owner15 low16 t106 t107 t108) = B_signalboxlaw36_PoolPlays_18 blocks0 who2 p7 free12 taken14 owner15 low16 t106 t107 t108 := by kernel_rfl
theorem S_signalboxlaw36_PoolPlays_18 (blocks0 : Int) (who2 : Int) (p7 : Option Addr) (free12 : Sl) (taken14 : Sl) (owner15 : Sl) (low16 : Int) (t106 : Sl) (t107 : Int) (t108 : Int) {h : Hp} {Q : Value → Hp → Prop} (hb : B_signalboxlaw36_PoolPlays_18 blocks0 who2 p7 free12 taken14 owner15 low16 t106 t107 t108 h Q) : K_signalboxlaw36_PoolPlays_18 blocks0 who2 p7 free12 taken14 owner15 low16 t106 t107 t108 h Q :=
  Cut.of_ev Try.func12 mixed C_signalboxlaw36_PoolPlays D_signalboxlaw36_PoolPlays 400 (by rw [E_signalboxlaw36_PoolPlays_18]; exact hb)
theorem E_signalboxlaw36_PoolPlays_47 (blocks0 : Int) (who2 : Int) (p7 : Option Addr) (free12 : Sl) (taken14 : Sl) (owner15 : Sl) (low16 : Int) (a18 : Addr) (n23 : Int) (t106 : Sl) (t107 : Int) (t108 : Int) (t216 : Int) (t217 : Int) : ev Try.prog 12 Try.f12.results.toList C_signalboxlaw36_PoolPlays D_signalboxlaw36_PoolPlays 400 true (todoOf Try.f12 47) (T_signalboxlaw36_PoolPlays_47 blocks0 who2 p7 free12 taken14 owner15 low16 a18 n23 t106 t107 t108 t216 t217) = B_signalboxlaw36_PoolPlays_47 blocks0 who2 p7 free12 taken14 owner15 low16 a18 n23 t106 t107 t108 t216 t217 := by kernel_rfl
theorem S_signalboxlaw36_PoolPlays_47 (blocks0 : Int) (who2 : Int) (p7 : Option Addr) (free12 : Sl) (taken14 : Sl) (owner15 : Sl) (low16 : Int) (a18 : Addr) (n23 : Int) (t106 : Sl) (t107 : Int) (t108 : Int) (t216 : Int) (t217 : Int) {h : Hp} {Q : Value → Hp → Prop} (hb : B_signalboxlaw36_PoolPlays_47 blocks0 who2 p7 free12 taken14 owner15 low16 a18 n23 t106 t107 t108 t216 t217 h Q) : K_signalboxlaw36_PoolPlays_47 blocks0 who2 p7 free12 taken14 owner15 low16 a18 n23 t106 t107 t108 t216 t217 h Q :=
  Cut.of_ev Try.func12 mixed C_signalboxlaw36_PoolPlays D_signalboxlaw36_PoolPlays 400 (by rw [E_signalboxlaw36_PoolPlays_47]; exact hb)
theorem E_signalboxlaw36_PoolPlays_56 (blocks0 : Int) (who2 : Int) (p7 : Option Addr) (free12 : Sl) (taken14 : Sl) (owner15 : Sl) (low16 : Int) (t106 : Sl) (t107 : Int) (t108 : Int) : ev Try.prog 12 Try.f12.results.toList C_signalboxlaw36_PoolPlays D_signalboxlaw36_PoolPlays 400 true (todoOf Try.f12 56) (T_signalboxlaw36_PoolPlays_56 blocks0 who2 p7 free12 taken14 owner15 low16 t106 t107 t108) = B_signalboxlaw36_PoolPlays_56 blocks0 who2 p7 free12 taken14 owner15 low16 t106 t107 t108 := by kernel_rfl
theorem S_signalboxlaw36_PoolPlays_56 (blocks0 : Int) (who2 : Int) (p7 : Option Addr) (free12 : Sl) (taken14 : Sl) (owner15 : Sl) (low16 : Int) (t106 : Sl) (t107 : Int) (t108 : Int) {h : Hp} {Q : Value → Hp → Prop} (hb : B_signalboxlaw36_PoolPlays_56 blocks0 who2 p7 free12 taken14 owner15 low16 t106 t107 t108 h Q) : K_signalboxlaw36_PoolPlays_56 blocks0 who2 p7 free12 taken14 owner15 low16 t106 t107 t108 h Q :=
  Cut.of_ev Try.func12 mixed C_signalboxlaw36_PoolPlays D_signalboxlaw36_PoolPlays 400 (by rw [E_signalboxlaw36_PoolPlays_56]; exact hb)
theorem E_signalboxlaw36_PoolPlays_59 (blocks0 : Int) (who2 : Int) (p7 : Option Addr) (free12 : Sl) (taken14 : Sl) (owner15 : Sl) (low16 : Int) (mine25 : Sl) (at26 : Int) (t106 : Sl) (t107 : Int) (t108 : Int) (t253 : Int) (t254 : Int) : ev Try.prog 12 Try.f12.results.toList C_signalboxlaw36_PoolPlays D_signalboxlaw36_PoolPlays 400 true (todoOf Try.f12 59) (T_signalboxlaw36_PoolPlays_59 blocks0 who2 p7 free12 taken14 owner15 low16 mine25 at26 t106 t107 t108 t253 t254) = B_signalboxlaw36_PoolPlays_59 blocks0 who2 p7 free12 taken14 owner15 low16 mine25 at26 t106 t107 t108 t253 t254 := by kernel_rfl
theorem S_signalboxlaw36_PoolPlays_59 (blocks0 : Int) (who2 : Int) (p7 : Option Addr) (free12 : Sl) (taken14 : Sl) (owner15 : Sl) (low16 : Int) (mine25 : Sl) (at26 : Int) (t106 : Sl) (t107 : Int) (t108 : Int) (t253 : Int) (t254 : Int) {h : Hp} {Q : Value → Hp → Prop} (hb : B_signalboxlaw36_PoolPlays_59 blocks0 who2 p7 free12 taken14 owner15 low16 mine25 at26 t106 t107 t108 t253 t254 h Q) : K_signalboxlaw36_PoolPlays_59 blocks0 who2 p7 free12 taken14 owner15 low16 mine25 at26 t106 t107 t108 t253 t254 h Q :=
  Cut.of_ev Try.func12 mixed C_signalboxlaw36_PoolPlays D_signalboxlaw36_PoolPlays 400 (by rw [E_signalboxlaw36_PoolPlays_59]; exact hb)
end Go.Proofs.Ytkoenpliddhhoaa
