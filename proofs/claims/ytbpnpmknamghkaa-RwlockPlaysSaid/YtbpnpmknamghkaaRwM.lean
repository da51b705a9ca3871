/- What the functions of this layer come to, as forms of the small logic; written by program. Conditions: none. -/
import Derived.Test.YtbpnpmknamghkaaSbU
import Derived.Test.YtbpnpmknamghkaaChecked
import Derived.KernelRfl
set_option maxRecDepth 100000
namespace Go.Proofs.Ytbpnpmknamghkaa
open Go Go.Sb
theorem mixed : Try.prog.follows .mixedOrders = true := by kernel_rfl
def N_signalboxlaw38_fixed : M Value := Nf Try.prog 42 #[]
def N_rwlock_New : M Value := Nf Try.prog 43 #[]
def N_signalboxlaw38_place (l0 : Sl) (who1 : Int) : M Value := Nf Try.prog 44 #[.slice l0.p l0.n l0.c, .int .i64 who1]
def N_rwlock_Lock_Leave (l0 : Option Addr) (who1 : Int) : M Value := Nf Try.prog 45 #[.pointer l0, .int .i64 who1]
def N_signalboxlaw38_same (l0 : Sl) (names1 : Sl) : M Value := Nf Try.prog 46 #[.slice l0.p l0.n l0.c, .slice names1.p names1.n names1.c]
def N_rwlock_Lock_Ask (l0 : Option Addr) (who1 : Int) (write2 : Bool) : M Value := Nf Try.prog 47 #[.pointer l0, .int .i64 who1, .bool write2]
def N_rwlock_Lock_Holders (l0 : Option Addr) : M Value := Nf Try.prog 48 #[.pointer l0]
def N_rwlock_Lock_Waiting (l0 : Option Addr) : M Value := Nf Try.prog 49 #[.pointer l0]
def N_rwlock_Lock_Holds (l0 : Option Addr) (who1 : Int) : M Value := Nf Try.prog 50 #[.pointer l0, .int .i64 who1]
def N_rwlock_drop (l0 : Option Addr) (who1 : Int) : M Value := Nf Try.prog 71 #[.pointer l0, .int .i64 who1]
def N_rwlock_Lock_grant (l0 : Option Addr) : M Value := Nf Try.prog 72 #[.pointer l0]
def N_rwlock_find (l0 : Sl) (who1 : Int) : M Value := Nf Try.prog 73 #[.slice l0.p l0.n l0.c, .int .i64 who1]
def N_rwlock_names (l0 : Sl) : M Value := Nf Try.prog 74 #[.slice l0.p l0.n l0.c]
def N_slices_Delete_rwlock_party_rwlock_party (s0 : Sl) (i1 : Int) (j2 : Int) : M Value := Nf Try.prog 83 #[.slice s0.p s0.n s0.c, .int .i64 i1, .int .i64 j2]
def N_slices_Clone_rwlock_party_rwlock_party (s0 : Sl) : M Value := Nf Try.prog 84 #[.slice s0.p s0.n s0.c]
def N_rwlock_Lock_may (l0 : Option Addr) (p1_0 : Int) (p1_1 : Bool) : M Value := Nf Try.prog 85 #[.pointer l0, .agg #[.int .i64 p1_0, .bool p1_1]]
def N_slices_IndexFunc_rwlock_party_rwlock_party (s0 : Sl) (f1g : Nat) (f1f : Array Value) (f1c : Array Value) : M Value := Nf Try.prog 86 #[.slice s0.p s0.n s0.c, .func (.func f1g) f1f f1c]
def N_rwlock_find_1 (p0_0 : Int) (p0_1 : Bool) (fv1 : Option Addr) : M Value := Nf Try.prog 87 #[.agg #[.int .i64 p0_0, .bool p0_1], .pointer fv1]
def N_signalboxlaw38_RwlockNone (who0 : Int) (write1 : Bool) : M Value := Nf Try.prog 12 #[.int .i64 who0, .bool write1]
def N_signalboxlaw38_RwlockShared (readers0 : Int) (later1 : Int) : M Value := Nf Try.prog 13 #[.int .u8 readers0, .int .u8 later1]
def N_signalboxlaw38_RwlockPlays (l0 : Sl) : M Value := Nf Try.prog 11 #[.slice l0.p l0.n l0.c]
def C_signalboxlaw38_fixed : List (Nat × List Nat) := []
def D_signalboxlaw38_fixed : List (Nat × List Nat) := []
def B_signalboxlaw38_fixed : M Value :=
  mBind (N_rwlock_New) fun r16 =>
  unP r16 fun (x16 : Option Addr) =>
  mBind (N_rwlock_Lock_Ask x16 (1 : Int) false) fun r19 =>
  un2 unB (unI .i64) r19 fun (x19_0 : Bool) (x19_1 : Int) =>
  mBind (N_rwlock_Lock_Ask x16 (2 : Int) true) fun r24 =>
  un2 unB (unI .i64) r24 fun (x24_0 : Bool) (x24_1 : Int) =>
  mBind (N_rwlock_Lock_Ask x16 (3 : Int) false) fun r29 =>
  un2 unB (unI .i64) r29 fun (x29_0 : Bool) (x29_1 : Int) =>
  mBind (N_rwlock_Lock_Ask x16 (3 : Int) true) fun r34 =>
  un2 unB (unI .i64) r34 fun (_x34_0 : Bool) (x34_1 : Int) =>
  mBind (N_rwlock_Lock_Leave x16 (1 : Int)) fun r39 =>
  un2 unL (unI .i64) r39 fun (x39_0 : Sl) (x39_1 : Int) =>
  mBind (N_rwlock_Lock_Holds x16 (2 : Int)) fun r44 =>
  un2 unB unB r44 fun (x44_0 : Bool) (x44_1 : Bool) =>
  mBind (N_rwlock_Lock_Leave x16 (2 : Int)) fun r49 =>
  un2 unL (unI .i64) r49 fun (x49_0 : Sl) (x49_1 : Int) =>
  mBind (mIf (((((((x19_0 && (x19_1 == (0 : Int))) && (!x24_0)) && (x24_1 == (0 : Int))) && (!x29_0)) && (x29_1 == (0 : Int))) && (x34_1 == (10 : Int))) && ((x39_0.n : Int) == (1 : Int))) (mIdx x39_0 (0 : Int) 1 fun (x84 : Addr) =>
    mLdI .i64 x84 fun (x85 : Int) =>
    mRet (x85 == (2 : Int))) (mRet false)) fun (b11 : Bool) =>
  mBind (mIf ((((b11 && (x39_1 == (0 : Int))) && x44_0) && x44_1) && ((x49_0.n : Int) == (1 : Int))) (mIdx x49_0 (0 : Int) 1 fun (x105 : Addr) =>
    mLdI .i64 x105 fun (x106 : Int) =>
    mRet (x106 == (3 : Int))) (mRet false)) fun (b14 : Bool) =>
  mRet (.bool (b14 && (x49_1 == (0 : Int))))
theorem E_signalboxlaw38_fixed : ev Try.prog 42 Try.f42.results.toList C_signalboxlaw38_fixed D_signalboxlaw38_fixed 400 false [.code (bodyOf Try.f42)] (List.map some [] ++ List.replicate (Try.f42.ntmps - List.length ([] : List Value)) none) = B_signalboxlaw38_fixed := by kernel_rfl
theorem S_signalboxlaw38_fixed {h : Hp} {Q : Value → Hp → Prop} (hb : B_signalboxlaw38_fixed h Q) : N_signalboxlaw38_fixed h Q :=
  Nf.of_ev Try.call42 Try.func42 (c := bodyOf Try.f42) rfl mixed C_signalboxlaw38_fixed D_signalboxlaw38_fixed 400 (args := []) (by rw [E_signalboxlaw38_fixed]; exact hb)
def C_rwlock_New : List (Nat × List Nat) := []
def D_rwlock_New : List (Nat × List Nat) := []
def B_rwlock_New : M Value :=
  mNew #[.slice none (0) (0), .slice none (0) (0)] 113 fun (x2 : Addr) =>
  mRet (.pointer (some x2))
theorem E_rwlock_New : ev Try.prog 43 Try.f43.results.toList C_rwlock_New D_rwlock_New 400 false [.code (bodyOf Try.f43)] (List.map some [] ++ List.replicate (Try.f43.ntmps - List.length ([] : List Value)) none) = B_rwlock_New := by kernel_rfl
theorem S_rwlock_New {h : Hp} {Q : Value → Hp → Prop} (hb : B_rwlock_New h Q) : N_rwlock_New h Q :=
  Nf.of_ev Try.call43 Try.func43 (c := bodyOf Try.f43) rfl mixed C_rwlock_New D_rwlock_New 400 (args := []) (by rw [E_rwlock_New]; exact hb)
def C_signalboxlaw38_place : List (Nat × List Nat) := [(2, [1, 7, 8, 9])]
def D_signalboxlaw38_place : List (Nat × List Nat) := []
def T_signalboxlaw38_place_2 (who1 : Int) (t7 : Sl) (t8 : Int) (t9 : Int) : Env := mkEnv [(1, .int .i64 who1), (7, .slice t7.p t7.n t7.c), (8, .int .i64 t8), (9, .int .i64 t9)] 20 0
def K_signalboxlaw38_place_2 (who1 : Int) (t7 : Sl) (t8 : Int) (t9 : Int) : M Value := Cut Try.prog 44 (todoOf Try.f44 2) (T_signalboxlaw38_place_2 who1 t7 t8 t9)
def B_signalboxlaw38_place (l0 : Sl) (who1 : Int) : M Value :=
  K_signalboxlaw38_place_2 who1 l0 (l0.n : Int) (0 : Int)
def B_signalboxlaw38_place_2 (who1 : Int) (t7 : Sl) (t8 : Int) (t9 : Int) : M Value :=
  mIf (decide (t9 < t8)) (
    mIdx t7 t9 2 fun (x12 : Addr) =>
    mLdI .i64 x12 fun (x13_0 : Int) =>
    mLdB (x12.add 1) fun (x13_1 : Bool) =>
    mNew #[.int .i64 (0 : Int), .bool false] 84 fun (x6 : Addr) =>
    mSt x6 (.int .i64 x13_0) <|
    mSt (x6.add 1) (.bool x13_1) <|
    mLdI .i64 x6 fun (x15 : Int) =>
    mIf (x15 == who1) (
      mRet (.int .i64 t9)) (
      K_signalboxlaw38_place_2 who1 t7 t8 (IntKind.i64.wrap (t9 + (1 : Int))))) (
    mRet (.int .i64 (-1 : Int)))
theorem E_signalboxlaw38_place (l0 : Sl) (who1 : Int) : ev Try.prog 44 Try.f44.results.toList C_signalboxlaw38_place D_signalboxlaw38_place 400 false [.code (bodyOf Try.f44)] (List.map some [.slice l0.p l0.n l0.c, .int .i64 who1] ++ List.replicate (Try.f44.ntmps - List.length ([.slice l0.p l0.n l0.c, .int .i64 who1] : List Value)) none) = B_signalboxlaw38_place l0 who1 := by kernel_rfl
theorem S_signalboxlaw38_place (l0 : Sl) (who1 : Int) {h : Hp} {Q : Value → Hp → Prop} (hb : B_signalboxlaw38_place l0 who1 h Q) : N_signalboxlaw38_place l0 who1 h Q :=
  Nf.of_ev Try.call44 Try.func44 (c := bodyOf Try.f44) rfl mixed C_signalboxlaw38_place D_signalboxlaw38_place 400 (args := [.slice l0.p l0.n l0.c, .int .i64 who1]) (by rw [E_signalboxlaw38_place]; exact hb)
theorem E_signalboxlaw38_place_2 (who1 : Int) (t7 : Sl) (t8 : Int) (t9 : Int) : ev Try.prog 44 Try.f44.results.toList C_signalboxlaw38_place D_signalboxlaw38_place 400 true (todoOf Try.f44 2) (T_signalboxlaw38_place_2 who1 t7 t8 t9) = B_signalboxlaw38_place_2 who1 t7 t8 t9 := by kernel_rfl
theorem S_signalboxlaw38_place_2 (who1 : Int) (t7 : Sl) (t8 : Int) (t9 : Int) {h : Hp} {Q : Value → Hp → Prop} (hb : B_signalboxlaw38_place_2 who1 t7 t8 t9 h Q) : K_signalboxlaw38_place_2 who1 t7 t8 t9 h Q :=
  Cut.of_ev Try.func44 mixed C_signalboxlaw38_place D_signalboxlaw38_place 400 (by rw [E_signalboxlaw38_place_2]; exact hb)
def C_rwlock_Lock_Leave : List (Nat × List Nat) := []
def D_rwlock_Lock_Leave : List (Nat × List Nat) := []
def B_rwlock_Lock_Leave (l0 : Option Addr) (who1 : Int) : M Value :=
  mIf l0.isNone (
    mRet (.tuple #[.slice none (0) (0), .int .i64 (1 : Int)])) (
    mNil l0 fun (a2 : Addr) =>
    mBind (N_rwlock_drop (some a2) who1) fun r14 =>
    unB r14 fun (x14 : Bool) =>
    mBind (mIf (!x14) (mNil l0 fun (a6 : Addr) =>
      mBind (N_rwlock_drop (some (a6.add 1)) who1) fun r21 =>
      unB r21 fun (x21 : Bool) =>
      mRet (!x21)) (mRet false)) fun (b9 : Bool) =>
    mIf b9 (
      mRet (.tuple #[.slice none (0) (0), .int .i64 (6 : Int)])) (
      mBind (N_rwlock_Lock_grant l0) fun r25 =>
      unL r25 fun (x25 : Sl) =>
      mRet (.tuple #[.slice x25.p x25.n x25.c, .int .i64 (0 : Int)])))
theorem E_rwlock_Lock_Leave (l0 : Option Addr) (who1 : Int) : ev Try.prog 45 Try.f45.results.toList C_rwlock_Lock_Leave D_rwlock_Lock_Leave 400 false [.code (bodyOf Try.f45)] (List.map some [.pointer l0, .int .i64 who1] ++ List.replicate (Try.f45.ntmps - List.length ([.pointer l0, .int .i64 who1] : List Value)) none) = B_rwlock_Lock_Leave l0 who1 := by kernel_rfl
theorem S_rwlock_Lock_Leave (l0 : Option Addr) (who1 : Int) {h : Hp} {Q : Value → Hp → Prop} (hb : B_rwlock_Lock_Leave l0 who1 h Q) : N_rwlock_Lock_Leave l0 who1 h Q :=
  Nf.of_ev Try.call45 Try.func45 (c := bodyOf Try.f45) rfl mixed C_rwlock_Lock_Leave D_rwlock_Lock_Leave 400 (args := [.pointer l0, .int .i64 who1]) (by rw [E_rwlock_Lock_Leave]; exact hb)
def C_signalboxlaw38_same : List (Nat × List Nat) := [(4, [0, 1, 12, 13])]
def D_signalboxlaw38_same : List (Nat × List Nat) := []
def T_signalboxlaw38_same_4 (l0 : Sl) (names1 : Sl) (t12 : Int) (t13 : Int) : Env := mkEnv [(0, .slice l0.p l0.n l0.c), (1, .slice names1.p names1.n names1.c), (12, .int .i64 t12), (13, .int .i64 t13)] 27 0
def K_signalboxlaw38_same_4 (l0 : Sl) (names1 : Sl) (t12 : Int) (t13 : Int) : M Value := Cut Try.prog 46 (todoOf Try.f46 4) (T_signalboxlaw38_same_4 l0 names1 t12 t13)
def B_signalboxlaw38_same (l0 : Sl) (names1 : Sl) : M Value :=
  mIf ((l0.n : Int) != (names1.n : Int)) (
    mRet (.bool false)) (
    K_signalboxlaw38_same_4 l0 names1 (l0.n : Int) (0 : Int))
def B_signalboxlaw38_same_4 (l0 : Sl) (names1 : Sl) (t12 : Int) (t13 : Int) : M Value :=
  mIf (decide (t13 < t12)) (
    mIdx l0 t13 2 fun (x18 : Addr) =>
    mLdI .i64 x18 fun (x20 : Int) =>
    mIdx names1 t13 1 fun (x23 : Addr) =>
    mLdI .i64 x23 fun (x24 : Int) =>
    mIf (x20 != x24) (
      mRet (.bool false)) (
      K_signalboxlaw38_same_4 l0 names1 t12 (IntKind.i64.wrap (t13 + (1 : Int))))) (
    mRet (.bool true))
theorem E_signalboxlaw38_same (l0 : Sl) (names1 : Sl) : ev Try.prog 46 Try.f46.results.toList C_signalboxlaw38_same D_signalboxlaw38_same 400 false [.code (bodyOf Try.f46)] (List.map some [.slice l0.p l0.n l0.c, .slice names1.p names1.n names1.c] ++ List.replicate (Try.f46.ntmps - List.length ([.slice l0.p l0.n l0.c, .slice names1.p names1.n names1.c] : List Value)) none) = B_signalboxlaw38_same l0 names1 := by kernel_rfl
theorem S_signalboxlaw38_same (l0 : Sl) (names1 : Sl) {h : Hp} {Q : Value → Hp → Prop} (hb : B_signalboxlaw38_same l0 names1 h Q) : N_signalboxlaw38_same l0 names1 h Q :=
  Nf.of_ev Try.call46 Try.func46 (c := bodyOf Try.f46) rfl mixed C_signalboxlaw38_same D_signalboxlaw38_same 400 (args := [.slice l0.p l0.n l0.c, .slice names1.p names1.n names1.c]) (by rw [E_signalboxlaw38_same]; exact hb)
theorem E_signalboxlaw38_same_4 (l0 : Sl) (names1 : Sl) (t12 : Int) (t13 : Int) : ev Try.prog 46 Try.f46.results.toList C_signalboxlaw38_same D_signalboxlaw38_same 400 true (todoOf Try.f46 4) (T_signalboxlaw38_same_4 l0 names1 t12 t13) = B_signalboxlaw38_same_4 l0 names1 t12 t13 := by kernel_rfl
theorem S_signalboxlaw38_same_4 (l0 : Sl) (names1 : Sl) (t12 : Int) (t13 : Int) {h : Hp} {Q : Value → Hp → Prop} (hb : B_signalboxlaw38_same_4 l0 names1 t12 t13 h Q) : K_signalboxlaw38_same_4 l0 names1 t12 t13 h Q :=
  Cut.of_ev Try.func46 mixed C_signalboxlaw38_same D_signalboxlaw38_same 400 (by rw [E_signalboxlaw38_same_4]; exact hb)
def C_rwlock_Lock_Ask : List (Nat × List Nat) := []
def D_rwlock_Lock_Ask : List (Nat × List Nat) := []
def B_rwlock_Lock_Ask (l0 : Option Addr) (who1 : Int) (write2 : Bool) : M Value :=
  mIf l0.isNone (
    mRet (.tuple #[.bool false, .int .i64 (1 : Int)])) (
    mNil l0 fun (a2 : Addr) =>
    mLdL a2 fun (x15 : Sl) =>
    mBind (N_rwlock_find x15 who1) fun r17 =>
    unI .i64 r17 fun (x17 : Int) =>
    mBind (mIf (decide (x17 ≥ (0 : Int))) (mRet true) (mNil l0 fun (a7 : Addr) =>
      mLdL (a7.add 1) fun (x23 : Sl) =>
      mBind (N_rwlock_find x23 who1) fun r25 =>
      unI .i64 r25 fun (x25 : Int) =>
      mRet (decide (x25 ≥ (0 : Int))))) fun (b11 : Bool) =>
    mIf b11 (
      mRet (.tuple #[.bool false, .int .i64 (10 : Int)])) (
      mNil l0 fun (a13 : Addr) =>
      mLdL a13 fun (x32 : Sl) =>
      mNil l0 fun (a17 : Addr) =>
      mLdL (a17.add 1) fun (x37 : Sl) =>
      mIf (decide ((IntKind.i64.wrap ((x32.n : Int) + (x37.n : Int))) ≥ (256 : Int))) (
        mRet (.tuple #[.bool false, .int .i64 (7 : Int)])) (
        mNil l0 fun (a21 : Addr) =>
        mLdL (a21.add 1) fun (x45 : Sl) =>
        mNew #[.int .i64 who1, .bool write2] 118 fun (x49 : Addr) =>
        mApp 118 2 16 #[.int .i64 (0 : Int), .bool false] x45 ⟨(some x49), 1, 1⟩ fun (x50 : Sl) =>
        mNil l0 fun (a27 : Addr) =>
        mSt (a27.add 1) (.slice x50.p x50.n x50.c) <|
        mBind (N_rwlock_Lock_grant l0) fun r54 =>
        unL r54 fun (_x54 : Sl) =>
        mNil l0 fun (a32 : Addr) =>
        mLdL a32 fun (x58 : Sl) =>
        mBind (N_rwlock_find x58 who1) fun r60 =>
        unI .i64 r60 fun (x60 : Int) =>
        mRet (.tuple #[.bool (decide (x60 ≥ (0 : Int))), .int .i64 (0 : Int)]))))
theorem E_rwlock_Lock_Ask (l0 : Option Addr) (who1 : Int) (write2 : Bool) : ev Try.prog 47 Try.f47.results.toList C_rwlock_Lock_Ask D_rwlock_Lock_Ask 400 false [.code (bodyOf Try.f47)] (List.map some [.pointer l0, .int .i64 who1, .bool write2] ++ List.replicate (Try.f47.ntmps - List.length ([.pointer l0, .int .i64 who1, .bool write2] : List Value)) none) = B_rwlock_Lock_Ask l0 who1 write2 := by kernel_rfl
theorem S_rwlock_Lock_Ask (l0 : Option Addr) (who1 : Int) (write2 : Bool) {h : Hp} {Q : Value → Hp → Prop} (hb : B_rwlock_Lock_Ask l0 who1 write2 h Q) : N_rwlock_Lock_Ask l0 who1 write2 h Q :=
  Nf.of_ev Try.call47 Try.func47 (c := bodyOf Try.f47) rfl mixed C_rwlock_Lock_Ask D_rwlock_Lock_Ask 400 (args := [.pointer l0, .int .i64 who1, .bool write2]) (by rw [E_rwlock_Lock_Ask]; exact hb)
def C_rwlock_Lock_Holders : List (Nat × List Nat) := []
def D_rwlock_Lock_Holders : List (Nat × List Nat) := []
def B_rwlock_Lock_Holders (l0 : Option Addr) : M Value :=
  mIf l0.isNone (
    mRet (.slice none (0) (0))) (
    mNil l0 fun (a2 : Addr) =>
    mLdL a2 fun (x8 : Sl) =>
    mBind (N_rwlock_names x8) fun r9 =>
    unL r9 fun (x9 : Sl) =>
    mRet (.slice x9.p x9.n x9.c))
theorem E_rwlock_Lock_Holders (l0 : Option Addr) : ev Try.prog 48 Try.f48.results.toList C_rwlock_Lock_Holders D_rwlock_Lock_Holders 400 false [.code (bodyOf Try.f48)] (List.map some [.pointer l0] ++ List.replicate (Try.f48.ntmps - List.length ([.pointer l0] : List Value)) none) = B_rwlock_Lock_Holders l0 := by kernel_rfl
theorem S_rwlock_Lock_Holders (l0 : Option Addr) {h : Hp} {Q : Value → Hp → Prop} (hb : B_rwlock_Lock_Holders l0 h Q) : N_rwlock_Lock_Holders l0 h Q :=
  Nf.of_ev Try.call48 Try.func48 (c := bodyOf Try.f48) rfl mixed C_rwlock_Lock_Holders D_rwlock_Lock_Holders 400 (args := [.pointer l0]) (by rw [E_rwlock_Lock_Holders]; exact hb)
def C_rwlock_Lock_Waiting : List (Nat × List Nat) := []
def D_rwlock_Lock_Waiting : List (Nat × List Nat) := []
def B_rwlock_Lock_Waiting (l0 : Option Addr) : M Value :=
  mIf l0.isNone (
    mRet (.slice none (0) (0))) (
    mNil l0 fun (a2 : Addr) =>
    mLdL (a2.add 1) fun (x8 : Sl) =>
    mBind (N_rwlock_names x8) fun r9 =>
    unL r9 fun (x9 : Sl) =>
    mRet (.slice x9.p x9.n x9.c))
theorem E_rwlock_Lock_Waiting (l0 : Option Addr) : ev Try.prog 49 Try.f49.results.toList C_rwlock_Lock_Waiting D_rwlock_Lock_Waiting 400 false [.code (bodyOf Try.f49)] (List.map some [.pointer l0] ++ List.replicate (Try.f49.ntmps - List.length ([.pointer l0] : List Value)) none) = B_rwlock_Lock_Waiting l0 := by kernel_rfl
theorem S_rwlock_Lock_Waiting (l0 : Option Addr) {h : Hp} {Q : Value → Hp → Prop} (hb : B_rwlock_Lock_Waiting l0 h Q) : N_rwlock_Lock_Waiting l0 h Q :=
  Nf.of_ev Try.call49 Try.func49 (c := bodyOf Try.f49) rfl mixed C_rwlock_Lock_Waiting D_rwlock_Lock_Waiting 400 (args := [.pointer l0]) (by rw [E_rwlock_Lock_Waiting]; exact hb)
def C_rwlock_Lock_Holds : List (Nat × List Nat) := []
def D_rwlock_Lock_Holds : List (Nat × List Nat) := []
def B_rwlock_Lock_Holds (l0 : Option Addr) (who1 : Int) : M Value :=
  mIf l0.isNone (
    mRet (.tuple #[.bool false, .bool false])) (
    mNil l0 fun (a2 : Addr) =>
    mLdL a2 fun (x12 : Sl) =>
    mBind (N_rwlock_find x12 who1) fun r14 =>
    unI .i64 r14 fun (x14 : Int) =>
    mBind (mIf (decide (x14 ≥ (0 : Int))) (mNil l0 fun (a7 : Addr) =>
      mLdL a7 fun (x23 : Sl) =>
      mIdx x23 x14 2 fun (x25 : Addr) =>
      mLdB (x25.add 1) fun (x27 : Bool) =>
      mRet x27) (mRet false)) fun (b13 : Bool) =>
    mRet (.tuple #[.bool (decide (x14 ≥ (0 : Int))), .bool b13]))
theorem E_rwlock_Lock_Holds (l0 : Option Addr) (who1 : Int) : ev Try.prog 50 Try.f50.results.toList C_rwlock_Lock_Holds D_rwlock_Lock_Holds 400 false [.code (bodyOf Try.f50)] (List.map some [.pointer l0, .int .i64 who1] ++ List.replicate (Try.f50.ntmps - List.length ([.pointer l0, .int .i64 who1] : List Value)) none) = B_rwlock_Lock_Holds l0 who1 := by kernel_rfl
theorem S_rwlock_Lock_Holds (l0 : Option Addr) (who1 : Int) {h : Hp} {Q : Value → Hp → Prop} (hb : B_rwlock_Lock_Holds l0 who1 h Q) : N_rwlock_Lock_Holds l0 who1 h Q :=
  Nf.of_ev Try.call50 Try.func50 (c := bodyOf Try.f50) rfl mixed C_rwlock_Lock_Holds D_rwlock_Lock_Holds 400 (args := [.pointer l0, .int .i64 who1]) (by rw [E_rwlock_Lock_Holds]; exact hb)
def C_rwlock_drop : List (Nat × List Nat) := []
def D_rwlock_drop : List (Nat × List Nat) := []
def B_rwlock_drop (l0 : Option Addr) (who1 : Int) : M Value :=
  mNil l0 fun (a2 : Addr) =>
  mLdL a2 fun (x8 : Sl) =>
  mBind (N_rwlock_find x8 who1) fun r10 =>
  unI .i64 r10 fun (x10 : Int) =>
  mIf (decide (x10 < (0 : Int))) (
    mRet (.bool false)) (
    mNil l0 fun (a6 : Addr) =>
    mLdL a6 fun (x16 : Sl) =>
    mBind (N_slices_Clone_rwlock_party_rwlock_party x16) fun r17 =>
    unL r17 fun (x17 : Sl) =>
    mBind (N_slices_Delete_rwlock_party_rwlock_party x17 x10 (IntKind.i64.wrap (x10 + (1 : Int)))) fun r21 =>
    unL r21 fun (x21 : Sl) =>
    mNil l0 fun (a11 : Addr) =>
    mSt a11 (.slice x21.p x21.n x21.c) <|
    mRet (.bool true))
theorem E_rwlock_drop (l0 : Option Addr) (who1 : Int) : ev Try.prog 71 Try.f71.results.toList C_rwlock_drop D_rwlock_drop 400 false [.code (bodyOf Try.f71)] (List.map some [.pointer l0, .int .i64 who1] ++ List.replicate (Try.f71.ntmps - List.length ([.pointer l0, .int .i64 who1] : List Value)) none) = B_rwlock_drop l0 who1 := by kernel_rfl
theorem S_rwlock_drop (l0 : Option Addr) (who1 : Int) {h : Hp} {Q : Value → Hp → Prop} (hb : B_rwlock_drop l0 who1 h Q) : N_rwlock_drop l0 who1 h Q :=
  Nf.of_ev Try.call71 Try.func71 (c := bodyOf Try.f71) rfl mixed C_rwlock_drop D_rwlock_drop 400 (args := [.pointer l0, .int .i64 who1]) (by rw [E_rwlock_drop]; exact hb)
def C_rwlock_Lock_grant : List (Nat × List Nat) := [(2, [0, 3]), (4, [0, 3])]
def D_rwlock_Lock_grant : List (Nat × List Nat) := [(3, [])]
def T_rwlock_Lock_grant_2 (l0 : Option Addr) (out3 : Sl) : Env := mkEnv [(0, .pointer l0), (3, .slice out3.p out3.n out3.c)] 54 0
def K_rwlock_Lock_grant_2 (l0 : Option Addr) (out3 : Sl) : M Value := Cut Try.prog 72 (todoOf Try.f72 2) (T_rwlock_Lock_grant_2 l0 out3)
def T_rwlock_Lock_grant_4 (l0 : Option Addr) (out3 : Sl) : Env := mkEnv [(0, .pointer l0), (3, .slice out3.p out3.n out3.c)] 54 0
def K_rwlock_Lock_grant_4 (l0 : Option Addr) (out3 : Sl) : M Value := Cut Try.prog 72 (todoOf Try.f72 4) (T_rwlock_Lock_grant_4 l0 out3)
def B_rwlock_Lock_grant (l0 : Option Addr) : M Value :=
  K_rwlock_Lock_grant_2 l0 (Sl.mk none 0 0)
def B_rwlock_Lock_grant_2 (l0 : Option Addr) (out3 : Sl) : M Value :=
  mNil l0 fun (a2 : Addr) =>
  mLdL (a2.add 1) fun (x7 : Sl) =>
  mBind (mIf (decide ((x7.n : Int) > (0 : Int))) (mNil l0 fun (a6 : Addr) =>
    mLdL (a6.add 1) fun (x15 : Sl) =>
    mIdx x15 (0 : Int) 2 fun (x16 : Addr) =>
    mLdI .i64 x16 fun (x17_0 : Int) =>
    mLdB (x16.add 1) fun (x17_1 : Bool) =>
    mBind (N_rwlock_Lock_may l0 x17_0 x17_1) fun r18 =>
    unB r18 fun (x18 : Bool) =>
    mRet x18) (mRet false)) fun (b12 : Bool) =>
  mIf b12 (
    mNil l0 fun (a14 : Addr) =>
    mNil l0 fun (a17 : Addr) =>
    mAnd (
      mLdL a14 fun (x24_44 : Sl) =>
      mLdL (a17.add 1) fun (x28_45 : Sl) =>
      mIdx x28_45 (0 : Int) 2 fun (x29_46 : Addr) =>
      mLdI .i64 x29_46 fun (x30_47_0 : Int) =>
      mLdB (x29_46.add 1) fun (x30_47_1 : Bool) =>
      mNew #[.int .i64 x30_47_0, .bool x30_47_1] 118 fun (x31_48 : Addr) =>
      mApp 118 2 16 #[.int .i64 (0 : Int), .bool false] x24_44 ⟨(some x31_48), 1, 1⟩ fun (x32_49 : Sl) =>
      mNil l0 fun (a51 : Addr) =>
      mSt a51 (.slice x32_49.p x32_49.n x32_49.c) <|
      K_rwlock_Lock_grant_4 l0 out3) (
      mLdL (a17.add 1) fun (x28 : Sl) =>
      mIdx x28 (0 : Int) 2 fun (x29 : Addr) =>
      mAnd (
        mLdL a14 fun (x24_36 : Sl) =>
        mLdI .i64 x29 fun (x30_37_0 : Int) =>
        mLdB (x29.add 1) fun (x30_37_1 : Bool) =>
        mNew #[.int .i64 x30_37_0, .bool x30_37_1] 118 fun (x31_38 : Addr) =>
        mApp 118 2 16 #[.int .i64 (0 : Int), .bool false] x24_36 ⟨(some x31_38), 1, 1⟩ fun (x32_39 : Sl) =>
        mNil l0 fun (a41 : Addr) =>
        mSt a41 (.slice x32_39.p x32_39.n x32_39.c) <|
        K_rwlock_Lock_grant_4 l0 out3) (
        mLdI .i64 x29 fun (x30_0 : Int) =>
        mLdB (x29.add 1) fun (x30_1 : Bool) =>
        mAnd (
          mLdL a14 fun (x24_29 : Sl) =>
          mNew #[.int .i64 x30_0, .bool x30_1] 118 fun (x31_30 : Addr) =>
          mApp 118 2 16 #[.int .i64 (0 : Int), .bool false] x24_29 ⟨(some x31_30), 1, 1⟩ fun (x32_31 : Sl) =>
          mNil l0 fun (a33 : Addr) =>
          mSt a33 (.slice x32_31.p x32_31.n x32_31.c) <|
          K_rwlock_Lock_grant_4 l0 out3) (
          mNew #[.int .i64 x30_0, .bool x30_1] 118 fun (x31 : Addr) =>
          mLdL a14 fun (x24 : Sl) =>
          mApp 118 2 16 #[.int .i64 (0 : Int), .bool false] x24 ⟨(some x31), 1, 1⟩ fun (x32 : Sl) =>
          mNil l0 fun (a26 : Addr) =>
          mSt a26 (.slice x32.p x32.n x32.c) <|
          K_rwlock_Lock_grant_4 l0 out3)))) (
    mRet (.slice out3.p out3.n out3.c))
def B_rwlock_Lock_grant_4 (l0 : Option Addr) (out3 : Sl) : M Value :=
  mNil l0 fun (a55 : Addr) =>
  mLdL (a55.add 1) fun (x39 : Sl) =>
  mIdx x39 (0 : Int) 2 fun (x40 : Addr) =>
  mLdI .i64 x40 fun (x42 : Int) =>
  mNew #[.int .i64 x42] 3 fun (x43 : Addr) =>
  mApp 3 1 8 #[.int .i64 (0 : Int)] out3 ⟨(some x43), 1, 1⟩ fun (x44 : Sl) =>
  mNil l0 fun (a64 : Addr) =>
  mLdL (a64.add 1) fun (x49 : Sl) =>
  mSlc x49 2 (1 : Int) (x49.n : Int) (x49.c : Int) fun (x50 : Sl) =>
  mNil l0 fun (a69 : Addr) =>
  mSt (a69.add 1) (.slice x50.p x50.n x50.c) <|
  K_rwlock_Lock_grant_2 l0 x44
theorem E_rwlock_Lock_grant (l0 : Option Addr) : ev Try.prog 72 Try.f72.results.toList C_rwlock_Lock_grant D_rwlock_Lock_grant 400 false [.code (bodyOf Try.f72)] (List.map some [.pointer l0] ++ List.replicate (Try.f72.ntmps - List.length ([.pointer l0] : List Value)) none) = B_rwlock_Lock_grant l0 := by kernel_rfl
theorem S_rwlock_Lock_grant (l0 : Option Addr) {h : Hp} {Q : Value → Hp → Prop} (hb : B_rwlock_Lock_grant l0 h Q) : N_rwlock_Lock_grant l0 h Q :=
  Nf.of_ev Try.call72 Try.func72 (c := bodyOf Try.f72) rfl mixed C_rwlock_Lock_grant D_rwlock_Lock_grant 400 (args := [.pointer l0]) (by rw [E_rwlock_Lock_grant]; exact hb)
theorem E_rwlock_Lock_grant_2 (l0 : Option Addr) (out3 : Sl) : ev Try.prog 72 Try.f72.results.toList C_rwlock_Lock_grant D_rwlock_Lock_grant 400 true (todoOf Try.f72 2) (T_rwlock_Lock_grant_2 l0 out3) = B_rwlock_Lock_grant_2 l0 out3 := by kernel_rfl
theorem S_rwlock_Lock_grant_2 (l0 : Option Addr) (out3 : Sl) {h : Hp} {Q : Value → Hp → Prop} (hb : B_rwlock_Lock_grant_2 l0 out3 h Q) : K_rwlock_Lock_grant_2 l0 out3 h Q :=
  Cut.of_ev Try.func72 mixed C_rwlock_Lock_grant D_rwlock_Lock_grant 400 (by rw [E_rwlock_Lock_grant_2]; exact hb)
theorem E_rwlock_Lock_grant_4 (l0 : Option Addr) (out3 : Sl) : ev Try.prog 72 Try.f72.results.toList C_rwlock_Lock_grant D_rwlock_Lock_grant 400 true (todoOf Try.f72 4) (T_rwlock_Lock_grant_4 l0 out3) = B_rwlock_Lock_grant_4 l0 out3 := by kernel_rfl
theorem S_rwlock_Lock_grant_4 (l0 : Option Addr) (out3 : Sl) {h : Hp} {Q : Value → Hp → Prop} (hb : B_rwlock_Lock_grant_4 l0 out3 h Q) : K_rwlock_Lock_grant_4 l0 out3 h Q :=
  Cut.of_ev Try.func72 mixed C_rwlock_Lock_grant D_rwlock_Lock_grant 400 (by rw [E_rwlock_Lock_grant_4]; exact hb)
def C_rwlock_find : List (Nat × List Nat) := []
def D_rwlock_find : List (Nat × List Nat) := []
def B_rwlock_find (l0 : Sl) (who1 : Int) : M Value :=
  mNew #[.int .i64 who1] 3 fun (x3 : Addr) =>
  mBind (N_slices_IndexFunc_rwlock_party_rwlock_party l0 (87) (#[]) (#[.pointer (some x3)])) fun r7 =>
  unI .i64 r7 fun (x7 : Int) =>
  mRet (.int .i64 x7)
theorem E_rwlock_find (l0 : Sl) (who1 : Int) : ev Try.prog 73 Try.f73.results.toList C_rwlock_find D_rwlock_find 400 false [.code (bodyOf Try.f73)] (List.map some [.slice l0.p l0.n l0.c, .int .i64 who1] ++ List.replicate (Try.f73.ntmps - List.length ([.slice l0.p l0.n l0.c, .int .i64 who1] : List Value)) none) = B_rwlock_find l0 who1 := by kernel_rfl
theorem S_rwlock_find (l0 : Sl) (who1 : Int) {h : Hp} {Q : Value → Hp → Prop} (hb : B_rwlock_find l0 who1 h Q) : N_rwlock_find l0 who1 h Q :=
  Nf.of_ev Try.call73 Try.func73 (c := bodyOf Try.f73) rfl mixed C_rwlock_find D_rwlock_find 400 (args := [.slice l0.p l0.n l0.c, .int .i64 who1]) (by rw [E_rwlock_find]; exact hb)
def C_rwlock_names : List (Nat × List Nat) := [(3, [3, 6, 7, 8])]
def D_rwlock_names : List (Nat × List Nat) := []
def T_rwlock_names_3 (out3 : Sl) (t6 : Sl) (t7 : Int) (t8 : Int) : Env := mkEnv [(3, .slice out3.p out3.n out3.c), (6, .slice t6.p t6.n t6.c), (7, .int .i64 t7), (8, .int .i64 t8)] 19 0
def K_rwlock_names_3 (out3 : Sl) (t6 : Sl) (t7 : Int) (t8 : Int) : M Value := Cut Try.prog 74 (todoOf Try.f74 3) (T_rwlock_names_3 out3 t6 t7 t8)
def B_rwlock_names (l0 : Sl) : M Value :=
  K_rwlock_names_3 (Sl.mk none 0 0) l0 (l0.n : Int) (0 : Int)
def B_rwlock_names_3 (out3 : Sl) (t6 : Sl) (t7 : Int) (t8 : Int) : M Value :=
  mIf (decide (t8 < t7)) (
    mIdx t6 t8 2 fun (x10 : Addr) =>
    mLdI .i64 x10 fun (x11_0 : Int) =>
    mLdB (x10.add 1) fun (x11_1 : Bool) =>
    mNew #[.int .i64 (0 : Int), .bool false] 118 fun (x5 : Addr) =>
    mSt x5 (.int .i64 x11_0) <|
    mSt (x5.add 1) (.bool x11_1) <|
    mLdI .i64 x5 fun (x14 : Int) =>
    mNew #[.int .i64 x14] 3 fun (x15 : Addr) =>
    mApp 3 1 8 #[.int .i64 (0 : Int)] out3 ⟨(some x15), 1, 1⟩ fun (x16 : Sl) =>
    K_rwlock_names_3 x16 t6 t7 (IntKind.i64.wrap (t8 + (1 : Int)))) (
    mRet (.slice out3.p out3.n out3.c))
theorem E_rwlock_names (l0 : Sl) : ev Try.prog 74 Try.f74.results.toList C_rwlock_names D_rwlock_names 400 false [.code (bodyOf Try.f74)] (List.map some [.slice l0.p l0.n l0.c] ++ List.replicate (Try.f74.ntmps - List.length ([.slice l0.p l0.n l0.c] : List Value)) none) = B_rwlock_names l0 := by kernel_rfl
theorem S_rwlock_names (l0 : Sl) {h : Hp} {Q : Value → Hp → Prop} (hb : B_rwlock_names l0 h Q) : N_rwlock_names l0 h Q :=
  Nf.of_ev Try.call74 Try.func74 (c := bodyOf Try.f74) rfl mixed C_rwlock_names D_rwlock_names 400 (args := [.slice l0.p l0.n l0.c]) (by rw [E_rwlock_names]; exact hb)
theorem E_rwlock_names_3 (out3 : Sl) (t6 : Sl) (t7 : Int) (t8 : Int) : ev Try.prog 74 Try.f74.results.toList C_rwlock_names D_rwlock_names 400 true (todoOf Try.f74 3) (T_rwlock_names_3 out3 t6 t7 t8) = B_rwlock_names_3 out3 t6 t7 t8 := by kernel_rfl
theorem S_rwlock_names_3 (out3 : Sl) (t6 : Sl) (t7 : Int) (t8 : Int) {h : Hp} {Q : Value → Hp → Prop} (hb : B_rwlock_names_3 out3 t6 t7 t8 h Q) : K_rwlock_names_3 out3 t6 t7 t8 h Q :=
  Cut.of_ev Try.func74 mixed C_rwlock_names D_rwlock_names 400 (by rw [E_rwlock_names_3]; exact hb)
def C_slices_Delete_rwlock_party_rwlock_party : List (Nat × List Nat) := []
def D_slices_Delete_rwlock_party_rwlock_party : List (Nat × List Nat) := [(5, [])]
def B_slices_Delete_rwlock_party_rwlock_party (s0 : Sl) (i1 : Int) (j2 : Int) : M Value :=
  mSlc s0 2 i1 j2 (s0.n : Int) fun (_x13 : Sl) =>
  mIf (i1 == j2) (
    mRet (.slice s0.p s0.n s0.c)) (
    mSlc s0 2 (0 : Int) i1 (s0.c : Int) fun (x22 : Sl) =>
    mSlc s0 2 j2 (s0.n : Int) (s0.c : Int) fun (x25 : Sl) =>
    mApp 118 2 16 #[.int .i64 (0 : Int), .bool false] x22 x25 fun (x26 : Sl) =>
    mSlc x26 2 (x26.n : Int) (s0.n : Int) (x26.c : Int) fun (x31 : Sl) =>
    mClear 2 #[.int .i64 (0 : Int), .bool false] x31 <|
    mRet (.slice x26.p x26.n x26.c))
theorem E_slices_Delete_rwlock_party_rwlock_party (s0 : Sl) (i1 : Int) (j2 : Int) : ev Try.prog 83 Try.f83.results.toList C_slices_Delete_rwlock_party_rwlock_party D_slices_Delete_rwlock_party_rwlock_party 400 false [.code (bodyOf Try.f83)] (List.map some [.slice s0.p s0.n s0.c, .int .i64 i1, .int .i64 j2] ++ List.replicate (Try.f83.ntmps - List.length ([.slice s0.p s0.n s0.c, .int .i64 i1, .int .i64 j2] : List Value)) none) = B_slices_Delete_rwlock_party_rwlock_party s0 i1 j2 := by kernel_rfl
theorem S_slices_Delete_rwlock_party_rwlock_party (s0 : Sl) (i1 : Int) (j2 : Int) {h : Hp} {Q : Value → Hp → Prop} (hb : B_slices_Delete_rwlock_party_rwlock_party s0 i1 j2 h Q) : N_slices_Delete_rwlock_party_rwlock_party s0 i1 j2 h Q :=
  Nf.of_ev Try.call83 Try.func83 (c := bodyOf Try.f83) rfl mixed C_slices_Delete_rwlock_party_rwlock_party D_slices_Delete_rwlock_party_rwlock_party 400 (args := [.slice s0.p s0.n s0.c, .int .i64 i1, .int .i64 j2]) (by rw [E_slices_Delete_rwlock_party_rwlock_party]; exact hb)
def C_slices_Clone_rwlock_party_rwlock_party : List (Nat × List Nat) := []
def D_slices_Clone_rwlock_party_rwlock_party : List (Nat × List Nat) := []
def B_slices_Clone_rwlock_party_rwlock_party (s0 : Sl) : M Value :=
  mIf s0.p.isNone (
    mRet (.slice none (0) (0))) (
    mNew #[] 118 fun (x5 : Addr) =>
    mApp 118 2 16 #[.int .i64 (0 : Int), .bool false] ⟨(some x5), 0, 0⟩ s0 fun (x7 : Sl) =>
    mRet (.slice x7.p x7.n x7.c))
theorem E_slices_Clone_rwlock_party_rwlock_party (s0 : Sl) : ev Try.prog 84 Try.f84.results.toList C_slices_Clone_rwlock_party_rwlock_party D_slices_Clone_rwlock_party_rwlock_party 400 false [.code (bodyOf Try.f84)] (List.map some [.slice s0.p s0.n s0.c] ++ List.replicate (Try.f84.ntmps - List.length ([.slice s0.p s0.n s0.c] : List Value)) none) = B_slices_Clone_rwlock_party_rwlock_party s0 := by kernel_rfl
theorem S_slices_Clone_rwlock_party_rwlock_party (s0 : Sl) {h : Hp} {Q : Value → Hp → Prop} (hb : B_slices_Clone_rwlock_party_rwlock_party s0 h Q) : N_slices_Clone_rwlock_party_rwlock_party s0 h Q :=
  Nf.of_ev Try.call84 Try.func84 (c := bodyOf Try.f84) rfl mixed C_slices_Clone_rwlock_party_rwlock_party D_slices_Clone_rwlock_party_rwlock_party 400 (args := [.slice s0.p s0.n s0.c]) (by rw [E_slices_Clone_rwlock_party_rwlock_party]; exact hb)
def C_rwlock_Lock_may : List (Nat × List Nat) := []
def D_rwlock_Lock_may : List (Nat × List Nat) := []
def B_rwlock_Lock_may (l0 : Option Addr) (p1_0 : Int) (p1_1 : Bool) : M Value :=
  mNew #[.int .i64 p1_0, .bool p1_1] 118 fun (x3 : Addr) =>
  mLdB (x3.add 1) fun (x6 : Bool) =>
  mIf x6 (
    mNil l0 fun (a5 : Addr) =>
    mLdL a5 fun (x10 : Sl) =>
    mRet (.bool ((x10.n : Int) == (0 : Int)))) (
    mNil l0 fun (a9 : Addr) =>
    mLdL a9 fun (x16 : Sl) =>
    mBind (mIf ((x16.n : Int) == (0 : Int)) (mRet true) (mNil l0 fun (a13 : Addr) =>
      mLdL a13 fun (x23 : Sl) =>
      mIdx x23 (0 : Int) 2 fun (x24 : Addr) =>
      mLdB (x24.add 1) fun (x26 : Bool) =>
      mRet (!x26))) fun (b19 : Bool) =>
    mRet (.bool b19))
theorem E_rwlock_Lock_may (l0 : Option Addr) (p1_0 : Int) (p1_1 : Bool) : ev Try.prog 85 Try.f85.results.toList C_rwlock_Lock_may D_rwlock_Lock_may 400 false [.code (bodyOf Try.f85)] (List.map some [.pointer l0, .agg #[.int .i64 p1_0, .bool p1_1]] ++ List.replicate (Try.f85.ntmps - List.length ([.pointer l0, .agg #[.int .i64 p1_0, .bool p1_1]] : List Value)) none) = B_rwlock_Lock_may l0 p1_0 p1_1 := by kernel_rfl
theorem S_rwlock_Lock_may (l0 : Option Addr) (p1_0 : Int) (p1_1 : Bool) {h : Hp} {Q : Value → Hp → Prop} (hb : B_rwlock_Lock_may l0 p1_0 p1_1 h Q) : N_rwlock_Lock_may l0 p1_0 p1_1 h Q :=
  Nf.of_ev Try.call85 Try.func85 (c := bodyOf Try.f85) rfl mixed C_rwlock_Lock_may D_rwlock_Lock_may 400 (args := [.pointer l0, .agg #[.int .i64 p1_0, .bool p1_1]]) (by rw [E_rwlock_Lock_may]; exact hb)
def C_slices_IndexFunc_rwlock_party_rwlock_party : List (Nat × List Nat) := [(2, [0, 1, 7, 8])]
def D_slices_IndexFunc_rwlock_party_rwlock_party : List (Nat × List Nat) := []
def T_slices_IndexFunc_rwlock_party_rwlock_party_2 (s0 : Sl) (f1g : Nat) (f1f : Array Value) (f1c : Array Value) (t7 : Int) (t8 : Int) : Env := mkEnv [(0, .slice s0.p s0.n s0.c), (1, .func (.func f1g) f1f f1c), (7, .int .i64 t7), (8, .int .i64 t8)] 19 0
def K_slices_IndexFunc_rwlock_party_rwlock_party_2 (s0 : Sl) (f1g : Nat) (f1f : Array Value) (f1c : Array Value) (t7 : Int) (t8 : Int) : M Value := Cut Try.prog 86 (todoOf Try.f86 2) (T_slices_IndexFunc_rwlock_party_rwlock_party_2 s0 f1g f1f f1c t7 t8)
def B_slices_IndexFunc_rwlock_party_rwlock_party (s0 : Sl) (f1g : Nat) (f1f : Array Value) (f1c : Array Value) : M Value :=
  K_slices_IndexFunc_rwlock_party_rwlock_party_2 s0 f1g f1f f1c (s0.n : Int) (0 : Int)
def B_slices_IndexFunc_rwlock_party_rwlock_party_2 (s0 : Sl) (f1g : Nat) (f1f : Array Value) (f1c : Array Value) (t7 : Int) (t8 : Int) : M Value :=
  mIf (decide (t8 < t7)) (
    mIdx s0 t8 2 fun (x14 : Addr) =>
    mLdI .i64 x14 fun (x15_0 : Int) =>
    mLdB (x14.add 1) fun (x15_1 : Bool) =>
    mBind (Nf Try.prog f1g (f1f ++ #[.agg #[.int .i64 x15_0, .bool x15_1]] ++ f1c)) fun r16 =>
    unB r16 fun (x16 : Bool) =>
    mIf x16 (
      mRet (.int .i64 t8)) (
      K_slices_IndexFunc_rwlock_party_rwlock_party_2 s0 f1g f1f f1c t7 (IntKind.i64.wrap (t8 + (1 : Int))))) (
    mRet (.int .i64 (-1 : Int)))
theorem E_slices_IndexFunc_rwlock_party_rwlock_party (s0 : Sl) (f1g : Nat) (f1f : Array Value) (f1c : Array Value) : ev Try.prog 86 Try.f86.results.toList C_slices_IndexFunc_rwlock_party_rwlock_party D_slices_IndexFunc_rwlock_party_rwlock_party 400 false [.code (bodyOf Try.f86)] (List.map some [.slice s0.p s0.n s0.c, .func (.func f1g) f1f f1c] ++ List.replicate (Try.f86.ntmps - List.length ([.slice s0.p s0.n s0.c, .func (.func f1g) f1f f1c] : List Value)) none) = B_slices_IndexFunc_rwlock_party_rwlock_party s0 f1g f1f f1c := by kernel_rfl
theorem S_slices_IndexFunc_rwlock_party_rwlock_party (s0 : Sl) (f1g : Nat) (f1f : Array Value) (f1c : Array Value) {h : Hp} {Q : Value → Hp → Prop} (hb : B_slices_IndexFunc_rwlock_party_rwlock_party s0 f1g f1f f1c h Q) : N_slices_IndexFunc_rwlock_party_rwlock_party s0 f1g f1f f1c h Q :=
  Nf.of_ev Try.call86 Try.func86 (c := bodyOf Try.f86) rfl mixed C_slices_IndexFunc_rwlock_party_rwlock_party D_slices_IndexFunc_rwlock_party_rwlock_party 400 (args := [.slice s0.p s0.n s0.c, .func (.func f1g) f1f f1c]) (by rw [E_slices_IndexFunc_rwlock_party_rwlock_party]; exact hb)
theorem E_slices_IndexFunc_rwlock_party_rwlock_party_2 (s0 : Sl) (f1g : Nat) (f1f : Array Value) (f1c : Array Value) (t7 : Int) (t8 : Int) : ev Try.prog 86 Try.f86.results.toList C_slices_IndexFunc_rwlock_party_rwlock_party D_slices_IndexFunc_rwlock_party_rwlock_party 400 true (todoOf Try.f86 2) (T_slices_IndexFunc_rwlock_party_rwlock_party_2 s0 f1g f1f f1c t7 t8) = B_slices_IndexFunc_rwlock_party_rwlock_party_2 s0 f1g f1f f1c t7 t8 := by kernel_rfl
theorem S_slices_IndexFunc_rwlock_party_rwlock_party_2 (s0 : Sl) (f1g : Nat) (f1f : Array Value) (f1c : Array Value) (t7 : Int) (t8 : Int) {h : Hp} {Q : Value → Hp → Prop} (hb : B_slices_IndexFunc_rwlock_party_rwlock_party_2 s0 f1g f1f f1c t7 t8 h Q) : K_slices_IndexFunc_rwlock_party_rwlock_party_2 s0 f1g f1f f1c t7 t8 h Q :=
  Cut.of_ev Try.func86 mixed C_slices_IndexFunc_rwlock_party_rwlock_party D_slices_IndexFunc_rwlock_party_rwlock_party 400 (by rw [E_slices_IndexFunc_rwlock_party_rwlock_party_2]; exact hb)
def C_rwlock_find_1 : List (Nat × List Nat) := []
def D_rwlock_find_1 : List (Nat × List Nat) := []
def B_rwlock_find_1 (p0_0 : Int) (p0_1 : Bool) (fv1 : Option Addr) : M Value :=
  mNew #[.int .i64 p0_0, .bool p0_1] 118 fun (x2 : Addr) =>
  mLdI .i64 x2 fun (x5 : Int) =>
  mNil fv1 fun (a5 : Addr) =>
  mLdI .i64 a5 fun (x6 : Int) =>
  mRet (.bool (x5 == x6))
theorem E_rwlock_find_1 (p0_0 : Int) (p0_1 : Bool) (fv1 : Option Addr) : ev Try.prog 87 Try.f87.results.toList C_rwlock_find_1 D_rwlock_find_1 400 false [.code (bodyOf Try.f87)] (List.map some [.agg #[.int .i64 p0_0, .bool p0_1], .pointer fv1] ++ List.replicate (Try.f87.ntmps - List.length ([.agg #[.int .i64 p0_0, .bool p0_1], .pointer fv1] : List Value)) none) = B_rwlock_find_1 p0_0 p0_1 fv1 := by kernel_rfl
theorem S_rwlock_find_1 (p0_0 : Int) (p0_1 : Bool) (fv1 : Option Addr) {h : Hp} {Q : Value → Hp → Prop} (hb : B_rwlock_find_1 p0_0 p0_1 fv1 h Q) : N_rwlock_find_1 p0_0 p0_1 fv1 h Q :=
  Nf.of_ev Try.call87 Try.func87 (c := bodyOf Try.f87) rfl mixed C_rwlock_find_1 D_rwlock_find_1 400 (args := [.agg #[.int .i64 p0_0, .bool p0_1], .pointer fv1]) (by rw [E_rwlock_find_1]; exact hb)
def C_signalboxlaw38_RwlockNone : List (Nat × List Nat) := []
def D_signalboxlaw38_RwlockNone : List (Nat × List Nat) := []
def B_signalboxlaw38_RwlockNone (who0 : Int) (write1 : Bool) : M Value :=
  mBind (N_signalboxlaw38_fixed) fun r12 =>
  unB r12 fun (x12 : Bool) =>
  mIf (!x12) (
    mRet (.bool false)) (
    mBind (N_rwlock_Lock_Ask none who0 write1) fun r18 =>
    un2 unB (unI .i64) r18 fun (x18_0 : Bool) (x18_1 : Int) =>
    mBind (N_rwlock_Lock_Leave none who0) fun r24 =>
    un2 unL (unI .i64) r24 fun (x24_0 : Sl) (x24_1 : Int) =>
    mBind (N_rwlock_Lock_Holds none who0) fun r30 =>
    un2 unB unB r30 fun (x30_0 : Bool) (x30_1 : Bool) =>
    mBind (mIf ((((((!x18_0) && (x18_1 == (1 : Int))) && ((x24_0.n : Int) == (0 : Int))) && (x24_1 == (1 : Int))) && (!x30_0)) && (!x30_1)) (mBind (N_rwlock_Lock_Holders none) fun r58 =>
      unL r58 fun (x58 : Sl) =>
      mBind (N_rwlock_Lock_Waiting none) fun r61 =>
      unL r61 fun (x61 : Sl) =>
      mRet ((IntKind.i64.wrap ((x58.n : Int) + (x61.n : Int))) == (0 : Int))) (mRet false)) fun (b7 : Bool) =>
    mRet (.bool b7))
theorem E_signalboxlaw38_RwlockNone (who0 : Int) (write1 : Bool) : ev Try.prog 12 Try.f12.results.toList C_signalboxlaw38_RwlockNone D_signalboxlaw38_RwlockNone 400 false [.code (bodyOf Try.f12)] (List.map some [.int .i64 who0, .bool write1] ++ List.replicate (Try.f12.ntmps - List.length ([.int .i64 who0, .bool write1] : List Value)) none) = B_signalboxlaw38_RwlockNone who0 write1 := by kernel_rfl
theorem S_signalboxlaw38_RwlockNone (who0 : Int) (write1 : Bool) {h : Hp} {Q : Value → Hp → Prop} (hb : B_signalboxlaw38_RwlockNone who0 write1 h Q) : N_signalboxlaw38_RwlockNone who0 write1 h Q :=
  Nf.of_ev Try.call12 Try.func12 (c := bodyOf Try.f12) rfl mixed C_signalboxlaw38_RwlockNone D_signalboxlaw38_RwlockNone 400 (args := [.int .i64 who0, .bool write1]) (by rw [E_signalboxlaw38_RwlockNone]; exact hb)
def C_signalboxlaw38_RwlockShared : List (Nat × List Nat) := [(6, [5, 6, 7, 31, 32]), (16, [5, 6, 7, 58, 59]), (23, [5, 6, 7, 75, 76])]
def D_signalboxlaw38_RwlockShared : List (Nat × List Nat) := []
def T_signalboxlaw38_RwlockShared_6 (n5 : Int) (m6 : Int) (l7 : Option Addr) (t31 : Int) (t32 : Int) : Env := mkEnv [(5, .int .i64 n5), (6, .int .i64 m6), (7, .pointer l7), (31, .int .i64 t31), (32, .int .i64 t32)] 135 0
def K_signalboxlaw38_RwlockShared_6 (n5 : Int) (m6 : Int) (l7 : Option Addr) (t31 : Int) (t32 : Int) : M Value := Cut Try.prog 13 (todoOf Try.f13 6) (T_signalboxlaw38_RwlockShared_6 n5 m6 l7 t31 t32)
def T_signalboxlaw38_RwlockShared_16 (n5 : Int) (m6 : Int) (l7 : Option Addr) (t58 : Int) (t59 : Int) : Env := mkEnv [(5, .int .i64 n5), (6, .int .i64 m6), (7, .pointer l7), (58, .int .i64 t58), (59, .int .i64 t59)] 135 0
def K_signalboxlaw38_RwlockShared_16 (n5 : Int) (m6 : Int) (l7 : Option Addr) (t58 : Int) (t59 : Int) : M Value := Cut Try.prog 13 (todoOf Try.f13 16) (T_signalboxlaw38_RwlockShared_16 n5 m6 l7 t58 t59)
def T_signalboxlaw38_RwlockShared_23 (n5 : Int) (m6 : Int) (l7 : Option Addr) (t75 : Int) (t76 : Int) : Env := mkEnv [(5, .int .i64 n5), (6, .int .i64 m6), (7, .pointer l7), (75, .int .i64 t75), (76, .int .i64 t76)] 135 0
def K_signalboxlaw38_RwlockShared_23 (n5 : Int) (m6 : Int) (l7 : Option Addr) (t75 : Int) (t76 : Int) : M Value := Cut Try.prog 13 (todoOf Try.f13 23) (T_signalboxlaw38_RwlockShared_23 n5 m6 l7 t75 t76)
def B_signalboxlaw38_RwlockShared (readers0 : Int) (later1 : Int) : M Value :=
  mBind (N_signalboxlaw38_fixed) fun r21 =>
  unB r21 fun (x21 : Bool) =>
  mIf (!x21) (
    mRet (.bool false)) (
    mGuard ((60 : Int) ≠ 0) <|
    mGuard ((60 : Int) ≠ 0) <|
    mBind (N_rwlock_New) fun r30 =>
    unP r30 fun (x30 : Option Addr) =>
    K_signalboxlaw38_RwlockShared_6 (IntKind.i64.wrap ((1 : Int) + (IntKind.i64.wrap (Int.tmod readers0 (60 : Int))))) (IntKind.i64.wrap (Int.tmod later1 (60 : Int))) x30 (IntKind.i64.wrap ((1 : Int) + (IntKind.i64.wrap (Int.tmod readers0 (60 : Int))))) (0 : Int))
def B_signalboxlaw38_RwlockShared_6 (n5 : Int) (m6 : Int) (l7 : Option Addr) (t31 : Int) (t32 : Int) : M Value :=
  mIf (decide (t32 < t31)) (
    mBind (N_rwlock_Lock_Ask l7 t32 false) fun r38 =>
    un2 unB (unI .i64) r38 fun (x38_0 : Bool) (x38_1 : Int) =>
    mIf ((!x38_0) || (x38_1 != (0 : Int))) (
      mRet (.bool false)) (
      K_signalboxlaw38_RwlockShared_6 n5 m6 l7 t31 (IntKind.i64.wrap (t32 + (1 : Int))))) (
    mBind (N_rwlock_Lock_Ask l7 (1000 : Int) true) fun r50 =>
    un2 unB (unI .i64) r50 fun (x50_0 : Bool) (x50_1 : Int) =>
    mIf (x50_0 || (x50_1 != (0 : Int))) (
      mRet (.bool false)) (
      K_signalboxlaw38_RwlockShared_16 n5 m6 l7 m6 (0 : Int)))
def B_signalboxlaw38_RwlockShared_16 (n5 : Int) (m6 : Int) (l7 : Option Addr) (t58 : Int) (t59 : Int) : M Value :=
  mIf (decide (t59 < t58)) (
    mBind (N_rwlock_Lock_Ask l7 (IntKind.i64.wrap ((2000 : Int) + t59)) false) fun r66 =>
    un2 unB (unI .i64) r66 fun (x66_0 : Bool) (x66_1 : Int) =>
    mIf (x66_0 || (x66_1 != (0 : Int))) (
      mRet (.bool false)) (
      K_signalboxlaw38_RwlockShared_16 n5 m6 l7 t58 (IntKind.i64.wrap (t59 + (1 : Int))))) (
    K_signalboxlaw38_RwlockShared_23 n5 m6 l7 n5 (0 : Int))
def B_signalboxlaw38_RwlockShared_23 (n5 : Int) (m6 : Int) (l7 : Option Addr) (t75 : Int) (t76 : Int) : M Value :=
  mIf (decide (t76 < t75)) (
    mBind (N_rwlock_Lock_Leave l7 t76) fun r82 =>
    un2 unL (unI .i64) r82 fun (x82_0 : Sl) (x82_1 : Int) =>
    mBind (mIf ((x82_1 != (0 : Int)) || (!(((x82_0.n : Int) == (1 : Int)) == (t76 == (IntKind.i64.wrap (n5 - (1 : Int))))))) (mRet true) (mBind (mIf ((x82_0.n : Int) == (1 : Int)) (mIdx x82_0 (0 : Int) 1 fun (x103 : Addr) =>
      mLdI .i64 x103 fun (x104 : Int) =>
      mRet (x104 != (1000 : Int))) (mRet false)) fun (b11 : Bool) =>
      mRet b11)) fun (b12 : Bool) =>
    mIf b12 (
      mRet (.bool false)) (
      K_signalboxlaw38_RwlockShared_23 n5 m6 l7 t75 (IntKind.i64.wrap (t76 + (1 : Int))))) (
    mBind (N_rwlock_Lock_Leave l7 (1000 : Int)) fun r111 =>
    un2 unL (unI .i64) r111 fun (x111_0 : Sl) (x111_1 : Int) =>
    mBind (mIf ((x111_1 == (0 : Int)) && ((x111_0.n : Int) == m6)) (mBind (N_rwlock_Lock_Holders l7) fun r124 =>
      unL r124 fun (x124 : Sl) =>
      mRet ((x124.n : Int) == m6)) (mRet false)) fun (b15 : Bool) =>
    mBind (mIf b15 (mBind (N_rwlock_Lock_Waiting l7) fun r131 =>
      unL r131 fun (x131 : Sl) =>
      mRet ((x131.n : Int) == (0 : Int))) (mRet false)) fun (b17 : Bool) =>
    mRet (.bool b17))
theorem E_signalboxlaw38_RwlockShared (readers0 : Int) (later1 : Int) : ev Try.prog 13 Try.f13.results.toList C_signalboxlaw38_RwlockShared D_signalboxlaw38_RwlockShared 400 false [.code (bodyOf Try.f13)] (List.map some [.int .u8 readers0, .int .u8 later1] ++ List.replicate (Try.f13.ntmps - List.length ([.int .u8 readers0, .int .u8 later1] : List Value)) none) = B_signalboxlaw38_RwlockShared readers0 later1 := by kernel_rfl
theorem S_signalboxlaw38_RwlockShared (readers0 : Int) (later1 : Int) {h : Hp} {Q : Value → Hp → Prop} (hb : B_signalboxlaw38_RwlockShared readers0 later1 h Q) : N_signalboxlaw38_RwlockShared readers0 later1 h Q :=
  Nf.of_ev Try.call13 Try.func13 (c := bodyOf Try.f13) rfl mixed C_signalboxlaw38_RwlockShared D_signalboxlaw38_RwlockShared 400 (args := [.int .u8 readers0, .int .u8 later1]) (by rw [E_signalboxlaw38_RwlockShared]; exact hb)
theorem E_signalboxlaw38_RwlockShared_6 (n5 : Int) (m6 : Int) (l7 : Option Addr) (t31 : Int) (t32 : Int) : ev Try.prog 13 Try.f13.results.toList C_signalboxlaw38_RwlockShared D_signalboxlaw38_RwlockShared 400 true (todoOf Try.f13 6) (T_signalboxlaw38_RwlockShared_6 n5 m6 l7 t31 t32) = B_signalboxlaw38_RwlockShared_6 n5 m6 l7 t31 t32 := by kernel_rfl
theorem S_signalboxlaw38_RwlockShared_6 (n5 : Int) (m6 : Int) (l7 : Option Addr) (t31 : Int) (t32 : Int) {h : Hp} {Q : Value → Hp → Prop} (hb : B_signalboxlaw38_RwlockShared_6 n5 m6 l7 t31 t32 h Q) : K_signalboxlaw38_RwlockShared_6 n5 m6 l7 t31 t32 h Q :=
  Cut.of_ev Try.func13 mixed C_signalboxlaw38_RwlockShared D_signalboxlaw38_RwlockShared 400 (by rw [E_signalboxlaw38_RwlockShared_6]; exact hb)
theorem E_signalboxlaw38_RwlockShared_16 (n5 : Int) (m6 : Int) (l7 : Option Addr) (t58 : Int) (t59 : Int) : ev Try.prog 13 Try.f13.results.toList C_signalboxlaw38_RwlockShared D_signalboxlaw38_RwlockShared 400 true (todoOf Try.f13 16) (T_signalboxlaw38_RwlockShared_16 n5 m6 l7 t58 t59) = B_signalboxlaw38_RwlockShared_16 n5 m6 l7 t58 t59 := by kernel_rfl
theorem S_signalboxlaw38_RwlockShared_16 (n5 : Int) (m6 : Int) (l7 : Option Addr) (t58 : Int) (t59 : Int) {h : Hp} {Q : Value → Hp → Prop} (hb : B_signalboxlaw38_RwlockShared_16 n5 m6 l7 t58 t59 h Q) : K_signalboxlaw38_RwlockShared_16 n5 m6 l7 t58 t59 h Q :=
  Cut.of_ev Try.func13 mixed C_signalboxlaw38_RwlockShared D_signalboxlaw38_RwlockShared 400 (by rw [E_signalboxlaw38_RwlockShared_16]; exact hb)
theorem E_signalboxlaw38_RwlockShared_23 (n5 : Int) (m6 : Int) (l7 : Option Addr) (t75 : Int) (t76 : Int) : ev Try.prog 13 Try.f13.results.toList C_signalboxlaw38_RwlockShared D_signalboxlaw38_RwlockShared 400 true (todoOf Try.f13 23) (T_signalboxlaw38_RwlockShared_23 n5 m6 l7 t75 t76) = B_signalboxlaw38_RwlockShared_23 n5 m6 l7 t75 t76 := by kernel_rfl
theorem S_signalboxlaw38_RwlockShared_23 (n5 : Int) (m6 : Int) (l7 : Option Addr) (t75 : Int) (t76 : Int) {h : Hp} {Q : Value → Hp → Prop} (hb : B_signalboxlaw38_RwlockShared_23 n5 m6 l7 t75 t76 h Q) : K_signalboxlaw38_RwlockShared_23 n5 m6 l7 t75 t76 h Q :=
  Cut.of_ev Try.func13 mixed C_signalboxlaw38_RwlockShared D_signalboxlaw38_RwlockShared 400 (by rw [E_signalboxlaw38_RwlockShared_23]; exact hb)
def C_signalboxlaw38_RwlockPlays : List (Nat × List Nat) := [(8, [3, 4, 5, 29, 30, 31]), (11, [3, 4, 5, 7, 8, 9, 29, 30, 31]), (23, [3, 4, 5, 7, 10, 11, 29, 30, 31]), (28, [3, 4, 5, 7, 10, 11, 29, 30, 31]), (35, [3, 4, 5, 29, 30, 31]), (38, [3, 4, 5, 29, 30, 31, 201, 202, 203])]
def D_signalboxlaw38_RwlockPlays : List (Nat × List Nat) := [(10, []), (17, []), (20, [])]
def T_signalboxlaw38_RwlockPlays_8 (x3 : Option Addr) (holds4 : Sl) (waits5 : Sl) (t29 : Sl) (t30 : Int) (t31 : Int) : Env := mkEnv [(3, .pointer x3), (4, .slice holds4.p holds4.n holds4.c), (5, .slice waits5.p waits5.n waits5.c), (29, .slice t29.p t29.n t29.c), (30, .int .i64 t30), (31, .int .i64 t31)] 248 0
def K_signalboxlaw38_RwlockPlays_8 (x3 : Option Addr) (holds4 : Sl) (waits5 : Sl) (t29 : Sl) (t30 : Int) (t31 : Int) : M Value := Cut Try.prog 11 (todoOf Try.f11 8) (T_signalboxlaw38_RwlockPlays_8 x3 holds4 waits5 t29 t30 t31)
def T_signalboxlaw38_RwlockPlays_11 (x3 : Option Addr) (holds4 : Sl) (waits5 : Sl) (a7 : Addr) (i8 : Int) (k9 : Int) (t29 : Sl) (t30 : Int) (t31 : Int) : Env := mkEnv [(3, .pointer x3), (4, .slice holds4.p holds4.n holds4.c), (5, .slice waits5.p waits5.n waits5.c), (7, .pointer (some a7)), (8, .int .i64 i8), (9, .int .i64 k9), (29, .slice t29.p t29.n t29.c), (30, .int .i64 t30), (31, .int .i64 t31)] 248 0
def K_signalboxlaw38_RwlockPlays_11 (x3 : Option Addr) (holds4 : Sl) (waits5 : Sl) (a7 : Addr) (i8 : Int) (k9 : Int) (t29 : Sl) (t30 : Int) (t31 : Int) : M Value := Cut Try.prog 11 (todoOf Try.f11 11) (T_signalboxlaw38_RwlockPlays_11 x3 holds4 waits5 a7 i8 k9 t29 t30 t31)
def T_signalboxlaw38_RwlockPlays_23 (x3 : Option Addr) (holds4 : Sl) (waits5 : Sl) (a7 : Addr) (was10 : Int) (wrong11 : Int) (t29 : Sl) (t30 : Int) (t31 : Int) : Env := mkEnv [(3, .pointer x3), (4, .slice holds4.p holds4.n holds4.c), (5, .slice waits5.p waits5.n waits5.c), (7, .pointer (some a7)), (10, .int .i64 was10), (11, .int .i64 wrong11), (29, .slice t29.p t29.n t29.c), (30, .int .i64 t30), (31, .int .i64 t31)] 248 0
def K_signalboxlaw38_RwlockPlays_23 (x3 : Option Addr) (holds4 : Sl) (waits5 : Sl) (a7 : Addr) (was10 : Int) (wrong11 : Int) (t29 : Sl) (t30 : Int) (t31 : Int) : M Value := Cut Try.prog 11 (todoOf Try.f11 23) (T_signalboxlaw38_RwlockPlays_23 x3 holds4 waits5 a7 was10 wrong11 t29 t30 t31)
def T_signalboxlaw38_RwlockPlays_28 (x3 : Option Addr) (holds4 : Sl) (waits5 : Sl) (a7 : Addr) (was10 : Int) (wrong11 : Int) (t29 : Sl) (t30 : Int) (t31 : Int) : Env := mkEnv [(3, .pointer x3), (4, .slice holds4.p holds4.n holds4.c), (5, .slice waits5.p waits5.n waits5.c), (7, .pointer (some a7)), (10, .int .i64 was10), (11, .int .i64 wrong11), (29, .slice t29.p t29.n t29.c), (30, .int .i64 t30), (31, .int .i64 t31)] 248 0
def K_signalboxlaw38_RwlockPlays_28 (x3 : Option Addr) (holds4 : Sl) (waits5 : Sl) (a7 : Addr) (was10 : Int) (wrong11 : Int) (t29 : Sl) (t30 : Int) (t31 : Int) : M Value := Cut Try.prog 11 (todoOf Try.f11 28) (T_signalboxlaw38_RwlockPlays_28 x3 holds4 waits5 a7 was10 wrong11 t29 t30 t31)
def T_signalboxlaw38_RwlockPlays_35 (x3 : Option Addr) (holds4 : Sl) (waits5 : Sl) (t29 : Sl) (t30 : Int) (t31 : Int) : Env := mkEnv [(3, .pointer x3), (4, .slice holds4.p holds4.n holds4.c), (5, .slice waits5.p waits5.n waits5.c), (29, .slice t29.p t29.n t29.c), (30, .int .i64 t30), (31, .int .i64 t31)] 248 0
def K_signalboxlaw38_RwlockPlays_35 (x3 : Option Addr) (holds4 : Sl) (waits5 : Sl) (t29 : Sl) (t30 : Int) (t31 : Int) : M Value := Cut Try.prog 11 (todoOf Try.f11 35) (T_signalboxlaw38_RwlockPlays_35 x3 holds4 waits5 t29 t30 t31)
def T_signalboxlaw38_RwlockPlays_38 (x3 : Option Addr) (holds4 : Sl) (waits5 : Sl) (t29 : Sl) (t30 : Int) (t31 : Int) (t201 : Sl) (t202 : Int) (t203 : Int) : Env := mkEnv [(3, .pointer x3), (4, .slice holds4.p holds4.n holds4.c), (5, .slice waits5.p waits5.n waits5.c), (29, .slice t29.p t29.n t29.c), (30, .int .i64 t30), (31, .int .i64 t31), (201, .slice t201.p t201.n t201.c), (202, .int .i64 t202), (203, .int .i64 t203)] 248 0
def K_signalboxlaw38_RwlockPlays_38 (x3 : Option Addr) (holds4 : Sl) (waits5 : Sl) (t29 : Sl) (t30 : Int) (t31 : Int) (t201 : Sl) (t202 : Int) (t203 : Int) : M Value := Cut Try.prog 11 (todoOf Try.f11 38) (T_signalboxlaw38_RwlockPlays_38 x3 holds4 waits5 t29 t30 t31 t201 t202 t203)
def B_signalboxlaw38_RwlockPlays (l0 : Sl) : M Value :=
  mBind (N_signalboxlaw38_fixed) fun r23 =>
  unB r23 fun (x23 : Bool) =>
  mIf (!x23) (
    mRet (.bool false)) (
    mIf (decide ((l0.n : Int) > (120 : Int))) (
      mRet (.bool true)) (
      mBind (N_rwlock_New) fun r28 =>
      unP r28 fun (x28 : Option Addr) =>
      K_signalboxlaw38_RwlockPlays_8 x28 (Sl.mk none 0 0) (Sl.mk none 0 0) l0 (l0.n : Int) (0 : Int)))
def B_signalboxlaw38_RwlockPlays_8 (x3 : Option Addr) (holds4 : Sl) (waits5 : Sl) (t29 : Sl) (t30 : Int) (t31 : Int) : M Value :=
  mIf (decide (t31 < t30)) (
    mIdx t29 t31 3 fun (x33 : Addr) =>
    mLdB x33 fun (x34_0 : Bool) =>
    mLdI .i64 (x33.add 1) fun (x34_1 : Int) =>
    mLdB (x33.add 2) fun (x34_2 : Bool) =>
    mNew #[.bool false, .int .i64 (0 : Int), .bool false] 81 fun (x7 : Addr) =>
    mSt x7 (.bool x34_0) <|
    mSt (x7.add 1) (.int .i64 x34_1) <|
    mSt (x7.add 2) (.bool x34_2) <|
    mAnd (
      mLdI .i64 (x7.add 1) fun (x37_13 : Int) =>
      mAnd (
        mBind (N_signalboxlaw38_place holds4 x37_13) fun r38_17 =>
        unI .i64 r38_17 fun (x38_17 : Int) =>
        mLdI .i64 (x7.add 1) fun (x41_18 : Int) =>
        mBind (N_signalboxlaw38_place waits5 x41_18) fun r42_19 =>
        unI .i64 r42_19 fun (x42_19 : Int) =>
        K_signalboxlaw38_RwlockPlays_11 x3 holds4 waits5 x7 x38_17 x42_19 t29 t30 t31) (
        mLdI .i64 (x7.add 1) fun (x41_14 : Int) =>
        mBind (N_signalboxlaw38_place holds4 x37_13) fun r38_15 =>
        unI .i64 r38_15 fun (x38_15 : Int) =>
        mBind (N_signalboxlaw38_place waits5 x41_14) fun r42_16 =>
        unI .i64 r42_16 fun (x42_16 : Int) =>
        K_signalboxlaw38_RwlockPlays_11 x3 holds4 waits5 x7 x38_15 x42_16 t29 t30 t31)) (
      mLdI .i64 (x7.add 1) fun (x41 : Int) =>
      mLdI .i64 (x7.add 1) fun (x37 : Int) =>
      mBind (N_signalboxlaw38_place holds4 x37) fun r38 =>
      unI .i64 r38 fun (x38 : Int) =>
      mBind (N_signalboxlaw38_place waits5 x41) fun r42 =>
      unI .i64 r42 fun (x42 : Int) =>
      K_signalboxlaw38_RwlockPlays_11 x3 holds4 waits5 x7 x38 x42 t29 t30 t31)) (
    mBind (N_rwlock_Lock_Holds x3 (-99999 : Int)) fun r240 =>
    un2 unB unB r240 fun (x240_0 : Bool) (_x240_1 : Bool) =>
    mBind (N_signalboxlaw38_place holds4 (-99999 : Int)) fun r245 =>
    unI .i64 r245 fun (x245 : Int) =>
    mRet (.bool (x240_0 == (decide (x245 ≥ (0 : Int))))))
def B_signalboxlaw38_RwlockPlays_11 (x3 : Option Addr) (holds4 : Sl) (waits5 : Sl) (a7 : Addr) (i8 : Int) (k9 : Int) (t29 : Sl) (t30 : Int) (t31 : Int) : M Value :=
  mLdB a7 fun (x55 : Bool) =>
  mIf ((x55 && (decide (i8 < (0 : Int)))) && (decide (k9 < (0 : Int)))) (
    K_signalboxlaw38_RwlockPlays_23 x3 holds4 waits5 a7 (holds4.n : Int) (6 : Int) t29 t30 t31) (
    mLdB a7 fun (x66 : Bool) =>
    mIf (x66 && (decide (i8 ≥ (0 : Int)))) (
      mSlc holds4 2 (0 : Int) i8 (holds4.c : Int) fun (x74 : Sl) =>
      mSlc holds4 2 (IntKind.i64.wrap (i8 + (1 : Int))) (holds4.n : Int) (holds4.c : Int) fun (x79 : Sl) =>
      mNew #[] 84 fun (x71 : Addr) =>
      mApp 84 2 16 #[.int .i64 (0 : Int), .bool false] ⟨(some x71), 0, 0⟩ x74 fun (x75 : Sl) =>
      mApp 84 2 16 #[.int .i64 (0 : Int), .bool false] x75 x79 fun (x80 : Sl) =>
      K_signalboxlaw38_RwlockPlays_23 x3 x80 waits5 a7 (IntKind.i64.wrap ((holds4.n : Int) - (1 : Int))) (0 : Int) t29 t30 t31) (
      mLdB a7 fun (x85 : Bool) =>
      mIf x85 (
        mSlc waits5 2 (0 : Int) k9 (waits5.c : Int) fun (x89 : Sl) =>
        mSlc waits5 2 (IntKind.i64.wrap (k9 + (1 : Int))) (waits5.n : Int) (waits5.c : Int) fun (x94 : Sl) =>
        mNew #[] 84 fun (x86 : Addr) =>
        mApp 84 2 16 #[.int .i64 (0 : Int), .bool false] ⟨(some x86), 0, 0⟩ x89 fun (x90 : Sl) =>
        mApp 84 2 16 #[.int .i64 (0 : Int), .bool false] x90 x94 fun (x95 : Sl) =>
        K_signalboxlaw38_RwlockPlays_23 x3 holds4 x95 a7 (holds4.n : Int) (0 : Int) t29 t30 t31) (
        mIf ((decide (i8 ≥ (0 : Int))) || (decide (k9 ≥ (0 : Int)))) (
          K_signalboxlaw38_RwlockPlays_23 x3 holds4 waits5 a7 (holds4.n : Int) (10 : Int) t29 t30 t31) (
          mLdI .i64 (a7.add 1) fun (x47 : Int) =>
          mLdB (a7.add 2) fun (x49 : Bool) =>
          mNew #[.int .i64 x47, .bool x49] 84 fun (x51 : Addr) =>
          mApp 84 2 16 #[.int .i64 (0 : Int), .bool false] waits5 ⟨(some x51), 1, 1⟩ fun (x52 : Sl) =>
          K_signalboxlaw38_RwlockPlays_23 x3 holds4 x52 a7 (holds4.n : Int) (0 : Int) t29 t30 t31))))
def B_signalboxlaw38_RwlockPlays_23 (x3 : Option Addr) (holds4 : Sl) (waits5 : Sl) (a7 : Addr) (was10 : Int) (wrong11 : Int) (t29 : Sl) (t30 : Int) (t31 : Int) : M Value :=
  mIf (decide ((waits5.n : Int) > (0 : Int))) (
    mBind (mIf (!((holds4.n : Int) == (0 : Int))) (mIdx waits5 (0 : Int) 2 fun (x113 : Addr) =>
      mLdB (x113.add 1) fun (x115 : Bool) =>
      mBind (mIf x115 (mRet true) (mIdx holds4 (0 : Int) 2 fun (x118 : Addr) =>
      mLdB (x118.add 1) fun (x120 : Bool) =>
      mRet x120)) fun (b50 : Bool) =>
      mRet b50) (mRet false)) fun (b51 : Bool) =>
    mIf b51 (
      K_signalboxlaw38_RwlockPlays_28 x3 holds4 waits5 a7 was10 wrong11 t29 t30 t31) (
      mIdx waits5 (0 : Int) 2 fun (x125 : Addr) =>
      mLdI .i64 x125 fun (x126_0 : Int) =>
      mLdB (x125.add 1) fun (x126_1 : Bool) =>
      mNew #[.int .i64 x126_0, .bool x126_1] 84 fun (x127 : Addr) =>
      mApp 84 2 16 #[.int .i64 (0 : Int), .bool false] holds4 ⟨(some x127), 1, 1⟩ fun (x128 : Sl) =>
      mSlc waits5 2 (1 : Int) (waits5.n : Int) (waits5.c : Int) fun (x130 : Sl) =>
      K_signalboxlaw38_RwlockPlays_23 x3 x128 x130 a7 was10 wrong11 t29 t30 t31)) (
    K_signalboxlaw38_RwlockPlays_28 x3 holds4 waits5 a7 was10 wrong11 t29 t30 t31)
def B_signalboxlaw38_RwlockPlays_28 (x3 : Option Addr) (holds4 : Sl) (waits5 : Sl) (a7 : Addr) (was10 : Int) (wrong11 : Int) (t29 : Sl) (t30 : Int) (t31 : Int) : M Value :=
  mLdB a7 fun (x132 : Bool) =>
  mIf x132 (
    mLdI .i64 (a7.add 1) fun (x136 : Int) =>
    mBind (N_rwlock_Lock_Leave x3 x136) fun r137 =>
    un2 unL (unI .i64) r137 fun (x137_0 : Sl) (x137_1 : Int) =>
    mBind (mIf (x137_1 != wrong11) (mRet true) (mBind (mIf (x137_1 == (0 : Int)) (mSlc holds4 2 was10 (holds4.n : Int) (holds4.c : Int) fun (x149 : Sl) =>
      mBind (N_signalboxlaw38_same x149 x137_0) fun r151 =>
      unB r151 fun (x151 : Bool) =>
      mRet (!x151)) (mRet false)) fun (b64 : Bool) =>
      mRet b64)) fun (b65 : Bool) =>
    mBind (mIf b65 (mRet true) (mRet ((x137_1 != (0 : Int)) && ((x137_0.n : Int) != (0 : Int))))) fun (b66 : Bool) =>
    mIf b66 (
      mRet (.bool false)) (
      K_signalboxlaw38_RwlockPlays_35 x3 holds4 waits5 t29 t30 t31)) (
    mLdI .i64 (a7.add 1) fun (x167 : Int) =>
    mLdB (a7.add 2) fun (x169 : Bool) =>
    mBind (N_rwlock_Lock_Ask x3 x167 x169) fun r170 =>
    un2 unB (unI .i64) r170 fun (x170_0 : Bool) (x170_1 : Int) =>
    mBind (mIf (x170_1 != wrong11) (mRet true) (mBind (mIf (wrong11 == (0 : Int)) (mLdI .i64 (a7.add 1) fun (x183 : Int) =>
      mBind (N_signalboxlaw38_place holds4 x183) fun r184 =>
      unI .i64 r184 fun (x184 : Int) =>
      mRet (decide (x184 ≥ (0 : Int)))) (mRet false)) fun (b75 : Bool) =>
      mRet (!(x170_0 == b75)))) fun (b76 : Bool) =>
    mIf b76 (
      mRet (.bool false)) (
      K_signalboxlaw38_RwlockPlays_35 x3 holds4 waits5 t29 t30 t31))
def B_signalboxlaw38_RwlockPlays_35 (x3 : Option Addr) (holds4 : Sl) (waits5 : Sl) (t29 : Sl) (t30 : Int) (t31 : Int) : M Value :=
  mBind (N_rwlock_Lock_Holders x3) fun r191 =>
  unL r191 fun (x191 : Sl) =>
  mBind (N_signalboxlaw38_same holds4 x191) fun r192 =>
  unB r192 fun (x192 : Bool) =>
  mBind (mIf (!x192) (mRet true) (mBind (N_rwlock_Lock_Waiting x3) fun r197 =>
    unL r197 fun (x197 : Sl) =>
    mBind (N_signalboxlaw38_same waits5 x197) fun r198 =>
    unB r198 fun (x198 : Bool) =>
    mRet (!x198))) fun (b81 : Bool) =>
  mIf b81 (
    mRet (.bool false)) (
    K_signalboxlaw38_RwlockPlays_38 x3 holds4 waits5 t29 t30 t31 holds4 (holds4.n : Int) (0 : Int))
def B_signalboxlaw38_RwlockPlays_38 (x3 : Option Addr) (holds4 : Sl) (waits5 : Sl) (t29 : Sl) (t30 : Int) (t31 : Int) (t201 : Sl) (t202 : Int) (t203 : Int) : M Value :=
  mIf (decide (t203 < t202)) (
    mIdx t201 t203 2 fun (x206 : Addr) =>
    mLdI .i64 x206 fun (x207_0 : Int) =>
    mLdB (x206.add 1) fun (x207_1 : Bool) =>
    mNew #[.int .i64 (0 : Int), .bool false] 84 fun (x18 : Addr) =>
    mSt x18 (.int .i64 x207_0) <|
    mSt (x18.add 1) (.bool x207_1) <|
    mLdI .i64 x18 fun (x211 : Int) =>
    mBind (N_rwlock_Lock_Holds x3 x211) fun r212 =>
    un2 unB unB r212 fun (x212_0 : Bool) (x212_1 : Bool) =>
    mBind (mIf (!x212_0) (mRet true) (mLdB (x18.add 1) fun (x220 : Bool) =>
      mRet (!(x212_1 == x220)))) fun (b91 : Bool) =>
    mBind (mIf b91 (mRet true) (mLdB (x18.add 1) fun (x225 : Bool) =>
      mBind (mIf x225 (mRet ((decide ((holds4.n : Int) > (1 : Int))) || (decide (t203 > (0 : Int))))) (mRet false)) fun (b94 : Bool) =>
      mRet b94)) fun (b95 : Bool) =>
    mIf b95 (
      mRet (.bool false)) (
      K_signalboxlaw38_RwlockPlays_38 x3 holds4 waits5 t29 t30 t31 t201 t202 (IntKind.i64.wrap (t203 + (1 : Int))))) (
    K_signalboxlaw38_RwlockPlays_8 x3 holds4 waits5 t29 t30 (IntKind.i64.wrap (t31 + (1 : Int))))
theorem E_signalboxlaw38_RwlockPlays (l0 : Sl) : ev Try.prog 11 Try.f11.results.toList C_signalboxlaw38_RwlockPlays D_signalboxlaw38_RwlockPlays 400 false [.code (bodyOf Try.f11)] (List.map some [.slice l0.p l0.n l0.c] ++ List.replicate (Try.f11.ntmps - List.length ([.slice l0.p l0.n l0.c] : List Value)) none) = B_signalboxlaw38_RwlockPlays l0 := by kernel_rfl
theorem S_signalboxlaw38_RwlockPlays (l0 : Sl) {h : Hp} {Q : Value → Hp → Prop} (hb : B_signalboxlaw38_RwlockPlays l0 h Q) : N_signalboxlaw38_RwlockPlays l0 h Q :=
  Nf.of_ev Try.call11 Try.func11 (c := bodyOf Try.f11) rfl mixed C_signalboxlaw38_RwlockPlays D_signalboxlaw38_RwlockPlays 400 (args := [.slice l0.p l0.n l0.c]) (by rw [E_signalboxlaw38_RwlockPlays]; exact hb)
theorem E_signalboxlaw38_RwlockPlays_8 (x3 : Option Addr) (holds4 : Sl) (waits5 : Sl) (t29 : Sl) (t30 : Int) (t31 : Int) : ev Try.prog 11 Try.f11.results.toList C_signalboxlaw38_RwlockPlays D_signalboxlaw38_RwlockPlays 400 true (todoOf Try.f11 8) (T_signalboxlaw38_RwlockPlays_8 x3 holds4 waits5 t29 t30 t31) = B_signalboxlaw38_RwlockPlays_8 x3 holds4 waits5 t29 t30 t31 := by kernel_rfl
theorem S_signalboxlaw38_RwlockPlays_8 (x3 : Option Addr) (holds4 : Sl) (waits5 : Sl) (t29 : Sl) (t30 : Int) (t31 : Int) {h : Hp} {Q : Value → Hp → Prop} (hb : B_signalboxlaw38_RwlockPlays_8 x3 holds4 waits5 t29 t30 t31 h Q) : K_signalboxlaw38_RwlockPlays_8 x3 holds4 waits5 t29 t30 t31 h Q :=
  Cut.of_ev Try.func11 mixed C_signalboxlaw38_RwlockPlays D_signalboxlaw38_RwlockPlays 400 (by rw [E_signalboxlaw38_RwlockPlays_8]; exact hb)
theorem E_signalboxlaw38_RwlockPlays_11 (x3 : Option Addr) (holds4 : Sl) (waits5 : Sl) (a7 : Addr) (i8 : Int) (k9 : Int) (t29 : Sl) (t30 : Int) (t31 : Int) : ev Try.prog 11 Try.f11.results.toList C_signalboxlaw38_RwlockPlays D_signalboxlaw38_RwlockPlays 400 true (todoOf Try.f11 11) (T_signalboxlaw38_RwlockPlays_11 x3 holds4 waits5 a7 i8 k9 t29 t30 t31) = B_signalboxlaw38_RwlockPlays_11 x3 holds4 waits5 a7 i8 k9 t29 t30 t31 := by kernel_rfl
theorem S_signalboxlaw38_RwlockPlays_11 (x3 : Option Addr) (holds4 : Sl) (waits5 : Sl) (a7 : Addr) (i8 : Int) (k9 : Int) (t29 : Sl) (t30 : Int) (t31 : Int) {h : Hp} {Q : Value → Hp → Prop} (hb : B_signalboxlaw38_RwlockPlays_11 x3 holds4 waits5 a7 i8 k9 t29 t30 t31 h Q) : K_signalboxlaw38_RwlockPlays_11 x3 holds4 waits5 a7 i8 k9 t29 t30 t31 h Q :=
  Cut.of_ev Try.func11 mixed C_signalboxlaw38_RwlockPlays D_signalboxlaw38_RwlockPlays 400 (by rw [E_signalboxlaw38_RwlockPlays_11]; exact hb)
theorem E_signalboxlaw38_RwlockPlays_23 (x3 : Option Addr) (holds4 : Sl) (waits5 : Sl) (a7 : Addr) (was10 : Int) (wrong11 : Int) (t29 : Sl) (t30 : Int) (t31 : Int) : ev Try.prog 11 Try.f11.results.toList C_signalboxlaw38_RwlockPlays D_signalboxlaw38_RwlockPlays 400 true (todoOf Try.f11 23) (T_signalboxlaw38_RwlockPlays_23 x3 holds4 waits5 a7 was10 wrong11 t29 t30 t31) = B_signalboxlaw38_RwlockPlays_23 x3 holds4 waits5 a7 was10 wrong11 t29 t30 t31 := by kernel_rfl
theorem S_signalboxlaw38_RwlockPlays_23 (x3 : Option Addr) (holds4 : Sl) (waits5 : Sl) (a7 : Addr) (was10 : Int) (wrong11 : Int) (t29 : Sl) (t30 : Int) (t31 : Int) {h : Hp} {Q : Value → Hp → Prop} (hb : B_signalboxlaw38_RwlockPlays_23 x3 holds4 waits5 a7 was10 wrong11 t29 t30 t31 h Q) : K_signalboxlaw38_RwlockPlays_23 x3 holds4 waits5 a7 was10 wrong11 t29 t30 t31 h Q :=
  Cut.of_ev Try.func11 mixed C_signalboxlaw38_RwlockPlays D_signalboxlaw38_RwlockPlays 400 (by rw [E_signalboxlaw38_RwlockPlays_23]; exact hb)
theorem E_signalboxlaw38_RwlockPlays_28 (x3 : Option Addr) (holds4 : Sl) (waits5 : Sl) (a7 : Addr) (was10 : Int) (wrong11 : Int) (t29 : Sl) (t30 : Int) (t31 : Int) : ev Try.prog 11 Try.f11.results.toList C_signalboxlaw38_RwlockPlays D_signalboxlaw38_RwlockPlays 400 true (todoOf Try.f11 28) (T_signalboxlaw38_RwlockPlays_28 x3 holds4 waits5 a7 was10 wrong11 t29 t30 t31) = B_signalboxlaw38_RwlockPlays_28 x3 holds4 waits5 a7 was10 wrong11 t29 t30 t31 := by kernel_rfl
theorem S_signalboxlaw38_RwlockPlays_28 (x3 : Option Addr) (holds4 : Sl) (waits5 : Sl) (a7 : Addr) (was10 : Int) (wrong11 : Int) (t29 : Sl) (t30 : Int) (t31 : Int) {h : Hp} {Q : Value → Hp → Prop} (hb : B_signalboxlaw38_RwlockPlays_28 x3 holds4 waits5 a7 was10 wrong11 t29 t30 t31 h Q) : K_signalboxlaw38_RwlockPlays_28 x3 holds4 waits5 a7 was10 wrong11 t29 t30 t31 h Q :=
  Cut.of_ev Try.func11 mixed C_signalboxlaw38_RwlockPlays D_signalboxlaw38_RwlockPlays 400 (by rw [E_signalboxlaw38_RwlockPlays_28]; exact hb)
theorem E_signalboxlaw38_RwlockPlays_35 (x3 : Option Addr) (holds4 : Sl) (waits5 : Sl) (t29 : Sl) (t30 : Int) (t31 : Int) : ev Try.prog 11 Try.f11.results.toList C_signalboxlaw38_RwlockPlays D_signalboxlaw38_RwlockPlays 400 true (todoOf Try.f11 35) (T_signalboxlaw38_RwlockPlays_35 x3 holds4 waits5 t29 t30 t31) = B_signalboxlaw38_RwlockPlays_35 x3 holds4 waits5 t29 t30 t31 := by kernel_rfl
theorem S_signalboxlaw38_RwlockPlays_35 (x3 : Option Addr) (holds4 : Sl) (waits5 : Sl) (t29 : Sl) (t30 : Int) (t31 : Int) {h : Hp} {Q : Value → Hp → Prop} (hb : B_signalboxlaw38_RwlockPlays_35 x3 holds4 waits5 t29 t30 t31 h Q) : K_signalboxlaw38_RwlockPlays_35 x3 holds4 waits5 t29 t30 t31 h Q :=
  Cut.of_ev Try.func11 mixed C_signalboxlaw38_RwlockPlays D_signalboxlaw38_RwlockPlays 400 (by rw [E_signalboxlaw38_RwlockPlays_35]; exact hb)
theorem E_signalboxlaw38_RwlockPlays_38 (x3 : Option Addr) (holds4 : Sl) (waits5 : Sl) (t29 : Sl) (t30 : Int) (t31 : Int) (t201 : Sl) (t202 : Int) (t203 : Int) : ev Try.prog 11 Try.f11.results.toList C_signalboxlaw38_RwlockPlays D_signalboxlaw38_RwlockPlays 400 true (todoOf Try.f11 38) (T_signalboxlaw38_RwlockPlays_38 x3 holds4 waits5 t29 t30 t31 t201 t202 t203) = B_signalboxlaw38_RwlockPlays_38 x3 holds4 waits5 t29 t30 t31 t201 t202 t203 := by kernel_rfl
theorem S_signalboxlaw38_RwlockPlays_38 (x3 : Option Addr) (holds4 : Sl) (waits5 : Sl) (t29 : Sl) (t30 : Int) (t31 : Int) (t201 : Sl) (t202 : Int) (t203 : Int) {h : Hp} {Q : Value → Hp → Prop} (hb : B_signalboxlaw38_RwlockPlays_38 x3 holds4 waits5 t29 t30 t31 t201 t202 t203 h Q) : K_signalboxlaw38_RwlockPlays_38 x3 holds4 waits5 t29 t30 t31 t201 t202 t203 h Q :=
  Cut.of_ev Try.func11 mixed C_signalboxlaw38_RwlockPlays D_signalboxlaw38_RwlockPlays 400 (by rw [E_signalboxlaw38_RwlockPlays_38]; exact hb)
end Go.Proofs.Ytbpnpmknamghkaa
