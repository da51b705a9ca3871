/- What the functions of this layer come to, as forms of the small logic; written by program. Conditions: none. -/
import Derived.Test.YtkmenmagclojmaaSbU
import Derived.Test.YtkmenmagclojmaaChecked
import Derived.KernelRfl
set_option maxRecDepth 100000
namespace Go.Proofs.Ytkmenmagclojmaa
open Go Go.Sb
theorem mixed : Try.prog.follows .mixedOrders = true := by kernel_rfl
def N_signalboxlaw54_fixed : M Value := Nf Try.prog 47 #[]
def N_debounce_New (hold0 : Int) : M Value := Nf Try.prog 48 #[.int .i64 hold0]
def N_debounce_Outs (in0 : Sl) (hold1 : Int) : M Value := Nf Try.prog 49 #[.slice in0.p in0.n in0.c, .int .i64 hold1]
def N_debounce_Edges (in0 : Sl) (hold1 : Int) : M Value := Nf Try.prog 50 #[.slice in0.p in0.n in0.c, .int .i64 hold1]
def N_debounce_Filter_Hear (f0 : Option Addr) (in1 : Bool) : M Value := Nf Try.prog 51 #[.pointer f0, .bool in1]
def N_debounce_Filter_Out (f0 : Option Addr) : M Value := Nf Try.prog 52 #[.pointer f0]
def N_debounce_Filter_Run (f0 : Option Addr) : M Value := Nf Try.prog 53 #[.pointer f0]
def N_debounce_each (in0 : Sl) (hold1 : Int) (tell2g : Nat) (tell2f : Array Value) (tell2c : Array Value) : M Value := Nf Try.prog 73 #[.slice in0.p in0.n in0.c, .int .i64 hold1, .func (.func tell2g) tell2f tell2c]
def N_debounce_Outs_1 (t0 : Int) (out1 : Bool) (t2 : Bool) (fv3 : Option Addr) : M Value := Nf Try.prog 74 #[.int .i64 t0, .bool out1, .bool t2, .pointer fv3]
def N_debounce_Edges_1 (at0 : Int) (out1 : Bool) (turned2 : Bool) (fv3 : Option Addr) : M Value := Nf Try.prog 75 #[.int .i64 at0, .bool out1, .bool turned2, .pointer fv3]
def N_signalboxlaw54_DebounceHears (in0 : Sl) (hold1 : Int) : M Value := Nf Try.prog 11 #[.slice in0.p in0.n in0.c, .int .i64 hold1]
def N_signalboxlaw54_DebounceQuiet (in0 : Sl) (hold1 : Int) : M Value := Nf Try.prog 12 #[.slice in0.p in0.n in0.c, .int .u8 hold1]
def C_signalboxlaw54_fixed : List (Nat × List Nat) := []
def D_signalboxlaw54_fixed : List (Nat × List Nat) := []
def B_signalboxlaw54_fixed : M Value :=
  mNew #[.bool true, .bool false, .bool true, .bool true, .bool false] 4 fun (x6 : Addr) =>
  mBind (N_debounce_Edges (Sl.mk (some x6) 5 5) (2 : Int)) fun r7 =>
  unL r7 fun (x7 : Sl) =>
  mNew #[.bool true, .bool false, .bool true, .bool true, .bool false] 4 fun (x8 : Addr) =>
  mBind (N_debounce_Outs (Sl.mk (some x8) 5 5) (2 : Int)) fun r9 =>
  unL r9 fun (x9 : Sl) =>
  mBind (N_debounce_New (1 : Int)) fun r10 =>
  unP r10 fun (x10 : Option Addr) =>
  mBind (N_debounce_Filter_Hear x10 true) fun r13 =>
  un2 unB unB r13 fun (x13_0 : Bool) (x13_1 : Bool) =>
  mBind (mIf ((x7.n : Int) == (1 : Int)) (mIdx x7 (0 : Int) 2 fun (x21 : Addr) =>
    mLdI .i64 x21 fun (x22_0 : Int) =>
    mLdB (x21.add 1) fun (x22_1 : Bool) =>
    mRet ((x22_0 == (3 : Int)) && ((x22_1 == true) && true))) (mRet false)) fun (b9 : Bool) =>
  mBind (mIf (b9 && ((x9.n : Int) == (5 : Int))) (mIdx x9 (2 : Int) 1 fun (x33 : Addr) =>
    mLdB x33 fun (x34 : Bool) =>
    mRet (!x34)) (mRet false)) fun (b12 : Bool) =>
  mBind (mIf b12 (mIdx x9 (3 : Int) 1 fun (x39 : Addr) =>
    mLdB x39 fun (x40 : Bool) =>
    mRet x40) (mRet false)) fun (b15 : Bool) =>
  mBind (mIf b15 (mIdx x9 (4 : Int) 1 fun (x44 : Addr) =>
    mLdB x44 fun (x45 : Bool) =>
    mRet x45) (mRet false)) fun (b18 : Bool) =>
  mBind (mIf ((b18 && x13_0) && x13_1) (mBind (N_debounce_Filter_Out x10) fun r55 =>
    unB r55 fun (x55 : Bool) =>
    mRet x55) (mRet false)) fun (b20 : Bool) =>
  mBind (mIf b20 (mBind (N_debounce_Filter_Run x10) fun r59 =>
    unI .i64 r59 fun (x59 : Int) =>
    mRet (x59 == (0 : Int))) (mRet false)) fun (b22 : Bool) =>
  mBind (mIf b22 (mBind (N_debounce_New (0 : Int)) fun r63 =>
    unP r63 fun (x63 : Option Addr) =>
    mRet x63.isNone) (mRet false)) fun (b24 : Bool) =>
  mRet (.bool b24)
theorem E_signalboxlaw54_fixed : ev Try.prog 47 Try.f47.results.toList C_signalboxlaw54_fixed D_signalboxlaw54_fixed 400 false [.code (bodyOf Try.f47)] (List.map some [] ++ List.replicate (Try.f47.ntmps - List.length ([] : List Value)) none) = B_signalboxlaw54_fixed := by kernel_rfl
theorem S_signalboxlaw54_fixed {h : Hp} {Q : Value → Hp → Prop} (hb : B_signalboxlaw54_fixed h Q) : N_signalboxlaw54_fixed h Q :=
  Nf.of_ev Try.call47 Try.func47 (c := bodyOf Try.f47) rfl mixed C_signalboxlaw54_fixed D_signalboxlaw54_fixed 400 (args := []) (by rw [E_signalboxlaw54_fixed]; exact hb)
def C_debounce_New : List (Nat × List Nat) := []
def D_debounce_New : List (Nat × List Nat) := []
def B_debounce_New (hold0 : Int) : M Value :=
  mIf ((decide (hold0 < (1 : Int))) || (decide (hold0 > (1024 : Int)))) (
    mRet (.pointer none)) (
    mNew #[.int .i64 hold0, .int .i64 (0 : Int), .bool false] 129 fun (x11 : Addr) =>
    mRet (.pointer (some x11)))
theorem E_debounce_New (hold0 : Int) : ev Try.prog 48 Try.f48.results.toList C_debounce_New D_debounce_New 400 false [.code (bodyOf Try.f48)] (List.map some [.int .i64 hold0] ++ List.replicate (Try.f48.ntmps - List.length ([.int .i64 hold0] : List Value)) none) = B_debounce_New hold0 := by kernel_rfl
theorem S_debounce_New (hold0 : Int) {h : Hp} {Q : Value → Hp → Prop} (hb : B_debounce_New hold0 h Q) : N_debounce_New hold0 h Q :=
  Nf.of_ev Try.call48 Try.func48 (c := bodyOf Try.f48) rfl mixed C_debounce_New D_debounce_New 400 (args := [.int .i64 hold0]) (by rw [E_debounce_New]; exact hb)
def C_debounce_Outs : List (Nat × List Nat) := []
def D_debounce_Outs : List (Nat × List Nat) := []
def B_debounce_Outs (in0 : Sl) (hold1 : Int) : M Value :=
  mNew #[.slice none (0) (0)] 23 fun (x5 : Addr) =>
  mBind (N_debounce_each in0 hold1 (74) (#[]) (#[.pointer (some x5)])) fun _r9 =>
  mLdL x5 fun (x10 : Sl) =>
  mRet (.slice x10.p x10.n x10.c)
theorem E_debounce_Outs (in0 : Sl) (hold1 : Int) : ev Try.prog 49 Try.f49.results.toList C_debounce_Outs D_debounce_Outs 400 false [.code (bodyOf Try.f49)] (List.map some [.slice in0.p in0.n in0.c, .int .i64 hold1] ++ List.replicate (Try.f49.ntmps - List.length ([.slice in0.p in0.n in0.c, .int .i64 hold1] : List Value)) none) = B_debounce_Outs in0 hold1 := by kernel_rfl
theorem S_debounce_Outs (in0 : Sl) (hold1 : Int) {h : Hp} {Q : Value → Hp → Prop} (hb : B_debounce_Outs in0 hold1 h Q) : N_debounce_Outs in0 hold1 h Q :=
  Nf.of_ev Try.call49 Try.func49 (c := bodyOf Try.f49) rfl mixed C_debounce_Outs D_debounce_Outs 400 (args := [.slice in0.p in0.n in0.c, .int .i64 hold1]) (by rw [E_debounce_Outs]; exact hb)
def C_debounce_Edges : List (Nat × List Nat) := []
def D_debounce_Edges : List (Nat × List Nat) := []
def B_debounce_Edges (in0 : Sl) (hold1 : Int) : M Value :=
  mNew #[.slice none (0) (0)] 73 fun (x5 : Addr) =>
  mBind (N_debounce_each in0 hold1 (75) (#[]) (#[.pointer (some x5)])) fun _r9 =>
  mLdL x5 fun (x10 : Sl) =>
  mRet (.slice x10.p x10.n x10.c)
theorem E_debounce_Edges (in0 : Sl) (hold1 : Int) : ev Try.prog 50 Try.f50.results.toList C_debounce_Edges D_debounce_Edges 400 false [.code (bodyOf Try.f50)] (List.map some [.slice in0.p in0.n in0.c, .int .i64 hold1] ++ List.replicate (Try.f50.ntmps - List.length ([.slice in0.p in0.n in0.c, .int .i64 hold1] : List Value)) none) = B_debounce_Edges in0 hold1 := by kernel_rfl
theorem S_debounce_Edges (in0 : Sl) (hold1 : Int) {h : Hp} {Q : Value → Hp → Prop} (hb : B_debounce_Edges in0 hold1 h Q) : N_debounce_Edges in0 hold1 h Q :=
  Nf.of_ev Try.call50 Try.func50 (c := bodyOf Try.f50) rfl mixed C_debounce_Edges D_debounce_Edges 400 (args := [.slice in0.p in0.n in0.c, .int .i64 hold1]) (by rw [E_debounce_Edges]; exact hb)
def C_debounce_Filter_Hear : List (Nat × List Nat) := [(6, [0, 1])]
def D_debounce_Filter_Hear : List (Nat × List Nat) := []
def T_debounce_Filter_Hear_6 (f0 : Option Addr) (in1 : Bool) : Env := mkEnv [(0, .pointer f0), (1, .bool in1)] 48 0
def K_debounce_Filter_Hear_6 (f0 : Option Addr) (in1 : Bool) : M Value := Cut Try.prog 51 (todoOf Try.f51 6) (T_debounce_Filter_Hear_6 f0 in1)
def B_debounce_Filter_Hear (f0 : Option Addr) (in1 : Bool) : M Value :=
  mIf f0.isNone (
    mRet (.tuple #[.bool false, .bool false])) (
    mNil f0 fun (a2 : Addr) =>
    mLdB (a2.add 2) fun (x21 : Bool) =>
    mIf (in1 == x21) (
      mNil f0 fun (a6 : Addr) =>
      mSt (a6.add 1) (.int .i64 (0 : Int)) <|
      K_debounce_Filter_Hear_6 f0 in1) (
      mNil f0 fun (a10 : Addr) =>
      mLdI .i64 (a10.add 1) fun (x9 : Int) =>
      mNil f0 fun (a14 : Addr) =>
      mSt (a14.add 1) (.int .i64 (IntKind.i64.wrap (x9 + (1 : Int)))) <|
      K_debounce_Filter_Hear_6 f0 in1))
def B_debounce_Filter_Hear_6 (f0 : Option Addr) (in1 : Bool) : M Value :=
  mNil f0 fun (a18 : Addr) =>
  mLdI .i64 (a18.add 1) fun (x29 : Int) =>
  mNil f0 fun (a22 : Addr) =>
  mLdI .i64 a22 fun (x33 : Int) =>
  mIf (x29 == x33) (
    mNil f0 fun (a26 : Addr) =>
    mSt (a26.add 2) (.bool in1) <|
    mNil f0 fun (a30 : Addr) =>
    mSt (a30.add 1) (.int .i64 (0 : Int)) <|
    mNil f0 fun (a34 : Addr) =>
    mLdB (a34.add 2) fun (x46 : Bool) =>
    mRet (.tuple #[.bool x46, .bool (x29 == x33)])) (
    mNil f0 fun (a38 : Addr) =>
    mLdB (a38.add 2) fun (x46_40 : Bool) =>
    mRet (.tuple #[.bool x46_40, .bool (x29 == x33)]))
theorem E_debounce_Filter_Hear (f0 : Option Addr) (in1 : Bool) : ev Try.prog 51 Try.f51.results.toList C_debounce_Filter_Hear D_debounce_Filter_Hear 400 false [.code (bodyOf Try.f51)] (List.map some [.pointer f0, .bool in1] ++ List.replicate (Try.f51.ntmps - List.length ([.pointer f0, .bool in1] : List Value)) none) = B_debounce_Filter_Hear f0 in1 := by kernel_rfl
theorem S_debounce_Filter_Hear (f0 : Option Addr) (in1 : Bool) {h : Hp} {Q : Value → Hp → Prop} (hb : B_debounce_Filter_Hear f0 in1 h Q) : N_debounce_Filter_Hear f0 in1 h Q :=
  Nf.of_ev Try.call51 Try.func51 (c := bodyOf Try.f51) rfl mixed C_debounce_Filter_Hear D_debounce_Filter_Hear 400 (args := [.pointer f0, .bool in1]) (by rw [E_debounce_Filter_Hear]; exact hb)
theorem E_debounce_Filter_Hear_6 (f0 : Option Addr) (in1 : Bool) : ev Try.prog 51 Try.f51.results.toList C_debounce_Filter_Hear D_debounce_Filter_Hear 400 true (todoOf Try.f51 6) (T_debounce_Filter_Hear_6 f0 in1) = B_debounce_Filter_Hear_6 f0 in1 := by kernel_rfl
theorem S_debounce_Filter_Hear_6 (f0 : Option Addr) (in1 : Bool) {h : Hp} {Q : Value → Hp → Prop} (hb : B_debounce_Filter_Hear_6 f0 in1 h Q) : K_debounce_Filter_Hear_6 f0 in1 h Q :=
  Cut.of_ev Try.func51 mixed C_debounce_Filter_Hear D_debounce_Filter_Hear 400 (by rw [E_debounce_Filter_Hear_6]; exact hb)
def C_debounce_Filter_Out : List (Nat × List Nat) := []
def D_debounce_Filter_Out : List (Nat × List Nat) := []
def B_debounce_Filter_Out (f0 : Option Addr) : M Value :=
  mBind (mIf (!f0.isNone) (mNil f0 fun (a2 : Addr) =>
    mLdB (a2.add 2) fun (x9 : Bool) =>
    mRet x9) (mRet false)) fun (b5 : Bool) =>
  mRet (.bool b5)
theorem E_debounce_Filter_Out (f0 : Option Addr) : ev Try.prog 52 Try.f52.results.toList C_debounce_Filter_Out D_debounce_Filter_Out 400 false [.code (bodyOf Try.f52)] (List.map some [.pointer f0] ++ List.replicate (Try.f52.ntmps - List.length ([.pointer f0] : List Value)) none) = B_debounce_Filter_Out f0 := by kernel_rfl
theorem S_debounce_Filter_Out (f0 : Option Addr) {h : Hp} {Q : Value → Hp → Prop} (hb : B_debounce_Filter_Out f0 h Q) : N_debounce_Filter_Out f0 h Q :=
  Nf.of_ev Try.call52 Try.func52 (c := bodyOf Try.f52) rfl mixed C_debounce_Filter_Out D_debounce_Filter_Out 400 (args := [.pointer f0]) (by rw [E_debounce_Filter_Out]; exact hb)
def C_debounce_Filter_Run : List (Nat × List Nat) := []
def D_debounce_Filter_Run : List (Nat × List Nat) := []
def B_debounce_Filter_Run (f0 : Option Addr) : M Value :=
  mIf f0.isNone (
    mRet (.int .i64 (0 : Int))) (
    mNil f0 fun (a2 : Addr) =>
    mLdI .i64 (a2.add 1) fun (x8 : Int) =>
    mRet (.int .i64 x8))
theorem E_debounce_Filter_Run (f0 : Option Addr) : ev Try.prog 53 Try.f53.results.toList C_debounce_Filter_Run D_debounce_Filter_Run 400 false [.code (bodyOf Try.f53)] (List.map some [.pointer f0] ++ List.replicate (Try.f53.ntmps - List.length ([.pointer f0] : List Value)) none) = B_debounce_Filter_Run f0 := by kernel_rfl
theorem S_debounce_Filter_Run (f0 : Option Addr) {h : Hp} {Q : Value → Hp → Prop} (hb : B_debounce_Filter_Run f0 h Q) : N_debounce_Filter_Run f0 h Q :=
  Nf.of_ev Try.call53 Try.func53 (c := bodyOf Try.f53) rfl mixed C_debounce_Filter_Run D_debounce_Filter_Run 400 (args := [.pointer f0]) (by rw [E_debounce_Filter_Run]; exact hb)
def C_debounce_each : List (Nat × List Nat) := [(3, [2, 6, 15, 16, 17])]
def D_debounce_each : List (Nat × List Nat) := []
def T_debounce_each_3 (tell2g : Nat) (tell2f : Array Value) (tell2c : Array Value) (f6 : Option Addr) (t15 : Sl) (t16 : Int) (t17 : Int) : Env := mkEnv [(2, .func (.func tell2g) tell2f tell2c), (6, .pointer f6), (15, .slice t15.p t15.n t15.c), (16, .int .i64 t16), (17, .int .i64 t17)] 34 0
def K_debounce_each_3 (tell2g : Nat) (tell2f : Array Value) (tell2c : Array Value) (f6 : Option Addr) (t15 : Sl) (t16 : Int) (t17 : Int) : M Value := Cut Try.prog 73 (todoOf Try.f73 3) (T_debounce_each_3 tell2g tell2f tell2c f6 t15 t16 t17)
def B_debounce_each (in0 : Sl) (hold1 : Int) (tell2g : Nat) (tell2f : Array Value) (tell2c : Array Value) : M Value :=
  mBind (N_debounce_New hold1) fun r12 =>
  unP r12 fun (x12 : Option Addr) =>
  mIf x12.isNone (
    mRet (.tuple #[])) (
    K_debounce_each_3 tell2g tell2f tell2c x12 in0 (in0.n : Int) (0 : Int))
def B_debounce_each_3 (tell2g : Nat) (tell2f : Array Value) (tell2c : Array Value) (f6 : Option Addr) (t15 : Sl) (t16 : Int) (t17 : Int) : M Value :=
  mIf (decide (t17 < t16)) (
    mIdx t15 t17 1 fun (x20 : Addr) =>
    mLdB x20 fun (x21 : Bool) =>
    mBind (N_debounce_Filter_Hear f6 x21) fun r25 =>
    un2 unB unB r25 fun (x25_0 : Bool) (x25_1 : Bool) =>
    mBind (Nf Try.prog tell2g (tell2f ++ #[.int .i64 t17, .bool x25_0, .bool x25_1] ++ tell2c)) fun _r32 =>
    K_debounce_each_3 tell2g tell2f tell2c f6 t15 t16 (IntKind.i64.wrap (t17 + (1 : Int)))) (
    mRet (.tuple #[]))
theorem E_debounce_each (in0 : Sl) (hold1 : Int) (tell2g : Nat) (tell2f : Array Value) (tell2c : Array Value) : ev Try.prog 73 Try.f73.results.toList C_debounce_each D_debounce_each 400 false [.code (bodyOf Try.f73)] (List.map some [.slice in0.p in0.n in0.c, .int .i64 hold1, .func (.func tell2g) tell2f tell2c] ++ List.replicate (Try.f73.ntmps - List.length ([.slice in0.p in0.n in0.c, .int .i64 hold1, .func (.func tell2g) tell2f tell2c] : List Value)) none) = B_debounce_each in0 hold1 tell2g tell2f tell2c := by kernel_rfl
theorem S_debounce_each (in0 : Sl) (hold1 : Int) (tell2g : Nat) (tell2f : Array Value) (tell2c : Array Value) {h : Hp} {Q : Value → Hp → Prop} (hb : B_debounce_each in0 hold1 tell2g tell2f tell2c h Q) : N_debounce_each in0 hold1 tell2g tell2f tell2c h Q :=
  Nf.of_ev Try.call73 Try.func73 (c := bodyOf Try.f73) rfl mixed C_debounce_each D_debounce_each 400 (args := [.slice in0.p in0.n in0.c, .int .i64 hold1, .func (.func tell2g) tell2f tell2c]) (by rw [E_debounce_each]; exact hb)
theorem E_debounce_each_3 (tell2g : Nat) (tell2f : Array Value) (tell2c : Array Value) (f6 : Option Addr) (t15 : Sl) (t16 : Int) (t17 : Int) : ev Try.prog 73 Try.f73.results.toList C_debounce_each D_debounce_each 400 true (todoOf Try.f73 3) (T_debounce_each_3 tell2g tell2f tell2c f6 t15 t16 t17) = B_debounce_each_3 tell2g tell2f tell2c f6 t15 t16 t17 := by kernel_rfl
theorem S_debounce_each_3 (tell2g : Nat) (tell2f : Array Value) (tell2c : Array Value) (f6 : Option Addr) (t15 : Sl) (t16 : Int) (t17 : Int) {h : Hp} {Q : Value → Hp → Prop} (hb : B_debounce_each_3 tell2g tell2f tell2c f6 t15 t16 t17 h Q) : K_debounce_each_3 tell2g tell2f tell2c f6 t15 t16 t17 h Q :=
  Cut.of_ev Try.func73 mixed C_debounce_each D_debounce_each 400 (by rw [E_debounce_each_3]; exact hb)
def C_debounce_Outs_1 : List (Nat × List Nat) := []
def D_debounce_Outs_1 : List (Nat × List Nat) := []
def B_debounce_Outs_1 (_t0 : Int) (out1 : Bool) (_t2 : Bool) (fv3 : Option Addr) : M Value :=
  mNil fv3 fun (a2 : Addr) =>
  mLdL a2 fun (x7 : Sl) =>
  mNew #[.bool out1] 4 fun (x9 : Addr) =>
  mApp 4 1 1 #[.bool false] x7 ⟨(some x9), 1, 1⟩ fun (x10 : Sl) =>
  mNil fv3 fun (a6 : Addr) =>
  mSt a6 (.slice x10.p x10.n x10.c) <|
  mRet (.tuple #[])
theorem E_debounce_Outs_1 (t0 : Int) (out1 : Bool) (t2 : Bool) (fv3 : Option Addr) : ev Try.prog 74 Try.f74.results.toList C_debounce_Outs_1 D_debounce_Outs_1 400 false [.code (bodyOf Try.f74)] (List.map some [.int .i64 t0, .bool out1, .bool t2, .pointer fv3] ++ List.replicate (Try.f74.ntmps - List.length ([.int .i64 t0, .bool out1, .bool t2, .pointer fv3] : List Value)) none) = B_debounce_Outs_1 t0 out1 t2 fv3 := by kernel_rfl
theorem S_debounce_Outs_1 (t0 : Int) (out1 : Bool) (t2 : Bool) (fv3 : Option Addr) {h : Hp} {Q : Value → Hp → Prop} (hb : B_debounce_Outs_1 t0 out1 t2 fv3 h Q) : N_debounce_Outs_1 t0 out1 t2 fv3 h Q :=
  Nf.of_ev Try.call74 Try.func74 (c := bodyOf Try.f74) rfl mixed C_debounce_Outs_1 D_debounce_Outs_1 400 (args := [.int .i64 t0, .bool out1, .bool t2, .pointer fv3]) (by rw [E_debounce_Outs_1]; exact hb)
def C_debounce_Edges_1 : List (Nat × List Nat) := []
def D_debounce_Edges_1 : List (Nat × List Nat) := []
def B_debounce_Edges_1 (at0 : Int) (out1 : Bool) (turned2 : Bool) (fv3 : Option Addr) : M Value :=
  mIf turned2 (
    mNil fv3 fun (a2 : Addr) =>
    mLdL a2 fun (x8 : Sl) =>
    mNew #[.int .i64 at0, .bool out1] 78 fun (x12 : Addr) =>
    mApp 78 2 16 #[.int .i64 (0 : Int), .bool false] x8 ⟨(some x12), 1, 1⟩ fun (x13 : Sl) =>
    mNil fv3 fun (a6 : Addr) =>
    mSt a6 (.slice x13.p x13.n x13.c) <|
    mRet (.tuple #[])) (
    mRet (.tuple #[]))
theorem E_debounce_Edges_1 (at0 : Int) (out1 : Bool) (turned2 : Bool) (fv3 : Option Addr) : ev Try.prog 75 Try.f75.results.toList C_debounce_Edges_1 D_debounce_Edges_1 400 false [.code (bodyOf Try.f75)] (List.map some [.int .i64 at0, .bool out1, .bool turned2, .pointer fv3] ++ List.replicate (Try.f75.ntmps - List.length ([.int .i64 at0, .bool out1, .bool turned2, .pointer fv3] : List Value)) none) = B_debounce_Edges_1 at0 out1 turned2 fv3 := by kernel_rfl
theorem S_debounce_Edges_1 (at0 : Int) (out1 : Bool) (turned2 : Bool) (fv3 : Option Addr) {h : Hp} {Q : Value → Hp → Prop} (hb : B_debounce_Edges_1 at0 out1 turned2 fv3 h Q) : N_debounce_Edges_1 at0 out1 turned2 fv3 h Q :=
  Nf.of_ev Try.call75 Try.func75 (c := bodyOf Try.f75) rfl mixed C_debounce_Edges_1 D_debounce_Edges_1 400 (args := [.int .i64 at0, .bool out1, .bool turned2, .pointer fv3]) (by rw [E_debounce_Edges_1]; exact hb)
def C_signalboxlaw54_DebounceHears : List (Nat × List Nat) := [(15, [0, 1, 5, 6, 7, 10, 11, 12, 77, 78, 79]), (19, [0, 1, 5, 6, 7, 10, 11, 12, 13, 14, 15, 16, 77, 78, 79]), (29, [0, 1, 5, 6, 7, 10, 11, 12, 13, 15, 17, 18, 19, 77, 78, 79])]
def D_signalboxlaw54_DebounceHears : List (Nat × List Nat) := []
def T_signalboxlaw54_DebounceHears_15 (in0 : Sl) (hold1 : Int) (f5 : Option Addr) (outs6 : Sl) (edges7 : Sl) (out10 : Bool) (last11 : Int) (n12 : Int) (t77 : Sl) (t78 : Int) (t79 : Int) : Env := mkEnv [(0, .slice in0.p in0.n in0.c), (1, .int .i64 hold1), (5, .pointer f5), (6, .slice outs6.p outs6.n outs6.c), (7, .slice edges7.p edges7.n edges7.c), (10, .bool out10), (11, .int .i64 last11), (12, .int .i64 n12), (77, .slice t77.p t77.n t77.c), (78, .int .i64 t78), (79, .int .i64 t79)] 161 0
def K_signalboxlaw54_DebounceHears_15 (in0 : Sl) (hold1 : Int) (f5 : Option Addr) (outs6 : Sl) (edges7 : Sl) (out10 : Bool) (last11 : Int) (n12 : Int) (t77 : Sl) (t78 : Int) (t79 : Int) : M Value := Cut Try.prog 11 (todoOf Try.f11 15) (T_signalboxlaw54_DebounceHears_15 in0 hold1 f5 outs6 edges7 out10 last11 n12 t77 t78 t79)
def T_signalboxlaw54_DebounceHears_19 (in0 : Sl) (hold1 : Int) (f5 : Option Addr) (outs6 : Sl) (edges7 : Sl) (out10 : Bool) (last11 : Int) (n12 : Int) (at13 : Int) (x14 : Bool) (run15 : Int) (k16 : Int) (t77 : Sl) (t78 : Int) (t79 : Int) : Env := mkEnv [(0, .slice in0.p in0.n in0.c), (1, .int .i64 hold1), (5, .pointer f5), (6, .slice outs6.p outs6.n outs6.c), (7, .slice edges7.p edges7.n edges7.c), (10, .bool out10), (11, .int .i64 last11), (12, .int .i64 n12), (13, .int .i64 at13), (14, .bool x14), (15, .int .i64 run15), (16, .int .i64 k16), (77, .slice t77.p t77.n t77.c), (78, .int .i64 t78), (79, .int .i64 t79)] 161 0
def K_signalboxlaw54_DebounceHears_19 (in0 : Sl) (hold1 : Int) (f5 : Option Addr) (outs6 : Sl) (edges7 : Sl) (out10 : Bool) (last11 : Int) (n12 : Int) (at13 : Int) (x14 : Bool) (run15 : Int) (k16 : Int) (t77 : Sl) (t78 : Int) (t79 : Int) : M Value := Cut Try.prog 11 (todoOf Try.f11 19) (T_signalboxlaw54_DebounceHears_19 in0 hold1 f5 outs6 edges7 out10 last11 n12 at13 x14 run15 k16 t77 t78 t79)
def T_signalboxlaw54_DebounceHears_29 (in0 : Sl) (hold1 : Int) (f5 : Option Addr) (outs6 : Sl) (edges7 : Sl) (out10 : Bool) (last11 : Int) (n12 : Int) (at13 : Int) (run15 : Int) (o17 : Bool) (t18 : Bool) (turns19 : Bool) (t77 : Sl) (t78 : Int) (t79 : Int) : Env := mkEnv [(0, .slice in0.p in0.n in0.c), (1, .int .i64 hold1), (5, .pointer f5), (6, .slice outs6.p outs6.n outs6.c), (7, .slice edges7.p edges7.n edges7.c), (10, .bool out10), (11, .int .i64 last11), (12, .int .i64 n12), (13, .int .i64 at13), (15, .int .i64 run15), (17, .bool o17), (18, .bool t18), (19, .bool turns19), (77, .slice t77.p t77.n t77.c), (78, .int .i64 t78), (79, .int .i64 t79)] 161 0
def K_signalboxlaw54_DebounceHears_29 (in0 : Sl) (hold1 : Int) (f5 : Option Addr) (outs6 : Sl) (edges7 : Sl) (out10 : Bool) (last11 : Int) (n12 : Int) (at13 : Int) (run15 : Int) (o17 : Bool) (t18 : Bool) (turns19 : Bool) (t77 : Sl) (t78 : Int) (t79 : Int) : M Value := Cut Try.prog 11 (todoOf Try.f11 29) (T_signalboxlaw54_DebounceHears_29 in0 hold1 f5 outs6 edges7 out10 last11 n12 at13 run15 o17 t18 turns19 t77 t78 t79)
def B_signalboxlaw54_DebounceHears (in0 : Sl) (hold1 : Int) : M Value :=
  mBind (N_signalboxlaw54_fixed) fun r20 =>
  unB r20 fun (x20 : Bool) =>
  mIf (!x20) (
    mRet (.bool false)) (
    mIf (decide ((in0.n : Int) > (200 : Int))) (
      mRet (.bool true)) (
      mBind (N_debounce_New hold1) fun r26 =>
      unP r26 fun (x26 : Option Addr) =>
      mBind (N_debounce_Outs in0 hold1) fun r29 =>
      unL r29 fun (x29 : Sl) =>
      mBind (N_debounce_Edges in0 hold1) fun r32 =>
      unL r32 fun (x32 : Sl) =>
      mIf ((decide (hold1 < (1 : Int))) || (decide (hold1 > (1024 : Int)))) (
        mBind (N_debounce_Filter_Hear x26 true) fun r41 =>
        un2 unB unB r41 fun (x41_0 : Bool) (x41_1 : Bool) =>
        mBind (mIf ((x26.isNone && (!x41_0)) && (!x41_1)) (mBind (N_debounce_Filter_Out x26) fun r56 =>
          unB r56 fun (x56 : Bool) =>
          mRet (!x56)) (mRet false)) fun (b7 : Bool) =>
        mBind (mIf b7 (mBind (N_debounce_Filter_Run x26) fun r61 =>
          unI .i64 r61 fun (x61 : Int) =>
          mRet (x61 == (0 : Int))) (mRet false)) fun (b9 : Bool) =>
        mRet (.bool (b9 && ((IntKind.i64.wrap ((x29.n : Int) + (x32.n : Int))) == (0 : Int))))) (
        mIf ((x29.n : Int) != (in0.n : Int)) (
          mRet (.bool false)) (
          K_signalboxlaw54_DebounceHears_15 in0 hold1 x26 x29 x32 false (-1 : Int) (0 : Int) in0 (in0.n : Int) (0 : Int)))))
def B_signalboxlaw54_DebounceHears_15 (in0 : Sl) (hold1 : Int) (f5 : Option Addr) (outs6 : Sl) (edges7 : Sl) (out10 : Bool) (last11 : Int) (n12 : Int) (t77 : Sl) (t78 : Int) (t79 : Int) : M Value :=
  mIf (decide (t79 < t78)) (
    mIdx t77 t79 1 fun (x82 : Addr) =>
    mLdB x82 fun (x83 : Bool) =>
    K_signalboxlaw54_DebounceHears_19 in0 hold1 f5 outs6 edges7 out10 last11 n12 t79 x83 (0 : Int) t79 t77 t78 t79) (
    mRet (.bool (n12 == (edges7.n : Int))))
def B_signalboxlaw54_DebounceHears_19 (in0 : Sl) (hold1 : Int) (f5 : Option Addr) (outs6 : Sl) (edges7 : Sl) (out10 : Bool) (last11 : Int) (n12 : Int) (at13 : Int) (x14 : Bool) (run15 : Int) (k16 : Int) (t77 : Sl) (t78 : Int) (t79 : Int) : M Value :=
  mBind (mIf (decide (k16 > last11)) (mIdx in0 k16 1 fun (x91 : Addr) =>
    mLdB x91 fun (x92 : Bool) =>
    mRet (!(x92 == out10))) (mRet false)) fun (b14 : Bool) =>
  mIf b14 (
    K_signalboxlaw54_DebounceHears_19 in0 hold1 f5 outs6 edges7 out10 last11 n12 at13 x14 (IntKind.i64.wrap (run15 + (1 : Int))) (IntKind.i64.wrap (k16 - (1 : Int))) t77 t78 t79) (
    mBind (N_debounce_Filter_Hear f5 x14) fun r103 =>
    un2 unB unB r103 fun (x103_0 : Bool) (x103_1 : Bool) =>
    mIf (run15 == hold1) (
      mBind (mIf (decide (n12 ≥ (edges7.n : Int))) (mRet true) (mIdx edges7 n12 2 fun (x117 : Addr) =>
        mLdI .i64 x117 fun (x118_0 : Int) =>
        mLdB (x117.add 1) fun (x118_1 : Bool) =>
        mRet (!((x118_0 == at13) && ((x118_1 == x14) && true))))) fun (b18 : Bool) =>
      mIf b18 (
        mRet (.bool false)) (
        K_signalboxlaw54_DebounceHears_29 in0 hold1 f5 outs6 edges7 x14 at13 (IntKind.i64.wrap (n12 + (1 : Int))) at13 (0 : Int) x103_0 x103_1 (run15 == hold1) t77 t78 t79)) (
      K_signalboxlaw54_DebounceHears_29 in0 hold1 f5 outs6 edges7 out10 last11 n12 at13 run15 x103_0 x103_1 (run15 == hold1) t77 t78 t79))
def B_signalboxlaw54_DebounceHears_29 (in0 : Sl) (hold1 : Int) (f5 : Option Addr) (outs6 : Sl) (edges7 : Sl) (out10 : Bool) (last11 : Int) (n12 : Int) (at13 : Int) (run15 : Int) (o17 : Bool) (t18 : Bool) (turns19 : Bool) (t77 : Sl) (t78 : Int) (t79 : Int) : M Value :=
  mBind (mIf ((!(o17 == out10)) || (!(t18 == turns19))) (mRet true) (mIdx outs6 at13 1 fun (x139 : Addr) =>
    mLdB x139 fun (x140 : Bool) =>
    mRet (!(x140 == out10)))) fun (b21 : Bool) =>
  mBind (mIf b21 (mRet true) (mBind (N_debounce_Filter_Out f5) fun r146 =>
    unB r146 fun (x146 : Bool) =>
    mRet (!(x146 == out10)))) fun (b23 : Bool) =>
  mBind (mIf b23 (mRet true) (mBind (N_debounce_Filter_Run f5) fun r152 =>
    unI .i64 r152 fun (x152 : Int) =>
    mRet (x152 != run15))) fun (b25 : Bool) =>
  mIf b25 (
    mRet (.bool false)) (
    K_signalboxlaw54_DebounceHears_15 in0 hold1 f5 outs6 edges7 out10 last11 n12 t77 t78 (IntKind.i64.wrap (t79 + (1 : Int))))
theorem E_signalboxlaw54_DebounceHears (in0 : Sl) (hold1 : Int) : ev Try.prog 11 Try.f11.results.toList C_signalboxlaw54_DebounceHears D_signalboxlaw54_DebounceHears 400 false [.code (bodyOf Try.f11)] (List.map some [.slice in0.p in0.n in0.c, .int .i64 hold1] ++ List.replicate (Try.f11.ntmps - List.length ([.slice in0.p in0.n in0.c, .int .i64 hold1] : List Value)) none) = B_signalboxlaw54_DebounceHears in0 hold1 := by kernel_rfl
theorem S_signalboxlaw54_DebounceHears (in0 : Sl) (hold1 : Int) {h : Hp} {Q : Value → Hp → Prop} (hb : B_signalboxlaw54_DebounceHears in0 hold1 h Q) : N_signalboxlaw54_DebounceHears in0 hold1 h Q :=
  Nf.of_ev Try.call11 Try.func11 (c := bodyOf Try.f11) rfl mixed C_signalboxlaw54_DebounceHears D_signalboxlaw54_DebounceHears 400 (args := [.slice in0.p in0.n in0.c, .int .i64 hold1]) (by rw [E_signalboxlaw54_DebounceHears]; exact hb)
theorem E_signalboxlaw54_DebounceHears_15 (in0 : Sl) (hold1 : Int) (f5 : Option Addr) (outs6 : Sl) (edges7 : Sl) (out10 : Bool) (last11 : Int) (n12 : Int) (t77 : Sl) (t78 : Int) (t79 : Int) : ev Try.prog 11 Try.f11.results.toList C_signalboxlaw54_DebounceHears D_signalboxlaw54_DebounceHears 400 true (todoOf Try.f11 15) (T_signalboxlaw54_DebounceHears_15 in0 hold1 f5 outs6 edges7 out10 last11 n12 t77 t78 t79) = B_signalboxlaw54_DebounceHears_15 in0 hold1 f5 outs6 edges7 out10 last11 n12 t77 t78 t79 := by kernel_rfl
theorem S_signalboxlaw54_DebounceHears_15 (in0 : Sl) (hold1 : Int) (f5 : Option Addr) (outs6 : Sl) (edges7 : Sl) (out10 : Bool) (last11 : Int) (n12 : Int) (t77 : Sl) (t78 : Int) (t79 : Int) {h : Hp} {Q : Value → Hp → Prop} (hb : B_signalboxlaw54_DebounceHears_15 in0 hold1 f5 outs6 edges7 out10 last11 n12 t77 t78 t79 h Q) : K_signalboxlaw54_DebounceHears_15 in0 hold1 f5 outs6 edges7 out10 last11 n12 t77 t78 t79 h Q :=
  Cut.of_ev Try.func11 mixed C_signalboxlaw54_DebounceHears D_signalboxlaw54_DebounceHears 400 (by rw [E_signalboxlaw54_DebounceHears_15]; exact hb)
theorem E_signalboxlaw54_DebounceHears_19 (in0 : Sl) (hold1 : Int) (f5 : Option Addr) (outs6 : Sl) (edges7 : Sl) (out10 : Bool) (last11 : Int) (n12 : Int) (at13 : Int) (x14 : Bool) (run15 : Int) (k16 : Int) (t77 : Sl) (t78 : Int) (t79 : Int) : ev Try.prog 11 Try.f11.results.toList C_signalboxlaw54_DebounceHears D_signalboxlaw54_DebounceHears 400 true (todoOf Try.f11 19) (T_signalboxlaw54_DebounceHears_19 in0 hold1 f5 outs6 edges7 out10 last11 n12 at13 x14 run15 k16 t77 t78 t79) = B_signalboxlaw54_DebounceHears_19 in0 hold1 f5 outs6 edges7 out10 last11 n12 at13 x14 run15 k16 t77 t78 t79 := by kernel_rfl
theorem S_signalboxlaw54_DebounceHears_19 (in0 : Sl) (hold1 : Int) (f5 : Option Addr) (outs6 : Sl) (edges7 : Sl) (out10 : Bool) (last11 : Int) (n12 : Int) (at13 : Int) (x14 : Bool) (run15 : Int) (k16 : Int) (t77 : Sl) (t78 : Int) (t79 : Int) {h : Hp} {Q : Value → Hp → Prop} (hb : B_signalboxlaw54_DebounceHears_19 in0 hold1 f5 outs6 edges7 out10 last11 n12 at13 x14 run15 k16 t77 t78 t79 h Q) : K_signalboxlaw54_DebounceHears_19 in0 hold1 f5 outs6 edges7 out10 last11 n12 at13 x14 run15 k16 t77 t78 t79 h Q :=
  Cut.of_ev Try.func11 mixed C_signalboxlaw54_DebounceHears D_signalboxlaw54_DebounceHears 400 (by rw [E_signalboxlaw54_DebounceHears_19]; exact hb)
theorem E_signalboxlaw54_DebounceHears_29 (in0 : Sl) (hold1 : Int) (f5 : Option Addr) (outs6 : Sl) (edges7 : Sl) (out10 : Bool) (last11 : Int) (n12 : Int) (at13 : Int) (run15 : Int) (o17 : Bool) (t18 : Bool) (turns19 : Bool) (t77 : Sl) (t78 : Int) (t79 : Int) : ev Try.prog 11 Try.f11.results.toList C_signalboxlaw54_DebounceHears D_signalboxlaw54_DebounceHears 400 true (todoOf Try.f11 29) (T_signalboxlaw54_DebounceHears_29 in0 hold1 f5 outs6 edges7 out10 last11 n12 at13 run15 o17 t18 turns19 t77 t78 t79) = B_signalboxlaw54_DebounceHears_29 in0 hold1 f5 outs6 edges7 out10 last11 n12 at13 run15 o17 t18 turns19 t77 t78 t79 := by kernel_rfl
theorem S_signalboxlaw54_DebounceHears_29 (in0 : Sl) (hold1 : Int) (f5 : Option Addr) (outs6 : Sl) (edges7 : Sl) (out10 : Bool) (last11 : Int) (n12 : Int) (at13 : Int) (run15 : Int) (o17 : Bool) (t18 : Bool) (turns19 : Bool) (t77 : Sl) (t78 : Int) (t79 : Int) {h : Hp} {Q : Value → Hp → Prop} (hb : B_signalboxlaw54_DebounceHears_29 in0 hold1 f5 outs6 edges7 out10 last11 n12 at13 run15 o17 t18 turns19 t77 t78 t79 h Q) : K_signalboxlaw54_DebounceHears_29 in0 hold1 f5 outs6 edges7 out10 last11 n12 at13 run15 o17 t18 turns19 t77 t78 t79 h Q :=
  Cut.of_ev Try.func11 mixed C_signalboxlaw54_DebounceHears D_signalboxlaw54_DebounceHears 400 (by rw [E_signalboxlaw54_DebounceHears_29]; exact hb)
def C_signalboxlaw54_DebounceQuiet : List (Nat × List Nat) := [(8, [0, 5, 6, 7, 26, 27, 28]), (13, [0, 5, 9, 10, 26, 27, 28]), (21, [0, 5, 11, 12, 67, 68, 69])]
def D_signalboxlaw54_DebounceQuiet : List (Nat × List Nat) := []
def T_signalboxlaw54_DebounceQuiet_8 (in0 : Sl) (h5 : Int) (up6 : Bool) (last7 : Int) (t26 : Sl) (t27 : Int) (t28 : Int) : Env := mkEnv [(0, .slice in0.p in0.n in0.c), (5, .int .i64 h5), (6, .bool up6), (7, .int .i64 last7), (26, .slice t26.p t26.n t26.c), (27, .int .i64 t27), (28, .int .i64 t28)] 91 0
def K_signalboxlaw54_DebounceQuiet_8 (in0 : Sl) (h5 : Int) (up6 : Bool) (last7 : Int) (t26 : Sl) (t27 : Int) (t28 : Int) : M Value := Cut Try.prog 12 (todoOf Try.f12 8) (T_signalboxlaw54_DebounceQuiet_8 in0 h5 up6 last7 t26 t27 t28)
def T_signalboxlaw54_DebounceQuiet_13 (in0 : Sl) (h5 : Int) (e9 : Addr) (k10 : Int) (t26 : Sl) (t27 : Int) (t28 : Int) : Env := mkEnv [(0, .slice in0.p in0.n in0.c), (5, .int .i64 h5), (9, .pointer (some e9)), (10, .int .i64 k10), (26, .slice t26.p t26.n t26.c), (27, .int .i64 t27), (28, .int .i64 t28)] 91 0
def K_signalboxlaw54_DebounceQuiet_13 (in0 : Sl) (h5 : Int) (e9 : Addr) (k10 : Int) (t26 : Sl) (t27 : Int) (t28 : Int) : M Value := Cut Try.prog 12 (todoOf Try.f12 13) (T_signalboxlaw54_DebounceQuiet_13 in0 h5 e9 k10 t26 t27 t28)
def T_signalboxlaw54_DebounceQuiet_21 (in0 : Sl) (h5 : Int) (most11 : Int) (run12 : Int) (t67 : Sl) (t68 : Int) (t69 : Int) : Env := mkEnv [(0, .slice in0.p in0.n in0.c), (5, .int .i64 h5), (11, .int .i64 most11), (12, .int .i64 run12), (67, .slice t67.p t67.n t67.c), (68, .int .i64 t68), (69, .int .i64 t69)] 91 0
def K_signalboxlaw54_DebounceQuiet_21 (in0 : Sl) (h5 : Int) (most11 : Int) (run12 : Int) (t67 : Sl) (t68 : Int) (t69 : Int) : M Value := Cut Try.prog 12 (todoOf Try.f12 21) (T_signalboxlaw54_DebounceQuiet_21 in0 h5 most11 run12 t67 t68 t69)
def B_signalboxlaw54_DebounceQuiet (in0 : Sl) (hold1 : Int) : M Value :=
  mBind (N_signalboxlaw54_fixed) fun r15 =>
  unB r15 fun (x15 : Bool) =>
  mIf (!x15) (
    mRet (.bool false)) (
    mIf (decide ((in0.n : Int) > (300 : Int))) (
      mRet (.bool true)) (
      mGuard ((30 : Int) ≠ 0) <|
      mBind (N_debounce_Edges in0 (IntKind.i64.wrap ((1 : Int) + (IntKind.i64.wrap (Int.tmod hold1 (30 : Int)))))) fun r26 =>
      unL r26 fun (x26 : Sl) =>
      K_signalboxlaw54_DebounceQuiet_8 in0 (IntKind.i64.wrap ((1 : Int) + (IntKind.i64.wrap (Int.tmod hold1 (30 : Int))))) false (-1 : Int) x26 (x26.n : Int) (0 : Int)))
def B_signalboxlaw54_DebounceQuiet_8 (in0 : Sl) (h5 : Int) (up6 : Bool) (last7 : Int) (t26 : Sl) (t27 : Int) (t28 : Int) : M Value :=
  mIf (decide (t28 < t27)) (
    mIdx t26 t28 2 fun (x30 : Addr) =>
    mLdI .i64 x30 fun (x31_0 : Int) =>
    mLdB (x30.add 1) fun (x31_1 : Bool) =>
    mNew #[.int .i64 (0 : Int), .bool false] 78 fun (x9 : Addr) =>
    mSt x9 (.int .i64 x31_0) <|
    mSt (x9.add 1) (.bool x31_1) <|
    mLdB (x9.add 1) fun (x33 : Bool) =>
    mBind (mIf (x33 == up6) (mRet true) (mLdI .i64 x9 fun (x38 : Int) =>
      mRet (decide ((IntKind.i64.wrap (x38 - last7)) < h5)))) fun (b12 : Bool) =>
    mIf b12 (
      mRet (.bool false)) (
      mLdI .i64 x9 fun (x45 : Int) =>
      K_signalboxlaw54_DebounceQuiet_13 in0 h5 x9 (IntKind.i64.wrap ((IntKind.i64.wrap (x45 - h5)) + (1 : Int))) t26 t27 t28)) (
    K_signalboxlaw54_DebounceQuiet_21 in0 h5 (0 : Int) (0 : Int) in0 (in0.n : Int) (0 : Int))
def B_signalboxlaw54_DebounceQuiet_13 (in0 : Sl) (h5 : Int) (e9 : Addr) (k10 : Int) (t26 : Sl) (t27 : Int) (t28 : Int) : M Value :=
  mLdI .i64 e9 fun (x51 : Int) =>
  mIf (decide (k10 ≤ x51)) (
    mIdx in0 k10 1 fun (x57 : Addr) =>
    mLdB x57 fun (x58 : Bool) =>
    mLdB (e9.add 1) fun (x60 : Bool) =>
    mIf (!(x58 == x60)) (
      mRet (.bool false)) (
      K_signalboxlaw54_DebounceQuiet_13 in0 h5 e9 (IntKind.i64.wrap (k10 + (1 : Int))) t26 t27 t28)) (
    mLdB (e9.add 1) fun (x63 : Bool) =>
    mLdI .i64 e9 fun (x65 : Int) =>
    K_signalboxlaw54_DebounceQuiet_8 in0 h5 x63 x65 t26 t27 (IntKind.i64.wrap (t28 + (1 : Int))))
def B_signalboxlaw54_DebounceQuiet_21 (in0 : Sl) (h5 : Int) (most11 : Int) (run12 : Int) (t67 : Sl) (t68 : Int) (t69 : Int) : M Value :=
  mIf (decide (t69 < t68)) (
    mIdx t67 t69 1 fun (x71 : Addr) =>
    mLdB x71 fun (x72 : Bool) =>
    mIf (!x72) (
      K_signalboxlaw54_DebounceQuiet_21 in0 h5 (if (0 : Int) > most11 then (0 : Int) else most11) (0 : Int) t67 t68 (IntKind.i64.wrap (t69 + (1 : Int)))) (
      K_signalboxlaw54_DebounceQuiet_21 in0 h5 (if (IntKind.i64.wrap (run12 + (1 : Int))) > most11 then (IntKind.i64.wrap (run12 + (1 : Int))) else most11) (IntKind.i64.wrap (run12 + (1 : Int))) t67 t68 (IntKind.i64.wrap (t69 + (1 : Int))))) (
    mBind (mIf (decide (most11 ≥ h5)) (mRet true) (mBind (N_debounce_Edges in0 h5) fun r87 =>
      unL r87 fun (x87 : Sl) =>
      mRet ((x87.n : Int) == (0 : Int)))) fun (b28 : Bool) =>
    mRet (.bool b28))
theorem E_signalboxlaw54_DebounceQuiet (in0 : Sl) (hold1 : Int) : ev Try.prog 12 Try.f12.results.toList C_signalboxlaw54_DebounceQuiet D_signalboxlaw54_DebounceQuiet 400 false [.code (bodyOf Try.f12)] (List.map some [.slice in0.p in0.n in0.c, .int .u8 hold1] ++ List.replicate (Try.f12.ntmps - List.length ([.slice in0.p in0.n in0.c, .int .u8 hold1] : List Value)) none) = B_signalboxlaw54_DebounceQuiet in0 hold1 := by kernel_rfl
theorem S_signalboxlaw54_DebounceQuiet (in0 : Sl) (hold1 : Int) {h : Hp} {Q : Value → Hp → Prop} (hb : B_signalboxlaw54_DebounceQuiet in0 hold1 h Q) : N_signalboxlaw54_DebounceQuiet in0 hold1 h Q :=
  Nf.of_ev Try.call12 Try.func12 (c := bodyOf Try.f12) rfl mixed C_signalboxlaw54_DebounceQuiet D_signalboxlaw54_DebounceQuiet 400 (args := [.slice in0.p in0.n in0.c, .int .u8 hold1]) (by rw [E_signalboxlaw54_DebounceQuiet]; exact hb)
theorem E_signalboxlaw54_DebounceQuiet_8 (in0 : Sl) (h5 : Int) (up6 : Bool) (last7 : Int) (t26 : Sl) (t27 : Int) (t28 : Int) : ev Try.prog 12 Try.f12.results.toList C_signalboxlaw54_DebounceQuiet D_signalboxlaw54_DebounceQuiet 400 true (todoOf Try.f12 8) (T_signalboxlaw54_DebounceQuiet_8 in0 h5 up6 last7 t26 t27 t28) = B_signalboxlaw54_DebounceQuiet_8 in0 h5 up6 last7 t26 t27 t28 := by kernel_rfl
theorem S_signalboxlaw54_DebounceQuiet_8 (in0 : Sl) (h5 : Int) (up6 : Bool) (last7 : Int) (t26 : Sl) (t27 : Int) (t28 : Int) {h : Hp} {Q : Value → Hp → Prop} (hb : B_signalboxlaw54_DebounceQuiet_8 in0 h5 up6 last7 t26 t27 t28 h Q) : K_signalboxlaw54_DebounceQuiet_8 in0 h5 up6 last7 t26 t27 t28 h Q :=
  Cut.of_ev Try.func12 mixed C_signalboxlaw54_DebounceQuiet D_signalboxlaw54_DebounceQuiet 400 (by rw [E_signalboxlaw54_DebounceQuiet_8]; exact hb)
theorem E_signalboxlaw54_DebounceQuiet_13 (in0 : Sl) (h5 : Int) (e9 : Addr) (k10 : Int) (t26 : Sl) (t27 : Int) (t28 : Int) : ev Try.prog 12 Try.f12.results.toList C_signalboxlaw54_DebounceQuiet D_signalboxlaw54_DebounceQuiet 400 true (todoOf Try.f12 13) (T_signalboxlaw54_DebounceQuiet_13 in0 h5 e9 k10 t26 t27 t28) = B_signalboxlaw54_DebounceQuiet_13 in0 h5 e9 k10 t26 t27 t28 := by kernel_rfl
theorem S_signalboxlaw54_DebounceQuiet_13 (in0 : Sl) (h5 : Int) (e9 : Addr) (k10 : Int) (t26 : Sl) (t27 : Int) (t28 : Int) {h : Hp} {Q : Value → Hp → Prop} (hb : B_signalboxlaw54_DebounceQuiet_13 in0 h5 e9 k10 t26 t27 t28 h Q) : K_signalboxlaw54_DebounceQuiet_13 in0 h5 e9 k10 t26 t27 t28 h Q :=
  Cut.of_ev Try.func12 mixed C_signalboxlaw54_DebounceQuiet D_signalboxlaw54_DebounceQuiet 400 (by rw [E_signalboxlaw54_DebounceQuiet_13]; exact hb)
theorem E_signalboxlaw54_DebounceQuiet_21 (in0 : Sl) (h5 : Int) (most11 : Int) (run12 : Int) (t67 : Sl) (t68 : Int) (t69 : Int) : ev Try.prog 12 Try.f12.results.toList C_signalboxlaw54_DebounceQuiet D_signalboxlaw54_DebounceQuiet 400 true (todoOf Try.f12 21) (T_signalboxlaw54_DebounceQuiet_21 in0 h5 most11 run12 t67 t68 t69) = B_signalboxlaw54_DebounceQuiet_21 in0 h5 most11 run12 t67 t68 t69 := by kernel_rfl
theorem S_signalboxlaw54_DebounceQuiet_21 (in0 : Sl) (h5 : Int) (most11 : Int) (run12 : Int) (t67 : Sl) (t68 : Int) (t69 : Int) {h : Hp} {Q : Value → Hp → Prop} (hb : B_signalboxlaw54_DebounceQuiet_21 in0 h5 most11 run12 t67 t68 t69 h Q) : K_signalboxlaw54_DebounceQuiet_21 in0 h5 most11 run12 t67 t68 t69 h Q :=
  Cut.of_ev Try.func12 mixed C_signalboxlaw54_DebounceQuiet D_signalboxlaw54_DebounceQuiet 400 (by rw [E_signalboxlaw54_DebounceQuiet_21]; exact hb)
end Go.Proofs.Ytkmenmagclojmaa
