/- What the functions of this layer come to, as forms of the small logic; written by program. Conditions: none. -/
import Derived.Test.YtbpnpmknamghkaaSbU
import Derived.Test.YtbpnpmknamghkaaHypM
import Derived.Test.YtbpnpmknamghkaaSbQ
import Derived.Test.YtbpnpmknamghkaaChecked
import Derived.KernelRfl
set_option maxRecDepth 100000
namespace Go.Proofs.Ytbpnpmknamghkaa
open Go Go.Sb
def N_signalboxlaw32_HyperShares (a0_0 : Int) (a0_1 : Int) (b1_0 : Int) (b1_1 : Int) : M Value := Nf Try.prog 4 #[.agg #[.int .u64 a0_0, .int .u64 a0_1], .agg #[.int .u64 b1_0, .int .u64 b1_1]]
def C_signalboxlaw32_HyperShares : List (Nat × List Nat) := []
def D_signalboxlaw32_HyperShares : List (Nat × List Nat) := []
def B_signalboxlaw32_HyperShares (a0_0 : Int) (a0_1 : Int) (b1_0 : Int) (b1_1 : Int) : M Value :=
  mNew #[.int .u64 a0_0, .int .u64 a0_1] 29 fun (x2 : Addr) =>
  mNew #[.int .u64 b1_0, .int .u64 b1_1] 29 fun (x3 : Addr) =>
  mBind (N_signalboxlaw32_fixed) fun r9 =>
  unB r9 fun (x9 : Bool) =>
  mIf (!x9) (
    mRet (.bool false)) (
    mLdI .u64 x2 fun (x13 : Int) =>
    mLdI .u64 (x2.add 1) fun (x15 : Int) =>
    mLdI .u64 x3 fun (x17 : Int) =>
    mLdI .u64 (x3.add 1) fun (x19 : Int) =>
    mBind (N_signalboxref32_Add x13 x15 x17 x19) fun r20 =>
    un2 (unI .u64) (unI .u64) r20 fun (x20_0 : Int) (x20_1 : Int) =>
    mLdI .u64 x2 fun (x25 : Int) =>
    mLdI .u64 (x2.add 1) fun (x27 : Int) =>
    mBind (N_signalboxref32_Simple x25 x27) fun r28 =>
    un2 (unI .u64) (unI .u64) r28 fun (x28_0 : Int) (x28_1 : Int) =>
    mLdI .u64 x2 fun (x31_0 : Int) =>
    mLdI .u64 (x2.add 1) fun (x31_1 : Int) =>
    mLdI .u64 x3 fun (x32_0 : Int) =>
    mLdI .u64 (x3.add 1) fun (x32_1 : Int) =>
    mU (Callable Try.prog 23) (N_hyper_Less x31_0 x31_1 x32_0 x32_1) fun r33 =>
    unB r33 fun (x33 : Bool) =>
    mLdI .u64 x2 fun (x35 : Int) =>
    mLdI .u64 (x2.add 1) fun (x37 : Int) =>
    mLdI .u64 x3 fun (x39 : Int) =>
    mLdI .u64 (x3.add 1) fun (x41 : Int) =>
    mU (Callable Try.prog 24) (N_signalboxref32_Less x35 x37 x39 x41) fun r42 =>
    unB r42 fun (x42 : Bool) =>
    mBind (mIf (x33 == x42) (mLdI .u64 x2 fun (x45_0 : Int) =>
      mLdI .u64 (x2.add 1) fun (x45_1 : Int) =>
      mLdI .u64 x3 fun (x46_0 : Int) =>
      mLdI .u64 (x3.add 1) fun (x46_1 : Int) =>
      mU (Callable Try.prog 25) (N_hyper_Add x45_0 x45_1 x46_0 x46_1) fun r47 =>
      unA r47 fun x47l =>
      unC x47l fun x47v0 x47l0 =>
      unI .u64 x47v0 fun (x47_0 : Int) =>
      unC x47l0 fun x47v1 x47l1 =>
      unI .u64 x47v1 fun (x47_1 : Int) =>
      unE x47l1 <|
      mRet ((x47_0 == x20_0) && ((x47_1 == x20_1) && true))) (mRet false)) fun (b33 : Bool) =>
    mBind (mIf b33 (mLdI .u64 x2 fun (x54_0 : Int) =>
      mLdI .u64 (x2.add 1) fun (x54_1 : Int) =>
      mU (Callable Try.prog 26) (N_hyper_Simple x54_0 x54_1) fun r55 =>
      unA r55 fun x55l =>
      unC x55l fun x55v0 x55l0 =>
      unI .u64 x55v0 fun (x55_0 : Int) =>
      unC x55l0 fun x55v1 x55l1 =>
      unI .u64 x55v1 fun (x55_1 : Int) =>
      unE x55l1 <|
      mRet ((x55_0 == x28_0) && ((x55_1 == x28_1) && true))) (mRet false)) fun (b36 : Bool) =>
    mGrow <|
    mRet (.bool b36))
theorem E_signalboxlaw32_HyperShares (a0_0 : Int) (a0_1 : Int) (b1_0 : Int) (b1_1 : Int) : evU Try.prog 4 Try.f4.results.toList [5] 400 [.code (bodyOf Try.f4)] (List.map some [.agg #[.int .u64 a0_0, .int .u64 a0_1], .agg #[.int .u64 b1_0, .int .u64 b1_1]] ++ List.replicate (Try.f4.ntmps - List.length ([.agg #[.int .u64 a0_0, .int .u64 a0_1], .agg #[.int .u64 b1_0, .int .u64 b1_1]] : List Value)) none) = B_signalboxlaw32_HyperShares a0_0 a0_1 b1_0 b1_1 := by kernel_rfl
theorem S_signalboxlaw32_HyperShares (a0_0 : Int) (a0_1 : Int) (b1_0 : Int) (b1_1 : Int) {h : Hp} {Q : Value → Hp → Prop} (hb : B_signalboxlaw32_HyperShares a0_0 a0_1 b1_0 b1_1 h Q) : N_signalboxlaw32_HyperShares a0_0 a0_1 b1_0 b1_1 h Q :=
  Nf.of_evU Try.call4 Try.func4 (c := bodyOf Try.f4) rfl mixed [5] 400 (args := [.agg #[.int .u64 a0_0, .int .u64 a0_1], .agg #[.int .u64 b1_0, .int .u64 b1_1]]) (by rw [E_signalboxlaw32_HyperShares]; exact hb)
end Go.Proofs.Ytbpnpmknamghkaa
