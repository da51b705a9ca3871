/- What the functions of this layer come to, as forms of the small logic; written by program. Conditions: none. -/
import Derived.Test.YtbpnpmknamghkaaSbU
import Derived.Test.YtbpnpmknamghkaaChecked
import Derived.KernelRfl
set_option maxRecDepth 100000
namespace Go.Proofs.Ytbpnpmknamghkaa
open Go Go.Sb
theorem mixed : Try.prog.follows .mixedOrders = true := by kernel_rfl
def N_signalboxlaw42_BucketPlays (room0 : Int) (rate1 : Int) (gap2 : Int) (l3 : Sl) (n4 : Int) : M Value := Nf Try.prog 9 #[.int .u64 room0, .int .u64 rate1, .int .u64 gap2, .slice l3.p l3.n l3.c, .int .u64 n4]
def N_signalboxlaw42_BucketBound (room0 : Int) (rate1 : Int) (gap2 : Int) (l3 : Sl) (from4 : Int) (to5 : Int) : M Value := Nf Try.prog 10 #[.int .u16 room0, .int .u16 rate1, .int .u16 gap2, .slice l3.p l3.n l3.c, .int .u8 from4, .int .u8 to5]
def N_signalboxlaw42_fixed : M Value := Nf Try.prog 35 #[]
def N_bucket_New (room0 : Int) (rate1 : Int) (gap2 : Int) : M Value := Nf Try.prog 36 #[.int .u64 room0, .int .u64 rate1, .int .u64 gap2]
def N_bucket_Bucket_When (b0 : Option Addr) (n1 : Int) : M Value := Nf Try.prog 37 #[.pointer b0, .int .u64 n1]
def N_bucket_Bucket_Take (b0 : Option Addr) (at1 : Int) (n2 : Int) : M Value := Nf Try.prog 38 #[.pointer b0, .int .u64 at1, .int .u64 n2]
def N_bucket_Bucket_Has (b0 : Option Addr) (at1 : Int) : M Value := Nf Try.prog 39 #[.pointer b0, .int .u64 at1]
def N_bucket_Bucket_Now (b0 : Option Addr) : M Value := Nf Try.prog 40 #[.pointer b0]
def N_signalboxref42_Bucket_Go (b0 : Option Addr) (at1 : Int) : M Value := Nf Try.prog 41 #[.pointer b0, .int .u64 at1]
def N_sat_Mul (a0 : Int) (b1 : Int) : M Value := Nf Try.prog 60 #[.int .u64 a0, .int .u64 b1]
def N_math_bits_Mul64 (x0 : Int) (y1 : Int) : M Value := Nf Try.prog 62 #[.int .u64 x0, .int .u64 y1]
def N_sat_Add (a0 : Int) (b1 : Int) : M Value := Nf Try.prog 63 #[.int .u64 a0, .int .u64 b1]
def N_sat_Ceil (a0 : Int) (b1 : Int) : M Value := Nf Try.prog 69 #[.int .u64 a0, .int .u64 b1]
def N_bucket_Bucket_pass (b0 : Option Addr) (at1 : Int) : M Value := Nf Try.prog 70 #[.pointer b0, .int .u64 at1]
def N_math_bits_Add64 (x0 : Int) (x1 : Int) (x2 : Int) : M Value := Nf Try.prog 79 #[.int .u64 x0, .int .u64 x1, .int .u64 x2]
def C_signalboxlaw42_BucketPlays : List (Nat × List Nat) := [(12, [0, 1, 4, 11, 14, 15, 69, 70, 71]), (24, [0, 1, 4, 11, 14, 15, 69, 70, 71])]
def D_signalboxlaw42_BucketPlays : List (Nat × List Nat) := [(17, []), (21, [0, 1, 2, 3, 4, 5, 6]), (24, [])]
def T_signalboxlaw42_BucketPlays_12 (room0 : Int) (rate1 : Int) (n4 : Int) (b11 : Option Addr) (r14 : Addr) (at15 : Int) (t69 : Sl) (t70 : Int) (t71 : Int) : Env := mkEnv [(0, .int .u64 room0), (1, .int .u64 rate1), (4, .int .u64 n4), (11, .pointer b11), (14, .pointer (some r14)), (15, .int .u64 at15), (69, .slice t69.p t69.n t69.c), (70, .int .i64 t70), (71, .int .i64 t71)] 217 0
def K_signalboxlaw42_BucketPlays_12 (room0 : Int) (rate1 : Int) (n4 : Int) (b11 : Option Addr) (r14 : Addr) (at15 : Int) (t69 : Sl) (t70 : Int) (t71 : Int) : M Value := Cut Try.prog 9 (todoOf Try.f9 12) (T_signalboxlaw42_BucketPlays_12 room0 rate1 n4 b11 r14 at15 t69 t70 t71)
def T_signalboxlaw42_BucketPlays_24 (room0 : Int) (rate1 : Int) (n4 : Int) (b11 : Option Addr) (r14 : Addr) (at15 : Int) (t69 : Sl) (t70 : Int) (t71 : Int) : Env := mkEnv [(0, .int .u64 room0), (1, .int .u64 rate1), (4, .int .u64 n4), (11, .pointer b11), (14, .pointer (some r14)), (15, .int .u64 at15), (69, .slice t69.p t69.n t69.c), (70, .int .i64 t70), (71, .int .i64 t71)] 217 0
def K_signalboxlaw42_BucketPlays_24 (room0 : Int) (rate1 : Int) (n4 : Int) (b11 : Option Addr) (r14 : Addr) (at15 : Int) (t69 : Sl) (t70 : Int) (t71 : Int) : M Value := Cut Try.prog 9 (todoOf Try.f9 24) (T_signalboxlaw42_BucketPlays_24 room0 rate1 n4 b11 r14 at15 t69 t70 t71)
def B_signalboxlaw42_BucketPlays (room0 : Int) (rate1 : Int) (gap2 : Int) (l3 : Sl) (n4 : Int) : M Value :=
  mBind (N_signalboxlaw42_fixed) fun r22 =>
  unB r22 fun (x22 : Bool) =>
  mIf (!x22) (
    mRet (.bool false)) (
    mIf (decide ((l3.n : Int) > (40 : Int))) (
      mRet (.bool true)) (
      mBind (N_bucket_New room0 rate1 gap2) fun r30 =>
      unP r30 fun (x30 : Option Addr) =>
      mIf ((gap2 == (0 : Int)) || (decide (room0 > (1099511627776 : Int)))) (
        mBind (N_bucket_Bucket_When x30 (0 : Int)) fun r39 =>
        un2 (unI .u64) unB r39 fun (_x39_0 : Int) (x39_1 : Bool) =>
        mBind (mIf x30.isNone (mBind (N_bucket_Bucket_Take x30 (0 : Int) (0 : Int)) fun r46 =>
          unB r46 fun (x46 : Bool) =>
          mRet (!x46)) (mRet false)) fun (b5 : Bool) =>
        mBind (mIf b5 (mBind (N_bucket_Bucket_Has x30 (3 : Int)) fun r51 =>
          unI .u64 r51 fun (x51 : Int) =>
          mRet (x51 == (0 : Int))) (mRet false)) fun (b7 : Bool) =>
        mBind (mIf (b7 && (!x39_1)) (mBind (N_bucket_Bucket_Now x30) fun r60 =>
          unI .u64 r60 fun (x60 : Int) =>
          mRet (x60 == (0 : Int))) (mRet false)) fun (b9 : Bool) =>
        mRet (.bool b9)) (
        mNew #[.int .u64 room0, .int .u64 rate1, .int .u64 gap2, .int .u64 room0, .int .u64 (0 : Int)] 69 fun (x68 : Addr) =>
        K_signalboxlaw42_BucketPlays_12 room0 rate1 n4 x30 x68 (0 : Int) l3 (l3.n : Int) (0 : Int))))
def B_signalboxlaw42_BucketPlays_12 (room0 : Int) (rate1 : Int) (n4 : Int) (b11 : Option Addr) (r14 : Addr) (at15 : Int) (t69 : Sl) (t70 : Int) (t71 : Int) : M Value :=
  mIf (decide (t71 < t70)) (
    mIdx t69 t71 3 fun (x73 : Addr) =>
    mLdI .u16 x73 fun (x74_0 : Int) =>
    mLdI .u64 (x73.add 1) fun (x74_1 : Int) =>
    mLdB (x73.add 2) fun (x74_2 : Bool) =>
    mNew #[.int .u16 (0 : Int), .int .u64 (0 : Int), .bool false] 72 fun (x17 : Addr) =>
    mSt x17 (.int .u16 x74_0) <|
    mSt (x17.add 1) (.int .u64 x74_1) <|
    mSt (x17.add 2) (.bool x74_2) <|
    mLdI .u16 x17 fun (x77 : Int) =>
    mGuard ((300 : Int) ≠ 0) <|
    mBind (N_signalboxref42_Bucket_Go (some r14) (IntKind.u64.wrap (at15 + (IntKind.u64.wrap (Int.tmod x77 (300 : Int)))))) fun _r83 =>
    mLdB (x17.add 2) fun (x85 : Bool) =>
    mIf x85 (
      mAnd (
        mBind (N_bucket_Bucket_Has b11 (IntKind.u64.wrap (at15 + (IntKind.u64.wrap (Int.tmod x77 (300 : Int)))))) fun r88_25 =>
        unI .u64 r88_25 fun (x88_25 : Int) =>
        mLdI .u64 (r14.add 3) fun (x92_26 : Int) =>
        mIf (x88_25 != x92_26) (
          mRet (.bool false)) (
          K_signalboxlaw42_BucketPlays_24 room0 rate1 n4 b11 r14 (IntKind.u64.wrap (at15 + (IntKind.u64.wrap (Int.tmod x77 (300 : Int))))) t69 t70 t71)) (
        mLdI .u64 (r14.add 3) fun (x92 : Int) =>
        mBind (N_bucket_Bucket_Has b11 (IntKind.u64.wrap (at15 + (IntKind.u64.wrap (Int.tmod x77 (300 : Int)))))) fun r88 =>
        unI .u64 r88 fun (x88 : Int) =>
        mIf (x88 != x92) (
          mRet (.bool false)) (
          K_signalboxlaw42_BucketPlays_24 room0 rate1 n4 b11 r14 (IntKind.u64.wrap (at15 + (IntKind.u64.wrap (Int.tmod x77 (300 : Int))))) t69 t70 t71))) (
      mLdI .u64 (r14.add 3) fun (x97 : Int) =>
      mLdI .u64 (x17.add 1) fun (x99 : Int) =>
      mIf (decide (x97 ≥ x99)) (
        mLdI .u64 (r14.add 3) fun (x105 : Int) =>
        mLdI .u64 (x17.add 1) fun (x107 : Int) =>
        mSt (r14.add 3) (.int .u64 (IntKind.u64.wrap (x105 - x107))) <|
        mLdI .u64 (x17.add 1) fun (x114 : Int) =>
        mBind (N_bucket_Bucket_Take b11 (IntKind.u64.wrap (at15 + (IntKind.u64.wrap (Int.tmod x77 (300 : Int))))) x114) fun r115 =>
        unB r115 fun (x115 : Bool) =>
        mIf (!(x115 == (decide (x97 ≥ x99)))) (
          mRet (.bool false)) (
          K_signalboxlaw42_BucketPlays_24 room0 rate1 n4 b11 r14 (IntKind.u64.wrap (at15 + (IntKind.u64.wrap (Int.tmod x77 (300 : Int))))) t69 t70 t71)) (
        mLdI .u64 (x17.add 1) fun (x114_44 : Int) =>
        mBind (N_bucket_Bucket_Take b11 (IntKind.u64.wrap (at15 + (IntKind.u64.wrap (Int.tmod x77 (300 : Int))))) x114_44) fun r115_45 =>
        unB r115_45 fun (x115_45 : Bool) =>
        mIf (!(x115_45 == (decide (x97 ≥ x99)))) (
          mRet (.bool false)) (
          K_signalboxlaw42_BucketPlays_24 room0 rate1 n4 b11 r14 (IntKind.u64.wrap (at15 + (IntKind.u64.wrap (Int.tmod x77 (300 : Int))))) t69 t70 t71)))) (
    mBind (N_bucket_Bucket_When b11 n4) fun r138 =>
    un2 (unI .u64) unB r138 fun (x138_0 : Int) (x138_1 : Bool) =>
    mLdI .u64 (r14.add 3) fun (x145 : Int) =>
    mIf (decide (n4 ≤ x145)) (
      mBind (mIf x138_1 (mLdI .u64 (r14.add 4) fun (x153 : Int) =>
        mRet (x138_0 == x153)) (mRet false)) fun (b53 : Bool) =>
      mRet (.bool b53)) (
      mIf ((decide (n4 > room0)) || (rate1 == (0 : Int))) (
        mRet (.bool ((!x138_1) && (x138_0 == (0 : Int))))) (
        mIf (!x138_1) (
          mRet (.bool (x138_0 == (0 : Int)))) (
          mLdI .u64 (r14.add 4) fun (x177 : Int) =>
          mBind (mIf (decide (x138_0 ≤ x177)) (mRet true) (mLdI .u64 (r14.add 4) fun (x184 : Int) =>
            mRet (decide ((IntKind.u64.wrap (x138_0 - x184)) > (100000 : Int))))) fun (b60 : Bool) =>
          mIf b60 (
            mLdI .u64 (r14.add 4) fun (x192 : Int) =>
            mRet (.bool (decide (x138_0 > x192)))) (
            mBind (N_signalboxref42_Bucket_Go (some r14) (IntKind.u64.wrap (x138_0 - (1 : Int)))) fun _r197 =>
            mLdI .u64 (r14.add 3) fun (x201 : Int) =>
            mBind (N_signalboxref42_Bucket_Go (some r14) x138_0) fun _r206 =>
            mBind (mIf (!(decide (x201 ≥ n4))) (mLdI .u64 (r14.add 3) fun (x213 : Int) =>
              mRet (decide (x213 ≥ n4))) (mRet false)) fun (b72 : Bool) =>
            mRet (.bool b72))))))
def B_signalboxlaw42_BucketPlays_24 (room0 : Int) (rate1 : Int) (n4 : Int) (b11 : Option Addr) (r14 : Addr) (at15 : Int) (t69 : Sl) (t70 : Int) (t71 : Int) : M Value :=
  mAnd (
    mBind (N_bucket_Bucket_Now b11) fun r119_85 =>
    unI .u64 r119_85 fun (x119_85 : Int) =>
    mLdI .u64 (r14.add 4) fun (x123_86 : Int) =>
    mIf (x119_85 != x123_86) (
      mAnd (
        mRet (.bool false)) (
        mRet (.bool false))) (
      mAnd (
        mBind (N_bucket_Bucket_Has b11 (0 : Int)) fun r127_93 =>
        unI .u64 r127_93 fun (x127_93 : Int) =>
        mLdI .u64 (r14.add 3) fun (x131_94 : Int) =>
        mIf (match false with | true => true | false => (x127_93 != x131_94)) (
          mRet (.bool false)) (
          K_signalboxlaw42_BucketPlays_12 room0 rate1 n4 b11 r14 at15 t69 t70 (IntKind.i64.wrap (t71 + (1 : Int))))) (
        mLdI .u64 (r14.add 3) fun (x131_91 : Int) =>
        mBind (N_bucket_Bucket_Has b11 (0 : Int)) fun r127_92 =>
        unI .u64 r127_92 fun (x127_92 : Int) =>
        mIf (match false with | true => true | false => (x127_92 != x131_91)) (
          mRet (.bool false)) (
          K_signalboxlaw42_BucketPlays_12 room0 rate1 n4 b11 r14 at15 t69 t70 (IntKind.i64.wrap (t71 + (1 : Int))))))) (
    mLdI .u64 (r14.add 4) fun (x123 : Int) =>
    mBind (N_bucket_Bucket_Now b11) fun r119 =>
    unI .u64 r119 fun (x119 : Int) =>
    mIf (x119 != x123) (
      mAnd (
        mRet (.bool false)) (
        mRet (.bool false))) (
      mAnd (
        mBind (N_bucket_Bucket_Has b11 (0 : Int)) fun r127_83 =>
        unI .u64 r127_83 fun (x127_83 : Int) =>
        mLdI .u64 (r14.add 3) fun (x131_84 : Int) =>
        mIf (match false with | true => true | false => (x127_83 != x131_84)) (
          mRet (.bool false)) (
          K_signalboxlaw42_BucketPlays_12 room0 rate1 n4 b11 r14 at15 t69 t70 (IntKind.i64.wrap (t71 + (1 : Int))))) (
        mLdI .u64 (r14.add 3) fun (x131 : Int) =>
        mBind (N_bucket_Bucket_Has b11 (0 : Int)) fun r127 =>
        unI .u64 r127 fun (x127 : Int) =>
        mIf (match false with | true => true | false => (x127 != x131)) (
          mRet (.bool false)) (
          K_signalboxlaw42_BucketPlays_12 room0 rate1 n4 b11 r14 at15 t69 t70 (IntKind.i64.wrap (t71 + (1 : Int)))))))
theorem E_signalboxlaw42_BucketPlays (room0 : Int) (rate1 : Int) (gap2 : Int) (l3 : Sl) (n4 : Int) : ev Try.prog 9 Try.f9.results.toList C_signalboxlaw42_BucketPlays D_signalboxlaw42_BucketPlays 400 false [.code (bodyOf Try.f9)] (List.map some [.int .u64 room0, .int .u64 rate1, .int .u64 gap2, .slice l3.p l3.n l3.c, .int .u64 n4] ++ List.replicate (Try.f9.ntmps - List.length ([.int .u64 room0, .int .u64 rate1, .int .u64 gap2, .slice l3.p l3.n l3.c, .int .u64 n4] : List Value)) none) = B_signalboxlaw42_BucketPlays room0 rate1 gap2 l3 n4 := by kernel_rfl
theorem S_signalboxlaw42_BucketPlays (room0 : Int) (rate1 : Int) (gap2 : Int) (l3 : Sl) (n4 : Int) {h : Hp} {Q : Value → Hp → Prop} (hb : B_signalboxlaw42_BucketPlays room0 rate1 gap2 l3 n4 h Q) : N_signalboxlaw42_BucketPlays room0 rate1 gap2 l3 n4 h Q :=
  Nf.of_ev Try.call9 Try.func9 (c := bodyOf Try.f9) rfl mixed C_signalboxlaw42_BucketPlays D_signalboxlaw42_BucketPlays 400 (args := [.int .u64 room0, .int .u64 rate1, .int .u64 gap2, .slice l3.p l3.n l3.c, .int .u64 n4]) (by rw [E_signalboxlaw42_BucketPlays]; exact hb)
theorem E_signalboxlaw42_BucketPlays_12 (room0 : Int) (rate1 : Int) (n4 : Int) (b11 : Option Addr) (r14 : Addr) (at15 : Int) (t69 : Sl) (t70 : Int) (t71 : Int) : ev Try.prog 9 Try.f9.results.toList C_signalboxlaw42_BucketPlays D_signalboxlaw42_BucketPlays 400 true (todoOf Try.f9 12) (T_signalboxlaw42_BucketPlays_12 room0 rate1 n4 b11 r14 at15 t69 t70 t71) = B_signalboxlaw42_BucketPlays_12 room0 rate1 n4 b11 r14 at15 t69 t70 t71 := by kernel_rfl
theorem S_signalboxlaw42_BucketPlays_12 (room0 : Int) (rate1 : Int) (n4 : Int) (b11 : Option Addr) (r14 : Addr) (at15 : Int) (t69 : Sl) (t70 : Int) (t71 : Int) {h : Hp} {Q : Value → Hp → Prop} (hb : B_signalboxlaw42_BucketPlays_12 room0 rate1 n4 b11 r14 at15 t69 t70 t71 h Q) : K_signalboxlaw42_BucketPlays_12 room0 rate1 n4 b11 r14 at15 t69 t70 t71 h Q :=
  Cut.of_ev Try.func9 mixed C_signalboxlaw42_BucketPlays D_signalboxlaw42_BucketPlays 400 (by rw [E_signalboxlaw42_BucketPlays_12]; exact hb)
theorem E_signalboxlaw42_BucketPlays_24 (room0 : Int) (rate1 : Int) (n4 : Int) (b11 : Option Addr) (r14 : Addr) (at15 : Int) (t69 : Sl) (t70 : Int) (t71 : Int) : ev Try.prog 9 Try.f9.results.toList C_signalboxlaw42_BucketPlays D_signalboxlaw42_BucketPlays 400 true (todoOf Try.f9 24) (T_signalboxlaw42_BucketPlays_24 room0 rate1 n4 b11 r14 at15 t69 t70 t71) = B_signalboxlaw42_BucketPlays_24 room0 rate1 n4 b11 r14 at15 t69 t70 t71 := by kernel_rfl
theorem S_signalboxlaw42_BucketPlays_24 (room0 : Int) (rate1 : Int) (n4 : Int) (b11 : Option Addr) (r14 : Addr) (at15 : Int) (t69 : Sl) (t70 : Int) (t71 : Int) {h : Hp} {Q : Value → Hp → Prop} (hb : B_signalboxlaw42_BucketPlays_24 room0 rate1 n4 b11 r14 at15 t69 t70 t71 h Q) : K_signalboxlaw42_BucketPlays_24 room0 rate1 n4 b11 r14 at15 t69 t70 t71 h Q :=
  Cut.of_ev Try.func9 mixed C_signalboxlaw42_BucketPlays D_signalboxlaw42_BucketPlays 400 (by rw [E_signalboxlaw42_BucketPlays_24]; exact hb)
def C_signalboxlaw42_BucketBound : List (Nat × List Nat) := [(10, [0, 1, 3, 13, 14, 15, 16, 17, 18, 19, 20, 46, 47, 48]), (15, [0, 1, 3, 13, 14, 15, 16, 17, 18, 19, 20, 21, 22, 46, 47, 48])]
def D_signalboxlaw42_BucketBound : List (Nat × List Nat) := []
def T_signalboxlaw42_BucketBound_10 (room0 : Int) (rate1 : Int) (l3 : Sl) (g13 : Int) (b14 : Option Addr) (i15 : Int) (k16 : Int) (at17 : Int) (went18 : Int) (begin19 : Int) (end20 : Int) (t46 : Sl) (t47 : Int) (t48 : Int) : Env := mkEnv [(0, .int .u16 room0), (1, .int .u16 rate1), (3, .slice l3.p l3.n l3.c), (13, .int .u64 g13), (14, .pointer b14), (15, .int .i64 i15), (16, .int .i64 k16), (17, .int .u64 at17), (18, .int .u64 went18), (19, .int .u64 begin19), (20, .int .u64 end20), (46, .slice t46.p t46.n t46.c), (47, .int .i64 t47), (48, .int .i64 t48)] 107 0
def K_signalboxlaw42_BucketBound_10 (room0 : Int) (rate1 : Int) (l3 : Sl) (g13 : Int) (b14 : Option Addr) (i15 : Int) (k16 : Int) (at17 : Int) (went18 : Int) (begin19 : Int) (end20 : Int) (t46 : Sl) (t47 : Int) (t48 : Int) : M Value := Cut Try.prog 10 (todoOf Try.f10 10) (T_signalboxlaw42_BucketBound_10 room0 rate1 l3 g13 b14 i15 k16 at17 went18 begin19 end20 t46 t47 t48)
def T_signalboxlaw42_BucketBound_15 (room0 : Int) (rate1 : Int) (l3 : Sl) (g13 : Int) (b14 : Option Addr) (i15 : Int) (k16 : Int) (at17 : Int) (went18 : Int) (begin19 : Int) (end20 : Int) (n21 : Int) (a22 : Addr) (t46 : Sl) (t47 : Int) (t48 : Int) : Env := mkEnv [(0, .int .u16 room0), (1, .int .u16 rate1), (3, .slice l3.p l3.n l3.c), (13, .int .u64 g13), (14, .pointer b14), (15, .int .i64 i15), (16, .int .i64 k16), (17, .int .u64 at17), (18, .int .u64 went18), (19, .int .u64 begin19), (20, .int .u64 end20), (21, .int .i64 n21), (22, .pointer (some a22)), (46, .slice t46.p t46.n t46.c), (47, .int .i64 t47), (48, .int .i64 t48)] 107 0
def K_signalboxlaw42_BucketBound_15 (room0 : Int) (rate1 : Int) (l3 : Sl) (g13 : Int) (b14 : Option Addr) (i15 : Int) (k16 : Int) (at17 : Int) (went18 : Int) (begin19 : Int) (end20 : Int) (n21 : Int) (a22 : Addr) (t46 : Sl) (t47 : Int) (t48 : Int) : M Value := Cut Try.prog 10 (todoOf Try.f10 15) (T_signalboxlaw42_BucketBound_15 room0 rate1 l3 g13 b14 i15 k16 at17 went18 begin19 end20 n21 a22 t46 t47 t48)
def B_signalboxlaw42_BucketBound (room0 : Int) (rate1 : Int) (gap2 : Int) (l3 : Sl) (from4 : Int) (to5 : Int) : M Value :=
  mBind (N_signalboxlaw42_fixed) fun r23 =>
  unB r23 fun (x23 : Bool) =>
  mIf (!x23) (
    mRet (.bool false)) (
    mIf (decide ((l3.n : Int) > (60 : Int))) (
      mRet (.bool true)) (
      mGuard ((500 : Int) ≠ 0) <|
      mBind (N_bucket_New (IntKind.u64.wrap room0) (IntKind.u64.wrap rate1) (IntKind.u64.wrap ((IntKind.u64.wrap (Int.tmod gap2 (500 : Int))) + (1 : Int)))) fun r37 =>
      unP r37 fun (x37 : Option Addr) =>
      K_signalboxlaw42_BucketBound_10 room0 rate1 l3 (IntKind.u64.wrap ((IntKind.u64.wrap (Int.tmod gap2 (500 : Int))) + (1 : Int))) x37 (IntKind.i64.wrap (if to5 < from4 then to5 else from4)) (IntKind.i64.wrap (if to5 > from4 then to5 else from4)) (0 : Int) (0 : Int) (0 : Int) (0 : Int) l3 (l3.n : Int) (0 : Int)))
def B_signalboxlaw42_BucketBound_10 (room0 : Int) (rate1 : Int) (l3 : Sl) (g13 : Int) (b14 : Option Addr) (i15 : Int) (k16 : Int) (at17 : Int) (went18 : Int) (begin19 : Int) (end20 : Int) (t46 : Sl) (t47 : Int) (t48 : Int) : M Value :=
  mIf (decide (t48 < t47)) (
    mIdx t46 t48 3 fun (x51 : Addr) =>
    mLdI .u16 x51 fun (x52_0 : Int) =>
    mLdI .u64 (x51.add 1) fun (x52_1 : Int) =>
    mLdB (x51.add 2) fun (x52_2 : Bool) =>
    mNew #[.int .u16 (0 : Int), .int .u64 (0 : Int), .bool false] 72 fun (x22 : Addr) =>
    mSt x22 (.int .u16 x52_0) <|
    mSt (x22.add 1) (.int .u64 x52_1) <|
    mSt (x22.add 2) (.bool x52_2) <|
    mLdI .u16 x22 fun (x55 : Int) =>
    mIf (t48 == i15) (
      K_signalboxlaw42_BucketBound_15 room0 rate1 l3 g13 b14 i15 k16 (IntKind.u64.wrap (at17 + (IntKind.u64.wrap x55))) went18 (IntKind.u64.wrap (at17 + (IntKind.u64.wrap x55))) end20 t48 x22 t46 t47 t48) (
      K_signalboxlaw42_BucketBound_15 room0 rate1 l3 g13 b14 i15 k16 (IntKind.u64.wrap (at17 + (IntKind.u64.wrap x55))) went18 begin19 end20 t48 x22 t46 t47 t48)) (
    mIf (decide (i15 ≥ (l3.n : Int))) (
      mRet (.bool (went18 == (0 : Int)))) (
      mGuard (g13 ≠ 0) <|
      mGuard (g13 ≠ 0) <|
      mRet (.bool (decide (went18 ≤ (IntKind.u64.wrap ((IntKind.u64.wrap room0) + (IntKind.u64.wrap ((IntKind.u64.wrap ((IntKind.u64.wrap (Int.tdiv end20 g13)) - (IntKind.u64.wrap (Int.tdiv begin19 g13)))) * (IntKind.u64.wrap rate1))))))))))
def B_signalboxlaw42_BucketBound_15 (room0 : Int) (rate1 : Int) (l3 : Sl) (g13 : Int) (b14 : Option Addr) (i15 : Int) (k16 : Int) (at17 : Int) (went18 : Int) (begin19 : Int) (end20 : Int) (n21 : Int) (a22 : Addr) (t46 : Sl) (t47 : Int) (t48 : Int) : M Value :=
  mLdI .u64 (a22.add 1) fun (x65 : Int) =>
  mBind (N_bucket_Bucket_Take b14 at17 x65) fun r66 =>
  unB r66 fun (x66 : Bool) =>
  mIf ((x66 && (decide (n21 ≥ i15))) && (decide (n21 ≤ k16))) (
    mLdI .u64 (a22.add 1) fun (x79 : Int) =>
    mIf (decide (n21 ≤ k16)) (
      K_signalboxlaw42_BucketBound_10 room0 rate1 l3 g13 b14 i15 k16 at17 (IntKind.u64.wrap (went18 + x79)) begin19 at17 t46 t47 (IntKind.i64.wrap (t48 + (1 : Int)))) (
      K_signalboxlaw42_BucketBound_10 room0 rate1 l3 g13 b14 i15 k16 at17 (IntKind.u64.wrap (went18 + x79)) begin19 end20 t46 t47 (IntKind.i64.wrap (t48 + (1 : Int))))) (
    mIf (decide (n21 ≤ k16)) (
      K_signalboxlaw42_BucketBound_10 room0 rate1 l3 g13 b14 i15 k16 at17 went18 begin19 at17 t46 t47 (IntKind.i64.wrap (t48 + (1 : Int)))) (
      K_signalboxlaw42_BucketBound_10 room0 rate1 l3 g13 b14 i15 k16 at17 went18 begin19 end20 t46 t47 (IntKind.i64.wrap (t48 + (1 : Int)))))
theorem E_signalboxlaw42_BucketBound (room0 : Int) (rate1 : Int) (gap2 : Int) (l3 : Sl) (from4 : Int) (to5 : Int) : ev Try.prog 10 Try.f10.results.toList C_signalboxlaw42_BucketBound D_signalboxlaw42_BucketBound 400 false [.code (bodyOf Try.f10)] (List.map some [.int .u16 room0, .int .u16 rate1, .int .u16 gap2, .slice l3.p l3.n l3.c, .int .u8 from4, .int .u8 to5] ++ List.replicate (Try.f10.ntmps - List.length ([.int .u16 room0, .int .u16 rate1, .int .u16 gap2, .slice l3.p l3.n l3.c, .int .u8 from4, .int .u8 to5] : List Value)) none) = B_signalboxlaw42_BucketBound room0 rate1 gap2 l3 from4 to5 := by kernel_rfl
theorem S_signalboxlaw42_BucketBound (room0 : Int) (rate1 : Int) (gap2 : Int) (l3 : Sl) (from4 : Int) (to5 : Int) {h : Hp} {Q : Value → Hp → Prop} (hb : B_signalboxlaw42_BucketBound room0 rate1 gap2 l3 from4 to5 h Q) : N_signalboxlaw42_BucketBound room0 rate1 gap2 l3 from4 to5 h Q :=
  Nf.of_ev Try.call10 Try.func10 (c := bodyOf Try.f10) rfl mixed C_signalboxlaw42_BucketBound D_signalboxlaw42_BucketBound 400 (args := [.int .u16 room0, .int .u16 rate1, .int .u16 gap2, .slice l3.p l3.n l3.c, .int .u8 from4, .int .u8 to5]) (by rw [E_signalboxlaw42_BucketBound]; exact hb)
theorem E_signalboxlaw42_BucketBound_10 (room0 : Int) (rate1 : Int) (l3 : Sl) (g13 : Int) (b14 : Option Addr) (i15 : Int) (k16 : Int) (at17 : Int) (went18 : Int) (begin19 : Int) (end20 : Int) (t46 : Sl) (t47 : Int) (t48 : Int) : ev Try.prog 10 Try.f10.results.toList C_signalboxlaw42_BucketBound D_signalboxlaw42_BucketBound 400 true (todoOf Try.f10 10) (T_signalboxlaw42_BucketBound_10 room0 rate1 l3 g13 b14 i15 k16 at17 went18 begin19 end20 t46 t47 t48) = B_signalboxlaw42_BucketBound_10 room0 rate1 l3 g13 b14 i15 k16 at17 went18 begin19 end20 t46 t47 t48 := by kernel_rfl
theorem S_signalboxlaw42_BucketBound_10 (room0 : Int) (rate1 : Int) (l3 : Sl) (g13 : Int) (b14 : Option Addr) (i15 : Int) (k16 : Int) (at17 : Int) (went18 : Int) (begin19 : Int) (end20 : Int) (t46 : Sl) (t47 : Int) (t48 : Int) {h : Hp} {Q : Value → Hp → Prop} (hb : B_signalboxlaw42_BucketBound_10 room0 rate1 l3 g13 b14 i15 k16 at17 went18 begin19 end20 t46 t47 t48 h Q) : K_signalboxlaw42_BucketBound_10 room0 rate1 l3 g13 b14 i15 k16 at17 went18 begin19 end20 t46 t47 t48 h Q :=
  Cut.of_ev Try.func10 mixed C_signalboxlaw42_BucketBound D_signalboxlaw42_BucketBound 400 (by rw [E_signalboxlaw42_BucketBound_10]; exact hb)
theorem E_signalboxlaw42_BucketBound_15 (room0 : Int) (rate1 : Int) (l3 : Sl) (g13 : Int) (b14 : Option Addr) (i15 : Int) (k16 : Int) (at17 : Int) (went18 : Int) (begin19 : Int) (end20 : Int) (n21 : Int) (a22 : Addr) (t46 : Sl) (t47 : Int) (t48 : Int) : ev Try.prog 10 Try.f10.results.toList C_signalboxlaw42_BucketBound D_signalboxlaw42_BucketBound 400 true (todoOf Try.f10 15) (T_signalboxlaw42_BucketBound_15 room0 rate1 l3 g13 b14 i15 k16 at17 went18 begin19 end20 n21 a22 t46 t47 t48) = B_signalboxlaw42_BucketBound_15 room0 rate1 l3 g13 b14 i15 k16 at17 went18 begin19 end20 n21 a22 t46 t47 t48 := by kernel_rfl
theorem S_signalboxlaw42_BucketBound_15 (room0 : Int) (rate1 : Int) (l3 : Sl) (g13 : Int) (b14 : Option Addr) (i15 : Int) (k16 : Int) (at17 : Int) (went18 : Int) (begin19 : Int) (end20 : Int) (n21 : Int) (a22 : Addr) (t46 : Sl) (t47 : Int) (t48 : Int) {h : Hp} {Q : Value → Hp → Prop} (hb : B_signalboxlaw42_BucketBound_15 room0 rate1 l3 g13 b14 i15 k16 at17 went18 begin19 end20 n21 a22 t46 t47 t48 h Q) : K_signalboxlaw42_BucketBound_15 room0 rate1 l3 g13 b14 i15 k16 at17 went18 begin19 end20 n21 a22 t46 t47 t48 h Q :=
  Cut.of_ev Try.func10 mixed C_signalboxlaw42_BucketBound D_signalboxlaw42_BucketBound 400 (by rw [E_signalboxlaw42_BucketBound_15]; exact hb)
def C_signalboxlaw42_fixed : List (Nat × List Nat) := []
def D_signalboxlaw42_fixed : List (Nat × List Nat) := []
def B_signalboxlaw42_fixed : M Value :=
  mBind (N_bucket_New (5 : Int) (1 : Int) (10 : Int)) fun r7 =>
  unP r7 fun (x7 : Option Addr) =>
  mBind (N_bucket_Bucket_Take x7 (0 : Int) (5 : Int)) fun r9 =>
  unB r9 fun (x9 : Bool) =>
  mBind (N_bucket_Bucket_Take x7 (9 : Int) (1 : Int)) fun r11 =>
  unB r11 fun (x11 : Bool) =>
  mBind (N_bucket_Bucket_When x7 (2 : Int)) fun r14 =>
  un2 (unI .u64) unB r14 fun (x14_0 : Int) (x14_1 : Bool) =>
  mBind (N_bucket_Bucket_Take x7 (10 : Int) (1 : Int)) fun r18 =>
  unB r18 fun (x18 : Bool) =>
  mBind (mIf ((((x9 && (!x11)) && x14_1) && (x14_0 == (20 : Int))) && x18) (mBind (N_bucket_Bucket_Has x7 (35 : Int)) fun r36 =>
    unI .u64 r36 fun (x36 : Int) =>
    mRet (x36 == (2 : Int))) (mRet false)) fun (b7 : Bool) =>
  mBind (mIf b7 (mBind (N_bucket_Bucket_Now x7) fun r41 =>
    unI .u64 r41 fun (x41 : Int) =>
    mRet (x41 == (35 : Int))) (mRet false)) fun (b9 : Bool) =>
  mBind (mIf b9 (mBind (N_bucket_New (1 : Int) (1 : Int) (0 : Int)) fun r45 =>
    unP r45 fun (x45 : Option Addr) =>
    mRet x45.isNone) (mRet false)) fun (b11 : Bool) =>
  mRet (.bool b11)
theorem E_signalboxlaw42_fixed : ev Try.prog 35 Try.f35.results.toList C_signalboxlaw42_fixed D_signalboxlaw42_fixed 400 false [.code (bodyOf Try.f35)] (List.map some [] ++ List.replicate (Try.f35.ntmps - List.length ([] : List Value)) none) = B_signalboxlaw42_fixed := by kernel_rfl
theorem S_signalboxlaw42_fixed {h : Hp} {Q : Value → Hp → Prop} (hb : B_signalboxlaw42_fixed h Q) : N_signalboxlaw42_fixed h Q :=
  Nf.of_ev Try.call35 Try.func35 (c := bodyOf Try.f35) rfl mixed C_signalboxlaw42_fixed D_signalboxlaw42_fixed 400 (args := []) (by rw [E_signalboxlaw42_fixed]; exact hb)
def C_bucket_New : List (Nat × List Nat) := []
def D_bucket_New : List (Nat × List Nat) := []
def B_bucket_New (room0 : Int) (rate1 : Int) (gap2 : Int) : M Value :=
  mIf ((gap2 == (0 : Int)) || (decide (room0 > (1099511627776 : Int)))) (
    mRet (.pointer none)) (
    mNew #[.int .u64 room0, .int .u64 rate1, .int .u64 gap2, .int .u64 room0, .int .u64 (0 : Int)] 110 fun (x18 : Addr) =>
    mRet (.pointer (some x18)))
theorem E_bucket_New (room0 : Int) (rate1 : Int) (gap2 : Int) : ev Try.prog 36 Try.f36.results.toList C_bucket_New D_bucket_New 400 false [.code (bodyOf Try.f36)] (List.map some [.int .u64 room0, .int .u64 rate1, .int .u64 gap2] ++ List.replicate (Try.f36.ntmps - List.length ([.int .u64 room0, .int .u64 rate1, .int .u64 gap2] : List Value)) none) = B_bucket_New room0 rate1 gap2 := by kernel_rfl
theorem S_bucket_New (room0 : Int) (rate1 : Int) (gap2 : Int) {h : Hp} {Q : Value → Hp → Prop} (hb : B_bucket_New room0 rate1 gap2 h Q) : N_bucket_New room0 rate1 gap2 h Q :=
  Nf.of_ev Try.call36 Try.func36 (c := bodyOf Try.f36) rfl mixed C_bucket_New D_bucket_New 400 (args := [.int .u64 room0, .int .u64 rate1, .int .u64 gap2]) (by rw [E_bucket_New]; exact hb)
def C_bucket_Bucket_When : List (Nat × List Nat) := []
def D_bucket_Bucket_When : List (Nat × List Nat) := []
def B_bucket_Bucket_When (b0 : Option Addr) (n1 : Int) : M Value :=
  mBind (mIf b0.isNone (mRet true) (mNil b0 fun (a2 : Addr) =>
    mLdI .u64 a2 fun (x16 : Int) =>
    mRet (decide (n1 > x16)))) fun (b5 : Bool) =>
  mIf b5 (
    mRet (.tuple #[.int .u64 (0 : Int), .bool false])) (
    mNil b0 fun (a7 : Addr) =>
    mLdI .u64 (a7.add 3) fun (x24 : Int) =>
    mIf (decide (n1 ≤ x24)) (
      mNil b0 fun (a11 : Addr) =>
      mLdI .u64 (a11.add 4) fun (x29 : Int) =>
      mRet (.tuple #[.int .u64 x29, .bool true])) (
      mNil b0 fun (a15 : Addr) =>
      mLdI .u64 (a15.add 1) fun (x34 : Int) =>
      mIf (x34 == (0 : Int)) (
        mRet (.tuple #[.int .u64 (0 : Int), .bool false])) (
        mNil b0 fun (a19 : Addr) =>
        mLdI .u64 (a19.add 4) fun (x39 : Int) =>
        mNil b0 fun (a23 : Addr) =>
        mLdI .u64 (a23.add 2) fun (x43 : Int) =>
        mGuard (x43 ≠ 0) <|
        mNil b0 fun (a28 : Addr) =>
        mLdI .u64 (a28.add 3) fun (x49 : Int) =>
        mNil b0 fun (a32 : Addr) =>
        mLdI .u64 (a32.add 1) fun (x54 : Int) =>
        mQ (N_sat_Ceil (IntKind.u64.wrap (n1 - x49)) x54) fun r55 =>
        unI .u64 r55 fun (x55 : Int) =>
        mQ (N_sat_Add (IntKind.u64.wrap (Int.tdiv x39 x43)) x55) fun r56 =>
        unI .u64 r56 fun (x56 : Int) =>
        mNil b0 fun (a38 : Addr) =>
        mLdI .u64 (a38.add 2) fun (x61 : Int) =>
        mBind (N_sat_Mul x56 x61) fun r62 =>
        unI .u64 r62 fun (x62 : Int) =>
        mIf (x62 == (18446744073709551615 : Int)) (
          mRet (.tuple #[.int .u64 (0 : Int), .bool false])) (
          mRet (.tuple #[.int .u64 x62, .bool true])))))
theorem E_bucket_Bucket_When (b0 : Option Addr) (n1 : Int) : ev Try.prog 37 Try.f37.results.toList C_bucket_Bucket_When D_bucket_Bucket_When 400 false [.code (bodyOf Try.f37)] (List.map some [.pointer b0, .int .u64 n1] ++ List.replicate (Try.f37.ntmps - List.length ([.pointer b0, .int .u64 n1] : List Value)) none) = B_bucket_Bucket_When b0 n1 := by kernel_rfl
theorem S_bucket_Bucket_When (b0 : Option Addr) (n1 : Int) {h : Hp} {Q : Value → Hp → Prop} (hb : B_bucket_Bucket_When b0 n1 h Q) : N_bucket_Bucket_When b0 n1 h Q :=
  Nf.of_ev Try.call37 Try.func37 (c := bodyOf Try.f37) rfl mixed C_bucket_Bucket_When D_bucket_Bucket_When 400 (args := [.pointer b0, .int .u64 n1]) (by rw [E_bucket_Bucket_When]; exact hb)
def C_bucket_Bucket_Take : List (Nat × List Nat) := []
def D_bucket_Bucket_Take : List (Nat × List Nat) := []
def B_bucket_Bucket_Take (b0 : Option Addr) (at1 : Int) (n2 : Int) : M Value :=
  mBind (mIf b0.isNone (mRet true) (mBind (N_bucket_Bucket_Has b0 at1) fun r12 =>
    unI .u64 r12 fun (x12 : Int) =>
    mRet (decide (x12 < n2)))) fun (b2 : Bool) =>
  mIf b2 (
    mRet (.bool false)) (
    mNil b0 fun (a4 : Addr) =>
    mLdI .u64 (a4.add 3) fun (x19 : Int) =>
    mNil b0 fun (a8 : Addr) =>
    mSt (a8.add 3) (.int .u64 (IntKind.u64.wrap (x19 - n2))) <|
    mRet (.bool true))
theorem E_bucket_Bucket_Take (b0 : Option Addr) (at1 : Int) (n2 : Int) : ev Try.prog 38 Try.f38.results.toList C_bucket_Bucket_Take D_bucket_Bucket_Take 400 false [.code (bodyOf Try.f38)] (List.map some [.pointer b0, .int .u64 at1, .int .u64 n2] ++ List.replicate (Try.f38.ntmps - List.length ([.pointer b0, .int .u64 at1, .int .u64 n2] : List Value)) none) = B_bucket_Bucket_Take b0 at1 n2 := by kernel_rfl
theorem S_bucket_Bucket_Take (b0 : Option Addr) (at1 : Int) (n2 : Int) {h : Hp} {Q : Value → Hp → Prop} (hb : B_bucket_Bucket_Take b0 at1 n2 h Q) : N_bucket_Bucket_Take b0 at1 n2 h Q :=
  Nf.of_ev Try.call38 Try.func38 (c := bodyOf Try.f38) rfl mixed C_bucket_Bucket_Take D_bucket_Bucket_Take 400 (args := [.pointer b0, .int .u64 at1, .int .u64 n2]) (by rw [E_bucket_Bucket_Take]; exact hb)
def C_bucket_Bucket_Has : List (Nat × List Nat) := []
def D_bucket_Bucket_Has : List (Nat × List Nat) := []
def B_bucket_Bucket_Has (b0 : Option Addr) (at1 : Int) : M Value :=
  mIf b0.isNone (
    mRet (.int .u64 (0 : Int))) (
    mBind (N_bucket_Bucket_pass b0 at1) fun _r9 =>
    mNil b0 fun (a3 : Addr) =>
    mLdI .u64 (a3.add 3) fun (x13 : Int) =>
    mRet (.int .u64 x13))
theorem E_bucket_Bucket_Has (b0 : Option Addr) (at1 : Int) : ev Try.prog 39 Try.f39.results.toList C_bucket_Bucket_Has D_bucket_Bucket_Has 400 false [.code (bodyOf Try.f39)] (List.map some [.pointer b0, .int .u64 at1] ++ List.replicate (Try.f39.ntmps - List.length ([.pointer b0, .int .u64 at1] : List Value)) none) = B_bucket_Bucket_Has b0 at1 := by kernel_rfl
theorem S_bucket_Bucket_Has (b0 : Option Addr) (at1 : Int) {h : Hp} {Q : Value → Hp → Prop} (hb : B_bucket_Bucket_Has b0 at1 h Q) : N_bucket_Bucket_Has b0 at1 h Q :=
  Nf.of_ev Try.call39 Try.func39 (c := bodyOf Try.f39) rfl mixed C_bucket_Bucket_Has D_bucket_Bucket_Has 400 (args := [.pointer b0, .int .u64 at1]) (by rw [E_bucket_Bucket_Has]; exact hb)
def C_bucket_Bucket_Now : List (Nat × List Nat) := []
def D_bucket_Bucket_Now : List (Nat × List Nat) := []
def B_bucket_Bucket_Now (b0 : Option Addr) : M Value :=
  mIf b0.isNone (
    mRet (.int .u64 (0 : Int))) (
    mNil b0 fun (a2 : Addr) =>
    mLdI .u64 (a2.add 4) fun (x8 : Int) =>
    mRet (.int .u64 x8))
theorem E_bucket_Bucket_Now (b0 : Option Addr) : ev Try.prog 40 Try.f40.results.toList C_bucket_Bucket_Now D_bucket_Bucket_Now 400 false [.code (bodyOf Try.f40)] (List.map some [.pointer b0] ++ List.replicate (Try.f40.ntmps - List.length ([.pointer b0] : List Value)) none) = B_bucket_Bucket_Now b0 := by kernel_rfl
theorem S_bucket_Bucket_Now (b0 : Option Addr) {h : Hp} {Q : Value → Hp → Prop} (hb : B_bucket_Bucket_Now b0 h Q) : N_bucket_Bucket_Now b0 h Q :=
  Nf.of_ev Try.call40 Try.func40 (c := bodyOf Try.f40) rfl mixed C_bucket_Bucket_Now D_bucket_Bucket_Now 400 (args := [.pointer b0]) (by rw [E_bucket_Bucket_Now]; exact hb)
def C_signalboxref42_Bucket_Go : List (Nat × List Nat) := [(0, [0, 1])]
def D_signalboxref42_Bucket_Go : List (Nat × List Nat) := [(5, [0, 1, 2, 3, 4, 5, 6, 7, 8, 9])]
def T_signalboxref42_Bucket_Go_0 (b0 : Option Addr) (at1 : Int) : Env := mkEnv [(0, .pointer b0), (1, .int .u64 at1)] 61 0
def K_signalboxref42_Bucket_Go_0 (b0 : Option Addr) (at1 : Int) : M Value := Cut Try.prog 41 (todoOf Try.f41 0) (T_signalboxref42_Bucket_Go_0 b0 at1)
def B_signalboxref42_Bucket_Go (b0 : Option Addr) (at1 : Int) : M Value :=
  K_signalboxref42_Bucket_Go_0 b0 at1
def B_signalboxref42_Bucket_Go_0 (b0 : Option Addr) (at1 : Int) : M Value :=
  mNil b0 fun (a2 : Addr) =>
  mLdI .u64 (a2.add 4) fun (x7 : Int) =>
  mIf (decide (x7 < at1)) (
    mNil b0 fun (a6 : Addr) =>
    mLdI .u64 (a6.add 4) fun (x14 : Int) =>
    mNil b0 fun (a10 : Addr) =>
    mSt (a10.add 4) (.int .u64 (IntKind.u64.wrap (x14 + (1 : Int)))) <|
    mNil b0 fun (a14 : Addr) =>
    mLdI .u64 (a14.add 4) fun (x21 : Int) =>
    mNil b0 fun (a18 : Addr) =>
    mLdI .u64 (a18.add 2) fun (x25 : Int) =>
    mGuard (x25 ≠ 0) <|
    mIf ((Int.tmod x21 x25) == (0 : Int)) (
      mNil b0 fun (a23 : Addr) =>
      mLdI .u64 (a23.add 1) fun (x31 : Int) =>
      mNil b0 fun (a27 : Addr) =>
      mLdI .u64 a27 fun (x35 : Int) =>
      mNil b0 fun (a31 : Addr) =>
      mLdI .u64 (a31.add 3) fun (x39 : Int) =>
      mIf (decide (x31 > (IntKind.u64.wrap (x35 - x39)))) (
        mNil b0 fun (a35 : Addr) =>
        mLdI .u64 a35 fun (x46 : Int) =>
        mNil b0 fun (a39 : Addr) =>
        mSt (a39.add 3) (.int .u64 x46) <|
        K_signalboxref42_Bucket_Go_0 b0 at1) (
        mNil b0 fun (a43 : Addr) =>
        mLdI .u64 (a43.add 3) fun (x53 : Int) =>
        mNil b0 fun (a47 : Addr) =>
        mLdI .u64 (a47.add 1) fun (x57 : Int) =>
        mNil b0 fun (a51 : Addr) =>
        mSt (a51.add 3) (.int .u64 (IntKind.u64.wrap (x53 + x57))) <|
        K_signalboxref42_Bucket_Go_0 b0 at1)) (
      K_signalboxref42_Bucket_Go_0 b0 at1)) (
    mRet (.tuple #[]))
theorem E_signalboxref42_Bucket_Go (b0 : Option Addr) (at1 : Int) : ev Try.prog 41 Try.f41.results.toList C_signalboxref42_Bucket_Go D_signalboxref42_Bucket_Go 400 false [.code (bodyOf Try.f41)] (List.map some [.pointer b0, .int .u64 at1] ++ List.replicate (Try.f41.ntmps - List.length ([.pointer b0, .int .u64 at1] : List Value)) none) = B_signalboxref42_Bucket_Go b0 at1 := by kernel_rfl
theorem S_signalboxref42_Bucket_Go (b0 : Option Addr) (at1 : Int) {h : Hp} {Q : Value → Hp → Prop} (hb : B_signalboxref42_Bucket_Go b0 at1 h Q) : N_signalboxref42_Bucket_Go b0 at1 h Q :=
  Nf.of_ev Try.call41 Try.func41 (c := bodyOf Try.f41) rfl mixed C_signalboxref42_Bucket_Go D_signalboxref42_Bucket_Go 400 (args := [.pointer b0, .int .u64 at1]) (by rw [E_signalboxref42_Bucket_Go]; exact hb)
theorem E_signalboxref42_Bucket_Go_0 (b0 : Option Addr) (at1 : Int) : ev Try.prog 41 Try.f41.results.toList C_signalboxref42_Bucket_Go D_signalboxref42_Bucket_Go 400 true (todoOf Try.f41 0) (T_signalboxref42_Bucket_Go_0 b0 at1) = B_signalboxref42_Bucket_Go_0 b0 at1 := by kernel_rfl
theorem S_signalboxref42_Bucket_Go_0 (b0 : Option Addr) (at1 : Int) {h : Hp} {Q : Value → Hp → Prop} (hb : B_signalboxref42_Bucket_Go_0 b0 at1 h Q) : K_signalboxref42_Bucket_Go_0 b0 at1 h Q :=
  Cut.of_ev Try.func41 mixed C_signalboxref42_Bucket_Go D_signalboxref42_Bucket_Go 400 (by rw [E_signalboxref42_Bucket_Go_0]; exact hb)
def C_sat_Mul : List (Nat × List Nat) := []
def D_sat_Mul : List (Nat × List Nat) := []
def B_sat_Mul (a0 : Int) (b1 : Int) : M Value :=
  mBind (N_math_bits_Mul64 a0 b1) fun r10 =>
  un2 (unI .u64) (unI .u64) r10 fun (x10_0 : Int) (x10_1 : Int) =>
  mIf (decide (x10_0 > (0 : Int))) (
    mRet (.int .u64 (18446744073709551615 : Int))) (
    mRet (.int .u64 x10_1))
theorem E_sat_Mul (a0 : Int) (b1 : Int) : ev Try.prog 60 Try.f60.results.toList C_sat_Mul D_sat_Mul 400 false [.code (bodyOf Try.f60)] (List.map some [.int .u64 a0, .int .u64 b1] ++ List.replicate (Try.f60.ntmps - List.length ([.int .u64 a0, .int .u64 b1] : List Value)) none) = B_sat_Mul a0 b1 := by kernel_rfl
theorem S_sat_Mul (a0 : Int) (b1 : Int) {h : Hp} {Q : Value → Hp → Prop} (hb : B_sat_Mul a0 b1 h Q) : N_sat_Mul a0 b1 h Q :=
  Nf.of_ev Try.call60 Try.func60 (c := bodyOf Try.f60) rfl mixed C_sat_Mul D_sat_Mul 400 (args := [.int .u64 a0, .int .u64 b1]) (by rw [E_sat_Mul]; exact hb)
def C_math_bits_Mul64 : List (Nat × List Nat) := []
def D_math_bits_Mul64 : List (Nat × List Nat) := []
def B_math_bits_Mul64 (x0 : Int) (y1 : Int) : M Value :=
  mGuard (0 ≤ (32 : Int)) <|
  mGuard (0 ≤ (32 : Int)) <|
  mGuard (0 ≤ (32 : Int)) <|
  mGuard (0 ≤ (32 : Int)) <|
  mGuard (0 ≤ (32 : Int)) <|
  mRet (.tuple #[.int .u64 (IntKind.u64.wrap ((IntKind.u64.wrap ((IntKind.u64.wrap ((ishr .u64 x0 (32 : Int)) * (ishr .u64 y1 (32 : Int)))) + (ishr .u64 (IntKind.u64.wrap ((IntKind.u64.wrap ((ishr .u64 x0 (32 : Int)) * (iand .u64 y1 (4294967295 : Int)))) + (ishr .u64 (IntKind.u64.wrap ((iand .u64 x0 (4294967295 : Int)) * (iand .u64 y1 (4294967295 : Int)))) (32 : Int)))) (32 : Int)))) + (ishr .u64 (IntKind.u64.wrap ((iand .u64 (IntKind.u64.wrap ((IntKind.u64.wrap ((ishr .u64 x0 (32 : Int)) * (iand .u64 y1 (4294967295 : Int)))) + (ishr .u64 (IntKind.u64.wrap ((iand .u64 x0 (4294967295 : Int)) * (iand .u64 y1 (4294967295 : Int)))) (32 : Int)))) (4294967295 : Int)) + (IntKind.u64.wrap ((iand .u64 x0 (4294967295 : Int)) * (ishr .u64 y1 (32 : Int)))))) (32 : Int)))), .int .u64 (IntKind.u64.wrap (x0 * y1))])
theorem E_math_bits_Mul64 (x0 : Int) (y1 : Int) : ev Try.prog 62 Try.f62.results.toList C_math_bits_Mul64 D_math_bits_Mul64 400 false [.code (bodyOf Try.f62)] (List.map some [.int .u64 x0, .int .u64 y1] ++ List.replicate (Try.f62.ntmps - List.length ([.int .u64 x0, .int .u64 y1] : List Value)) none) = B_math_bits_Mul64 x0 y1 := by kernel_rfl
theorem S_math_bits_Mul64 (x0 : Int) (y1 : Int) {h : Hp} {Q : Value → Hp → Prop} (hb : B_math_bits_Mul64 x0 y1 h Q) : N_math_bits_Mul64 x0 y1 h Q :=
  Nf.of_ev Try.call62 Try.func62 (c := bodyOf Try.f62) rfl mixed C_math_bits_Mul64 D_math_bits_Mul64 400 (args := [.int .u64 x0, .int .u64 y1]) (by rw [E_math_bits_Mul64]; exact hb)
def C_sat_Add : List (Nat × List Nat) := []
def D_sat_Add : List (Nat × List Nat) := []
def B_sat_Add (a0 : Int) (b1 : Int) : M Value :=
  mBind (N_math_bits_Add64 a0 b1 (0 : Int)) fun r10 =>
  un2 (unI .u64) (unI .u64) r10 fun (x10_0 : Int) (x10_1 : Int) =>
  mIf (decide (x10_1 > (0 : Int))) (
    mRet (.int .u64 (18446744073709551615 : Int))) (
    mRet (.int .u64 x10_0))
theorem E_sat_Add (a0 : Int) (b1 : Int) : ev Try.prog 63 Try.f63.results.toList C_sat_Add D_sat_Add 400 false [.code (bodyOf Try.f63)] (List.map some [.int .u64 a0, .int .u64 b1] ++ List.replicate (Try.f63.ntmps - List.length ([.int .u64 a0, .int .u64 b1] : List Value)) none) = B_sat_Add a0 b1 := by kernel_rfl
theorem S_sat_Add (a0 : Int) (b1 : Int) {h : Hp} {Q : Value → Hp → Prop} (hb : B_sat_Add a0 b1 h Q) : N_sat_Add a0 b1 h Q :=
  Nf.of_ev Try.call63 Try.func63 (c := bodyOf Try.f63) rfl mixed C_sat_Add D_sat_Add 400 (args := [.int .u64 a0, .int .u64 b1]) (by rw [E_sat_Add]; exact hb)
def C_sat_Ceil : List (Nat × List Nat) := []
def D_sat_Ceil : List (Nat × List Nat) := []
def B_sat_Ceil (a0 : Int) (b1 : Int) : M Value :=
  mIf (a0 == (0 : Int)) (
    mRet (.int .u64 (0 : Int))) (
    mIf ((b1 == (0 : Int)) || (a0 == (18446744073709551615 : Int))) (
      mRet (.int .u64 (18446744073709551615 : Int))) (
      mGuard (b1 ≠ 0) <|
      mRet (.int .u64 (IntKind.u64.wrap ((IntKind.u64.wrap (Int.tdiv (IntKind.u64.wrap (a0 - (1 : Int))) b1)) + (1 : Int))))))
theorem E_sat_Ceil (a0 : Int) (b1 : Int) : ev Try.prog 69 Try.f69.results.toList C_sat_Ceil D_sat_Ceil 400 false [.code (bodyOf Try.f69)] (List.map some [.int .u64 a0, .int .u64 b1] ++ List.replicate (Try.f69.ntmps - List.length ([.int .u64 a0, .int .u64 b1] : List Value)) none) = B_sat_Ceil a0 b1 := by kernel_rfl
theorem S_sat_Ceil (a0 : Int) (b1 : Int) {h : Hp} {Q : Value → Hp → Prop} (hb : B_sat_Ceil a0 b1 h Q) : N_sat_Ceil a0 b1 h Q :=
  Nf.of_ev Try.call69 Try.func69 (c := bodyOf Try.f69) rfl mixed C_sat_Ceil D_sat_Ceil 400 (args := [.int .u64 a0, .int .u64 b1]) (by rw [E_sat_Ceil]; exact hb)
def C_bucket_Bucket_pass : List (Nat × List Nat) := []
def D_bucket_Bucket_pass : List (Nat × List Nat) := [(3, [0, 1, 2, 3, 4, 5, 6, 7, 8, 9, 10, 11, 12, 13, 14, 15, 16])]
def B_bucket_Bucket_pass (b0 : Option Addr) (at1 : Int) : M Value :=
  mNil b0 fun (a2 : Addr) =>
  mLdI .u64 (a2.add 4) fun (x9 : Int) =>
  mIf (decide (at1 ≤ x9)) (
    mRet (.tuple #[])) (
    mNil b0 fun (a6 : Addr) =>
    mLdI .u64 (a6.add 2) fun (x15 : Int) =>
    mGuard (x15 ≠ 0) <|
    mNil b0 fun (a11 : Addr) =>
    mLdI .u64 (a11.add 4) fun (x20 : Int) =>
    mNil b0 fun (a15 : Addr) =>
    mLdI .u64 (a15.add 2) fun (x24 : Int) =>
    mGuard (x24 ≠ 0) <|
    mNil b0 fun (a20 : Addr) =>
    mSt (a20.add 4) (.int .u64 at1) <|
    mNil b0 fun (a24 : Addr) =>
    mLdI .u64 (a24.add 3) fun (x35 : Int) =>
    mNil b0 fun (a28 : Addr) =>
    mLdI .u64 (a28.add 1) fun (x40 : Int) =>
    mQ (N_sat_Mul (IntKind.u64.wrap ((IntKind.u64.wrap (Int.tdiv at1 x15)) - (IntKind.u64.wrap (Int.tdiv x20 x24)))) x40) fun r41 =>
    unI .u64 r41 fun (x41 : Int) =>
    mQ (N_sat_Add x35 x41) fun r42 =>
    unI .u64 r42 fun (x42 : Int) =>
    mNil b0 fun (a34 : Addr) =>
    mLdI .u64 a34 fun (x46 : Int) =>
    mNil b0 fun (a38 : Addr) =>
    mSt (a38.add 3) (.int .u64 (if x46 < x42 then x46 else x42)) <|
    mRet (.tuple #[]))
theorem E_bucket_Bucket_pass (b0 : Option Addr) (at1 : Int) : ev Try.prog 70 Try.f70.results.toList C_bucket_Bucket_pass D_bucket_Bucket_pass 400 false [.code (bodyOf Try.f70)] (List.map some [.pointer b0, .int .u64 at1] ++ List.replicate (Try.f70.ntmps - List.length ([.pointer b0, .int .u64 at1] : List Value)) none) = B_bucket_Bucket_pass b0 at1 := by kernel_rfl
theorem S_bucket_Bucket_pass (b0 : Option Addr) (at1 : Int) {h : Hp} {Q : Value → Hp → Prop} (hb : B_bucket_Bucket_pass b0 at1 h Q) : N_bucket_Bucket_pass b0 at1 h Q :=
  Nf.of_ev Try.call70 Try.func70 (c := bodyOf Try.f70) rfl mixed C_bucket_Bucket_pass D_bucket_Bucket_pass 400 (args := [.pointer b0, .int .u64 at1]) (by rw [E_bucket_Bucket_pass]; exact hb)

end Go.Proofs.Ytbpnpmknamghkaa
