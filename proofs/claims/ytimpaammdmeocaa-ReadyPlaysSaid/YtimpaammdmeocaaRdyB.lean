/- Bands below 64: a mask. Conditions: none. -/
import Derived.Test.YtimpaammdmeocaaRdyL
import Derived.Test.YtimpaammdmeocaaSbW
namespace Go.Proofs.Ytimpaammdmeocaa
open Go Go.Sb
set_option linter.unusedSimpArgs false
set_option linter.unusedVariables false
abbrev bnd (w : Nat) : List Value := [.int .u64 (w : Int), .int .u64 0]
theorem iand_n {a b : Nat} (ha : a < 2 ^ 64) (hb : b < 2 ^ 64) : iand .u64 (a : Int) (b : Int) = ((a &&& b : Nat) : Int) := by
  have hx : a &&& b < 2 ^ 64 := Nat.and_lt_two_pow _ hb
  have h1 : (BitVec.ofInt 64 (a : Int)).toNat = a := by rw [BitVec.ofInt_natCast, BitVec.toNat_ofNat]; exact Nat.mod_eq_of_lt ha
  have h2 : (BitVec.ofInt 64 (b : Int)).toNat = b := by rw [BitVec.ofInt_natCast, BitVec.toNat_ofNat]; exact Nat.mod_eq_of_lt hb
  show IntKind.u64.wrap ((BitVec.ofInt 64 (a : Int) &&& BitVec.ofInt 64 (b : Int)).toNat : Int) = _
  rw [BitVec.toNat_and, h1, h2, wrapu64 _ (by omega)]
theorem ior_n {a b : Nat} (ha : a < 2 ^ 64) (hb : b < 2 ^ 64) : ior .u64 (a : Int) (b : Int) = ((a ||| b : Nat) : Int) := by
  have hx : a ||| b < 2 ^ 64 := Nat.or_lt_two_pow ha hb
  have h1 : (BitVec.ofInt 64 (a : Int)).toNat = a := by rw [BitVec.ofInt_natCast, BitVec.toNat_ofNat]; exact Nat.mod_eq_of_lt ha
  have h2 : (BitVec.ofInt 64 (b : Int)).toNat = b := by rw [BitVec.ofInt_natCast, BitVec.toNat_ofNat]; exact Nat.mod_eq_of_lt hb
  show IntKind.u64.wrap ((BitVec.ofInt 64 (a : Int) ||| BitVec.ofInt 64 (b : Int)).toNat : Int) = _
  rw [BitVec.toNat_or, h1, h2, wrapu64 _ (by omega)]
/-- a mask less another -/
def offN (a b : Nat) : Nat := a &&& (2 ^ 64 - 1 - b)
theorem offN_lt {a b : Nat} : offN a b < 2 ^ 64 := by unfold offN; exact Nat.and_lt_two_pow _ (by omega)
theorem iandn_n {a b : Nat} (ha : a < 2 ^ 64) (hb : b < 2 ^ 64) : iandn .u64 (a : Int) (b : Int) = ((offN a b : Nat) : Int) := by
  have h1 : (BitVec.ofInt 64 (a : Int)).toNat = a := by rw [BitVec.ofInt_natCast, BitVec.toNat_ofNat]; exact Nat.mod_eq_of_lt ha
  have h2 : (BitVec.ofInt 64 (b : Int)).toNat = b := by rw [BitVec.ofInt_natCast, BitVec.toNat_ofNat]; exact Nat.mod_eq_of_lt hb
  show IntKind.u64.wrap ((BitVec.ofInt 64 (a : Int) &&& ~~~BitVec.ofInt 64 (b : Int)).toNat : Int) = _
  have := offN_lt (a := a) (b := b)
  rw [BitVec.toNat_and, BitVec.toNat_not, h1, h2, wrapu64 _ (by unfold offN at this; omega)]
  rfl
theorem testBit_off {a i : Nat} (hi : i < 64) (j : Nat) : (offN a (2 ^ i)).testBit j = (a.testBit j && decide (j ≠ i) && decide (j < 64)) := by
  unfold offN
  have h2 : 2 ^ i < 2 ^ 64 := Nat.pow_lt_pow_right (by omega) hi
  rw [Nat.testBit_and, show 2 ^ 64 - 1 - 2 ^ i = 2 ^ 64 - (2 ^ i + 1) by omega, Nat.testBit_two_pow_sub_succ h2, Nat.testBit_two_pow]
  by_cases h : i = j
  · subst h; simp
  · have : ¬ j = i := fun e => h e.symm
    by_cases h64 : j < 64 <;> simp [h, this, h64]
theorem ishr_n (w k : Nat) (hk : k ≤ 64) : ishr .u64 (w : Int) (k : Int) = ((w / 2 ^ k : Nat) : Int) := by
  unfold ishr
  rw [Int.toNat_natCast, show IntKind.u64.bits = 64 from rfl, Nat.min_eq_left hk, show (2 : Int) ^ k = ((2 ^ k : Nat) : Int) by simp, Int.fdiv_eq_ediv_of_nonneg _ (Int.natCast_nonneg _), Int.natCast_ediv]
theorem ishl_n {i : Nat} (hi : i < 64) : ishl .u64 1 (i : Int) = ((2 ^ i : Nat) : Int) := by
  have h2 : 2 ^ i < 2 ^ 64 := Nat.pow_lt_pow_right (by omega) hi
  unfold ishl
  rw [Int.toNat_natCast, show IntKind.u64.bits = 64 from rfl, Nat.min_eq_left (by omega), Int.one_mul, show (2 : Int) ^ i = ((2 ^ i : Nat) : Int) by simp]
  generalize 2 ^ i = q at h2 ⊢
  exact wrapu64 _ (by omega)
/-- how many bits a number has -/
def lenN (x : Nat) : Nat := if x = 0 then 0 else x.log2 + 1
theorem lenN_shift {x k : Nat} (h : 2 ^ k ≤ x) : lenN x = k + lenN (x / 2 ^ k) := by
  have hp : 0 < 2 ^ k := Nat.two_pow_pos k
  have h1 : 0 < x / 2 ^ k := Nat.div_pos h hp
  unfold lenN
  rw [if_neg (by omega), if_neg (by omega), ← Nat.add_assoc]
  congr 1
  rw [Nat.log2_eq_iff (by omega)]
  have h2 := Nat.log2_self_le (n := x / 2 ^ k) (by omega)
  have h3 := Nat.lt_log2_self (n := x / 2 ^ k)
  generalize (x / 2 ^ k).log2 = m at h2 h3
  rw [show k + m + 1 = m + 1 + k by omega, show k + m = m + k by omega, Nat.pow_add 2 m, Nat.pow_add 2 (m + 1)]
  exact ⟨(Nat.le_div_iff_mul_le hp).1 h2, (Nat.div_lt_iff_lt_mul hp).1 h3⟩
section
variable {h0 h : Hp} {R : List As} {b : Nat} {w : Nat}
theorem tab8 : (List.range 256).all (fun i => decide ((ByteArray.mk #[0, 1, 2, 2, 3, 3, 3, 3, 4, 4, 4, 4, 4, 4, 4, 4, 5, 5, 5, 5, 5, 5, 5, 5, 5, 5, 5, 5, 5, 5, 5, 5, 6, 6, 6, 6, 6, 6, 6, 6, 6, 6, 6, 6, 6, 6, 6, 6, 6, 6, 6, 6, 6, 6, 6, 6, 6, 6, 6, 6, 6, 6, 6, 6, 7, 7, 7, 7, 7, 7, 7, 7, 7, 7, 7, 7, 7, 7, 7, 7, 7, 7, 7, 7, 7, 7, 7, 7, 7, 7, 7, 7, 7, 7, 7, 7, 7, 7, 7, 7, 7, 7, 7, 7, 7, 7, 7, 7, 7, 7, 7, 7, 7, 7, 7, 7, 7, 7, 7, 7, 7, 7, 7, 7, 7, 7, 7, 7, 8, 8, 8, 8, 8, 8, 8, 8, 8, 8, 8, 8, 8, 8, 8, 8, 8, 8, 8, 8, 8, 8, 8, 8, 8, 8, 8, 8, 8, 8, 8, 8, 8, 8, 8, 8, 8, 8, 8, 8, 8, 8, 8, 8, 8, 8, 8, 8, 8, 8, 8, 8, 8, 8, 8, 8, 8, 8, 8, 8, 8, 8, 8, 8, 8, 8, 8, 8, 8, 8, 8, 8, 8, 8, 8, 8, 8, 8, 8, 8, 8, 8, 8, 8, 8, 8, 8, 8, 8, 8, 8, 8, 8, 8, 8, 8, 8, 8, 8, 8, 8, 8, 8, 8, 8, 8, 8, 8, 8, 8, 8, 8, 8, 8, 8, 8, 8, 8, 8, 8, 8, 8, 8, 8, 8, 8, 8, 8] : ByteArray)[i]? = some (UInt8.ofNat (lenN i)))) = true := by kernel_rfl
theorem mIdxS_ap {α : Type} {s : ByteArray} {i : Int} {k : Int → M α} {Q : α → Hp → Prop} {b : UInt8} (h1 : 0 ≤ i) (h2 : s[i.toNat]? = some b) (hk : k (b.toNat : Int) h Q) : mIdxS s i k h Q := ⟨b, h1, h2, hk⟩
theorem lenN_le {x k : Nat} (h : x < 2 ^ k) : lenN x ≤ k := by
  unfold lenN
  split
  · omega
  · rename_i hx
    have := (Nat.log2_lt hx).2 h
    omega
set_option maxRecDepth 100000 in
theorem lenK {x : Nat} (hx : x < 65536) (n : Nat) (hn : n ≤ 48) (h : Hp) : K_math_bits_Len64_7 (x : Int) (n : Int) h (fun v h' => v = .int .i64 ((n + lenN x : Nat) : Int) ∧ h' = h) := by
  have tb : ∀ i, i < 256 → _ := fun i hi => of_decide_eq_true (List.all_eq_true.1 tab8 i (List.mem_range.2 hi))
  have l8 : ∀ i, i < 256 → ((UInt8.ofNat (lenN i)).toNat : Int) = (lenN i : Int) ∧ lenN i ≤ 8 := fun i hi => by
    have := lenN_le (x := i) (k := 8) (by omega)
    refine ⟨?_, this⟩
    rw [UInt8.toNat_ofNat']
    omega
  apply S_math_bits_Len64_7
  unfold B_math_bits_Len64_7
  refine mIf_dec (fun hc => ?_) (fun hc => ?_)
  · refine ⟨by decide, ?_⟩
    have e1 : ishr .u64 (x : Int) 8 = ((x / 256 : Nat) : Int) := ishr_n x 8 (by omega)
    have hq : x / 256 < 256 := by omega
    have e2 := lenN_shift (x := x) (k := 8) (by omega)
    rw [show (2 : Nat) ^ 8 = 256 from rfl] at e2
    rw [e1, show IntKind.u8.wrap ((x / 256 : Nat) : Int) = ((x / 256 : Nat) : Int) by rw [IntKind.wrap_u8]; omega]
    refine mIdxS_ap (b := UInt8.ofNat (lenN (x / 256))) (by omega) ?_ ?_
    · rw [Int.toNat_natCast]
      exact tb _ hq
    · obtain ⟨e3, e4⟩ := l8 _ hq
      rw [e3, e2]
      rw [wrap64 (lenN (x / 256) : Int) (by omega), wrap64 ((n : Int) + 8) (by omega), wrap64 _ (by omega)]
      refine ⟨?_, rfl⟩
      congr 1
      omega
  · rw [show IntKind.u8.wrap (x : Int) = (x : Int) by rw [IntKind.wrap_u8]; omega]
    refine mIdxS_ap (b := UInt8.ofNat (lenN x)) (by omega) ?_ ?_
    · rw [Int.toNat_natCast]
      exact tb x (by omega)
    · obtain ⟨e3, e4⟩ := l8 x (by omega)
      rw [e3]
      rw [wrap64 (lenN x : Int) (by omega), wrap64 _ (by omega)]
      refine ⟨?_, rfl⟩
      congr 1
theorem Len64_s {x : Nat} (hx : x < 2 ^ 64) (h : Hp) : N_math_bits_Len64 (x : Int) h (fun v h' => v = .int .i64 (lenN x : Int) ∧ h' = h) := by
  apply S_math_bits_Len64
  unfold B_math_bits_Len64
  have e32 : ishr .u64 (x : Int) 32 = ((x / 4294967296 : Nat) : Int) := ishr_n x 32 (by omega)
  have e16 : ∀ y : Nat, ishr .u64 (y : Int) 16 = ((y / 65536 : Nat) : Int) := fun y => ishr_n y 16 (by omega)
  have s32 := fun hc => lenN_shift (x := x) (k := 32) hc
  have s16 := fun (y : Nat) hc => lenN_shift (x := y) (k := 16) hc
  rw [show (2 : Nat) ^ 32 = 4294967296 from rfl] at s32
  rw [show (2 : Nat) ^ 16 = 65536 from rfl] at s16
  refine mIf_dec (fun hc => ?_) (fun hc => ?_)
  · refine ⟨by decide, ?_⟩
    rw [e32, s32 (by omega)]
    refine mIf_dec (fun hd => ?_) (fun hd => ?_)
    · refine ⟨by decide, ?_⟩
      rw [e16, s16 _ (by omega), show IntKind.i64.wrap ((32 : Int) + 16) = ((48 : Nat) : Int) by decide]
      refine (lenK (by omega) 48 (by omega) h).mono ?_
      rintro v h' ⟨rfl, rfl⟩
      refine ⟨?_, rfl⟩
      congr 1
      omega
    · exact lenK (by omega) 32 (by omega) h
  · refine mIf_dec (fun hd => ?_) (fun hd => ?_)
    · refine ⟨by decide, ?_⟩
      rw [e16, s16 _ (by omega), show IntKind.i64.wrap ((0 : Int) + 16) = ((16 : Nat) : Int) by decide]
      exact lenK (by omega) 16 (by omega) h
    · refine (lenK (x := x) (by omega) 0 (by omega) h).mono ?_
      rintro v h' ⟨rfl, rfl⟩
      refine ⟨?_, rfl⟩
      congr 1
      omega
theorem bmay_s (h : Hp) (s : Option Addr) (n : Int) : N_band_Set_may s n h (fun v h' => v = .bool (((!s.isNone) && (decide (n ≥ (0 : Int)))) && (decide (n ≤ (64 : Int)))) ∧ h' = h) := by
  apply S_band_Set_may
  unfold B_band_Set_may
  exact ⟨rfl, rfl⟩
theorem bHas_s (hs : Sep h0 h (aBlk b (bnd w) :: R)) (hw : w < 2 ^ 64) {n : Nat} (hn : n < 64) : N_band_Set_Has (some ⟨b, 0, none⟩) (n : Int) h (fun v h' => v = .bool (w.testBit n) ∧ h' = h) := by
  apply S_band_Set_Has
  unfold B_band_Set_Has
  rw [mBind_ap]
  refine (bmay_s _ _ _).mono ?_
  rintro v h' ⟨rfl, rfl⟩
  simp only [unB_bool]
  rw [decide_eq_true (by omega : (n : Int) ≥ 0), decide_eq_true (by omega : (n : Int) ≤ 64)]
  rw [Int.tdiv_eq_ediv_of_nonneg (by omega), Int.tmod_eq_emod_of_nonneg (by omega), show (n : Int) / 64 = 0 by omega, show (n : Int) % 64 = (n : Int) by omega]
  rw [wrapu64 (n : Int) (by omega), wrap64 _ (by omega)]
  (simp only [Option.isNone_some, Bool.not_false, Bool.and_true, mNil_some, mIf_true, mBind_ap])
  refine ⟨by decide, ?_⟩
  refine mIdx_of (by decide) (by decide) ?_
  show mLdI .u64 ⟨b, 0, none⟩ _ _ _
  (refine Sep.ldI hs 0 rfl rfl ?_)
  refine ⟨by decide, by omega, ?_⟩
  rw [mRet_ap]
  refine ⟨?_, rfl⟩
  rw [ishr_n w n (by omega), show (1 : Int) = ((1 : Nat) : Int) from rfl, iand_n (Nat.lt_of_le_of_lt (Nat.div_le_self _ _) hw) (by decide)]
  congr 1
  rw [Nat.and_one_is_mod, ← Nat.shiftRight_eq_div_pow]
  rw [Nat.testBit, Nat.one_and_eq_mod_two]
  have := Nat.mod_two_eq_zero_or_one (w >>> n)
  rcases this with e | e <;> rw [e] <;> rfl
theorem bPut_s (hs : Sep h0 h (aBlk b (bnd w) :: R)) (hw : w < 2 ^ 64) {n : Nat} (hn : n < 64) : N_band_Set_Put (some ⟨b, 0, none⟩) (n : Int) h (fun v h' => (∃ z, v = .bool z) ∧ Sep h0 h' (aBlk b (bnd (w ||| 2 ^ n)) :: R)) := by
  apply S_band_Set_Put
  unfold B_band_Set_Put
  rw [mBind_ap]
  refine (bmay_s _ _ _).mono ?_
  rintro v h' ⟨rfl, rfl⟩
  simp only [unB_bool]
  rw [decide_eq_true (by omega : (n : Int) ≥ 0), decide_eq_true (by omega : (n : Int) ≤ 64), mBind_ap]
  refine mIf_neg rfl ?_
  rw [mBind_ap]
  refine (bHas_s hs hw hn).mono ?_
  rintro v h' ⟨rfl, rfl⟩
  simp only [unB_bool]
  rw [mRet_ap]
  refine mIf_intro (fun hb => ?_) (fun hb => ?_)
  · refine ⟨⟨_, rfl⟩, ?_⟩
    have : w ||| 2 ^ n = w := by
      refine Nat.eq_of_testBit_eq fun i => ?_
      rw [Nat.testBit_or, Nat.testBit_two_pow]
      by_cases e : n = i
      · subst e; rw [hb]; rfl
      · simp [e]
    rw [this]
    exact hs
  · rw [Int.tdiv_eq_ediv_of_nonneg (by omega), Int.tmod_eq_emod_of_nonneg (by omega), show (n : Int) / 64 = 0 by omega, show (n : Int) % 64 = (n : Int) by omega]
    rw [wrapu64 (n : Int) (by omega), wrap64 _ (by omega)]
    refine ⟨by decide, ?_⟩
    (simp only [mNil_some])
    refine mIdx_of (by decide) (by decide) ?_
    refine ⟨by decide, by omega, ?_⟩
    (refine Sep.ldI hs 0 rfl rfl ?_)
    refine mIdx_of (by decide) (by decide) ?_
    show mSt ⟨b, 0, none⟩ _ _ _ _
    ((refine Sep.st hs 0 rfl rfl rfl fun h hs => ?_; simp only [List.set_cons_zero, List.set_cons_succ] at hs))
    rw [ishl_n hn, ior_n hw (Nat.pow_lt_pow_right (by omega) hn)] at hs
    exact ⟨⟨_, rfl⟩, hs⟩
theorem bDrop_s (hs : Sep h0 h (aBlk b (bnd w) :: R)) (hw : w < 2 ^ 64) {n : Nat} (hn : n < 64) (hb : w.testBit n = true) : N_band_Set_Drop (some ⟨b, 0, none⟩) (n : Int) h (fun v h' => v = .bool true ∧ Sep h0 h' (aBlk b (bnd (offN w (2 ^ n))) :: R)) := by
  apply S_band_Set_Drop
  unfold B_band_Set_Drop
  rw [mBind_ap]
  refine (bHas_s hs hw hn).mono ?_
  rintro v h' ⟨rfl, rfl⟩
  rw [hb]
  simp only [unB_bool]
  refine mIf_neg rfl ?_
  rw [Int.tdiv_eq_ediv_of_nonneg (by omega), Int.tmod_eq_emod_of_nonneg (by omega), show (n : Int) / 64 = 0 by omega, show (n : Int) % 64 = (n : Int) by omega]
  rw [wrapu64 (n : Int) (by omega), wrap64 _ (by omega)]
  refine ⟨by decide, ?_⟩
  (simp only [mNil_some])
  refine mIdx_of (by decide) (by decide) ?_
  refine ⟨by decide, by omega, ?_⟩
  (refine Sep.ldI hs 0 rfl rfl ?_)
  refine mIdx_of (by decide) (by decide) ?_
  show mSt ⟨b, 0, none⟩ _ _ _ _
  ((refine Sep.st hs 0 rfl rfl rfl fun h hs => ?_; simp only [List.set_cons_zero, List.set_cons_succ] at hs))
  rw [ishl_n hn, iandn_n hw (Nat.pow_lt_pow_right (by omega) hn)] at hs
  exact ⟨rfl, hs⟩
/-- the greatest of a mask -/
def topN (w : Nat) : Int := if w = 0 then -1 else (w.log2 : Int)
theorem bTop_s (hs : Sep h0 h (aBlk b (bnd w) :: R)) (hw : w < 2 ^ 64) : N_band_Set_Top (some ⟨b, 0, none⟩) h (fun v h' => v = .int .i64 (topN w) ∧ h' = h) := by
  apply S_band_Set_Top
  unfold B_band_Set_Top
  refine mIf_neg rfl ?_
  apply S_band_Set_Top_4
  unfold B_band_Set_Top_4
  refine mIf_pos rfl ?_
  (simp only [mNil_some])
  refine mIdx_of (by decide) (by decide) ?_
  show mLdI .u64 ⟨b, 1, none⟩ _ _ _
  (refine Sep.ldI hs 0 rfl rfl ?_)
  refine mIf_neg rfl ?_
  rw [show IntKind.i64.wrap ((1 : Int) - 1) = 0 by decide]
  apply S_band_Set_Top_4
  unfold B_band_Set_Top_4
  refine mIf_pos rfl ?_
  (simp only [mNil_some])
  refine mIdx_of (by decide) (by decide) ?_
  show mLdI .u64 ⟨b, 0, none⟩ _ _ _
  (refine Sep.ldI hs 0 rfl rfl ?_)
  unfold topN
  by_cases hz : w = 0
  · subst hz
    refine mIf_neg rfl ?_
    rw [show IntKind.i64.wrap ((0 : Int) - 1) = -1 by decide]
    apply S_band_Set_Top_4
    unfold B_band_Set_Top_4
    exact mIf_neg rfl ⟨rfl, rfl⟩
  · refine mIf_pos (by simp; omega) ?_
    rw [mBind_ap]
    apply S_math_bits_LeadingZeros64
    unfold B_math_bits_LeadingZeros64
    rw [mBind_ap]
    refine (Len64_s hw h).mono ?_
    rintro v h' ⟨rfl, rfl⟩
    simp only [unI_int]
    have hl : lenN w = w.log2 + 1 := by unfold lenN; rw [if_neg hz]
    have hle := (Nat.log2_lt hz).2 hw
    rw [if_neg hz, hl, show IntKind.i64.wrap (IntKind.i64.wrap (IntKind.i64.wrap ((0 : Int) * 64) + 64) - 1) = 63 by decide, mRet_ap]
    simp only [unI_int]
    rw [wrap64 ((64 : Int) - _) (by omega), wrap64 _ (by omega)]
    refine ⟨?_, rfl⟩
    congr 1
    omega
theorem top_bit (hz : w ≠ 0) : w.testBit w.log2 = true := by
  have h1 := Nat.log2_self_le hz
  have h2 := Nat.lt_log2_self (n := w)
  rw [Nat.testBit, Nat.one_and_eq_mod_two, Nat.shiftRight_eq_div_pow]
  generalize w.log2 = m at h1 h2
  rw [Nat.pow_succ] at h2
  have hp : 0 < 2 ^ m := Nat.two_pow_pos m
  have : w / 2 ^ m = 1 := by
    have a1 := (Nat.le_div_iff_mul_le hp).2 (show 1 * 2 ^ m ≤ w by omega)
    have a2 := (Nat.div_lt_iff_lt_mul hp).2 (show w < 2 * 2 ^ m by omega)
    omega
  rw [this]; rfl
theorem bit_top {i : Nat} (hi : w.testBit i = true) : w ≠ 0 ∧ i ≤ w.log2 := by
  have hz : w ≠ 0 := by rintro rfl; simp at hi
  refine ⟨hz, ?_⟩
  rcases Nat.lt_or_ge w.log2 i with hc | hc
  · have h2 := Nat.lt_log2_self (n := w)
    have : w < 2 ^ i := Nat.lt_of_lt_of_le h2 (Nat.pow_le_pow_right (by omega) (by omega))
    rw [Nat.testBit_lt_two_pow this] at hi
    cases hi
  · exact hc
theorem bNew_s (hs : Sep h0 h R) : N_band_New ⟨none, 0, 0⟩ h (fun v h' => ∃ b, v = .pointer (some ⟨b, 0, none⟩) ∧ Sep h0 h' (aBlk b (bnd 0) :: R)) := by
  apply S_band_New
  unfold B_band_New
  ((refine Sep.new hs fun nb h hs => ?_; try simp only [List.toList_toArray] at hs); simp only)
  apply S_band_New_3
  unfold B_band_New_3
  exact mIf_neg rfl ⟨_, rfl, hs⟩
end
end Go.Proofs.Ytimpaammdmeocaa
