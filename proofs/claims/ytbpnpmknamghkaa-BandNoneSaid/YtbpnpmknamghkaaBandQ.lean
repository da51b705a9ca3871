/- Bands: the law BandNone. Conditions: none. -/
import Derived.Test.YtbpnpmknamghkaaBandM
import Derived.Test.YtbpnpmknamghkaaSbW
namespace Go.Proofs.Ytbpnpmknamghkaa
open Go Go.Sb
set_option linter.unusedSimpArgs false
set_option linter.unusedVariables false
abbrev NFin (h0 : Hp) : Value → Hp → Prop := fun v h' => v = .bool true ∧ Under h0.size h0 h'
abbrev bw (w0 w1 : Int) : List Value := [.int .u64 w0, .int .u64 w1]
section
variable {h0 h : Hp} {R : List As} {b : Nat} {w0 w1 : Int} {ls : Sl} {X : As}
theorem may_s (h : Hp) (s : Option Addr) (n : Int) : N_band_Set_may s n h (fun v h' => v = .bool (((!s.isNone) && (decide (n ≥ (0 : Int)))) && (decide (n ≤ (64 : Int)))) ∧ h' = h) := by
  apply S_band_Set_may
  unfold B_band_Set_may
  exact ⟨rfl, rfl⟩
theorem Has_s (hs : Sep h0 h (aBlk b (bw w0 w1) :: R)) {n : Int} (hn : 0 ≤ n ∧ n ≤ 64) : N_band_Set_Has (some ⟨b, 0, none⟩) n h (fun v h' => v = .bool (iand .u64 (ishr .u64 (if n < 64 then w0 else w1) (n % 64)) 1 == 1) ∧ h' = h) := by
  apply S_band_Set_Has
  unfold B_band_Set_Has
  rw [mBind_ap]
  refine (may_s _ _ _).mono ?_
  rintro v h' ⟨rfl, rfl⟩
  simp only [unB_bool]
  rw [decide_eq_true hn.1, decide_eq_true hn.2]
  rw [Int.tdiv_eq_ediv_of_nonneg hn.1, Int.tmod_eq_emod_of_nonneg hn.1]
  rw [wrapu64 (n % 64) (by omega)]
  by_cases hc : n < 64
  · rw [if_pos hc, wrap64 _ (by omega), show n / 64 = 0 by omega]
    (simp only [Option.isNone_some, Bool.not_false, Bool.and_true, mNil_some, mIf_true, mBind_ap])
    refine ⟨by decide, ?_⟩
    refine mIdx_of (by decide) (by decide) ?_
    show mLdI .u64 ⟨b, 0, none⟩ _ _ _
    (refine Sep.ldI hs 0 rfl rfl ?_)
    refine ⟨by decide, by omega, rfl, rfl⟩
  · rw [if_neg hc, wrap64 _ (by omega), show n / 64 = 1 by omega]
    (simp only [Option.isNone_some, Bool.not_false, Bool.and_true, mNil_some, mIf_true, mBind_ap])
    refine ⟨by decide, ?_⟩
    refine mIdx_of (by decide) (by decide) ?_
    show mLdI .u64 ⟨b, 1, none⟩ _ _ _
    (refine Sep.ldI hs 0 rfl rfl ?_)
    refine ⟨by decide, by omega, rfl, rfl⟩
theorem Has_no (hs : Sep h0 h (aBlk b (bw w0 w1) :: R)) {n : Int} (hn : ¬ (0 ≤ n ∧ n ≤ 64)) : N_band_Set_Has (some ⟨b, 0, none⟩) n h (fun v h' => v = .bool false ∧ h' = h) := by
  apply S_band_Set_Has
  unfold B_band_Set_Has
  rw [mBind_ap]
  refine (may_s _ _ _).mono ?_
  rintro v h' ⟨rfl, rfl⟩
  simp only [unB_bool]
  rw [mBind_ap]
  refine mIf_neg (by simp; omega) ?_
  exact ⟨rfl, rfl⟩
theorem Put_s (hs : Sep h0 h (aBlk b (bw w0 w1) :: R)) {n : Int} (hn : 0 ≤ n ∧ n ≤ 64) (hb : (iand .u64 (ishr .u64 (if n < 64 then w0 else w1) (n % 64)) 1 == 1) = false) : N_band_Set_Put (some ⟨b, 0, none⟩) n h (fun v h' => v = .bool true ∧ Sep h0 h' (aBlk b (bw (if n < 64 then ior .u64 w0 (ishl .u64 1 (n % 64)) else w0) (if n < 64 then w1 else ior .u64 w1 (ishl .u64 1 (n % 64)))) :: R)) := by
  apply S_band_Set_Put
  unfold B_band_Set_Put
  rw [mBind_ap]
  refine (may_s _ _ _).mono ?_
  rintro v h' ⟨rfl, rfl⟩
  simp only [unB_bool]
  rw [decide_eq_true hn.1, decide_eq_true hn.2, mBind_ap]
  refine mIf_neg rfl ?_
  rw [mBind_ap]
  refine (Has_s hs hn).mono ?_
  rintro v h' ⟨rfl, rfl⟩
  rw [hb]
  simp only [unB_bool]
  rw [show ∀ (K : Bool → M Value) Q, mRet false h' (fun a h' => K a h' Q) = K false h' Q from fun _ _ => rfl]
  refine mIf_neg rfl ?_
  rw [Int.tdiv_eq_ediv_of_nonneg hn.1, Int.tmod_eq_emod_of_nonneg hn.1]
  rw [wrapu64 (n % 64) (by omega)]
  by_cases hc : n < 64
  · rw [if_pos hc, if_pos hc, wrap64 _ (by omega), show n / 64 = 0 by omega]
    refine ⟨by decide, ?_⟩
    (simp only [mNil_some])
    refine mIdx_of (by decide) (by decide) ?_
    refine ⟨by decide, by omega, ?_⟩
    (refine Sep.ldI hs 0 rfl rfl ?_)
    refine mIdx_of (by decide) (by decide) ?_
    show mSt ⟨b, 0, none⟩ _ _ _ _
    ((refine Sep.st hs 0 rfl rfl rfl fun h hs => ?_; simp only [List.set_cons_zero, List.set_cons_succ] at hs))
    exact ⟨rfl, hs⟩
  · rw [if_neg hc, if_neg hc, wrap64 _ (by omega), show n / 64 = 1 by omega]
    refine ⟨by decide, ?_⟩
    (simp only [mNil_some])
    refine mIdx_of (by decide) (by decide) ?_
    refine ⟨by decide, by omega, ?_⟩
    (refine Sep.ldI hs 0 rfl rfl ?_)
    refine mIdx_of (by decide) (by decide) ?_
    show mSt ⟨b, 1, none⟩ _ _ _ _
    ((refine Sep.st hs 0 rfl rfl rfl fun h hs => ?_; simp only [List.set_cons_zero, List.set_cons_succ] at hs))
    exact ⟨rfl, hs⟩
theorem Put_no (hs : Sep h0 h (aBlk b (bw w0 w1) :: R)) {n : Int} (hn : ¬ (0 ≤ n ∧ n ≤ 64)) : N_band_Set_Put (some ⟨b, 0, none⟩) n h (fun v h' => v = .bool false ∧ h' = h) := by
  apply S_band_Set_Put
  unfold B_band_Set_Put
  rw [mBind_ap]
  refine (may_s _ _ _).mono ?_
  rintro v h' ⟨rfl, rfl⟩
  simp only [unB_bool]
  rw [mBind_ap]
  refine mIf_pos (by simp; omega) ?_
  (rw [mRet_ap]; simp only [mNil_some, mIf_true])
  exact ⟨rfl, rfl⟩
theorem Drop_s (hs : Sep h0 h (aBlk b (bw w0 w1) :: R)) {n : Int} (hn : 0 ≤ n ∧ n ≤ 64) (hb : (iand .u64 (ishr .u64 (if n < 64 then w0 else w1) (n % 64)) 1 == 1) = true) : N_band_Set_Drop (some ⟨b, 0, none⟩) n h (fun v h' => v = .bool true ∧ Sep h0 h' (aBlk b (bw (if n < 64 then iandn .u64 w0 (ishl .u64 1 (n % 64)) else w0) (if n < 64 then w1 else iandn .u64 w1 (ishl .u64 1 (n % 64)))) :: R)) := by
  apply S_band_Set_Drop
  unfold B_band_Set_Drop
  rw [mBind_ap]
  refine (Has_s hs hn).mono ?_
  rintro v h' ⟨rfl, rfl⟩
  rw [hb]
  simp only [unB_bool]
  refine mIf_neg rfl ?_
  rw [Int.tdiv_eq_ediv_of_nonneg hn.1, Int.tmod_eq_emod_of_nonneg hn.1]
  rw [wrapu64 (n % 64) (by omega)]
  by_cases hc : n < 64
  · rw [if_pos hc, if_pos hc, wrap64 _ (by omega), show n / 64 = 0 by omega]
    refine ⟨by decide, ?_⟩
    (simp only [mNil_some])
    refine mIdx_of (by decide) (by decide) ?_
    refine ⟨by decide, by omega, ?_⟩
    (refine Sep.ldI hs 0 rfl rfl ?_)
    refine mIdx_of (by decide) (by decide) ?_
    show mSt ⟨b, 0, none⟩ _ _ _ _
    ((refine Sep.st hs 0 rfl rfl rfl fun h hs => ?_; simp only [List.set_cons_zero, List.set_cons_succ] at hs))
    exact ⟨rfl, hs⟩
  · rw [if_neg hc, if_neg hc, wrap64 _ (by omega), show n / 64 = 1 by omega]
    refine ⟨by decide, ?_⟩
    (simp only [mNil_some])
    refine mIdx_of (by decide) (by decide) ?_
    refine ⟨by decide, by omega, ?_⟩
    (refine Sep.ldI hs 0 rfl rfl ?_)
    refine mIdx_of (by decide) (by decide) ?_
    show mSt ⟨b, 1, none⟩ _ _ _ _
    ((refine Sep.st hs 0 rfl rfl rfl fun h hs => ?_; simp only [List.set_cons_zero, List.set_cons_succ] at hs))
    exact ⟨rfl, hs⟩
theorem Drop_no (hs : Sep h0 h (aBlk b (bw w0 w1) :: R)) {n : Int} (hn : 0 ≤ n ∧ n ≤ 64) (hb : (iand .u64 (ishr .u64 (if n < 64 then w0 else w1) (n % 64)) 1 == 1) = false) : N_band_Set_Drop (some ⟨b, 0, none⟩) n h (fun v h' => v = .bool false ∧ h' = h) := by
  apply S_band_Set_Drop
  unfold B_band_Set_Drop
  rw [mBind_ap]
  refine (Has_s hs hn).mono ?_
  rintro v h' ⟨rfl, rfl⟩
  rw [hb]
  simp only [unB_bool]
  exact mIf_pos rfl ⟨rfl, rfl⟩
theorem LZ1 (h : Hp) : N_math_bits_LeadingZeros64 1 h (fun v h' => v = .int .i64 63 ∧ h' = h) := by
  apply S_math_bits_LeadingZeros64
  unfold B_math_bits_LeadingZeros64
  rw [mBind_ap]
  apply S_math_bits_Len64
  unfold B_math_bits_Len64
  refine mIf_neg rfl (mIf_neg rfl ?_)
  apply S_math_bits_Len64_7
  unfold B_math_bits_Len64_7
  refine mIf_neg rfl ⟨1, by decide, by kernel_rfl, ?_⟩
  simp only [unI_int]
  exact ⟨rfl, rfl⟩
theorem LZ40 (h : Hp) : N_math_bits_LeadingZeros64 40 h (fun v h' => v = .int .i64 58 ∧ h' = h) := by
  apply S_math_bits_LeadingZeros64
  unfold B_math_bits_LeadingZeros64
  rw [mBind_ap]
  apply S_math_bits_Len64
  unfold B_math_bits_Len64
  refine mIf_neg rfl (mIf_neg rfl ?_)
  apply S_math_bits_Len64_7
  unfold B_math_bits_Len64_7
  refine mIf_neg rfl ⟨6, by decide, by kernel_rfl, ?_⟩
  simp only [unI_int]
  exact ⟨rfl, rfl⟩
theorem LZ8 (h : Hp) : N_math_bits_LeadingZeros64 8 h (fun v h' => v = .int .i64 60 ∧ h' = h) := by
  apply S_math_bits_LeadingZeros64
  unfold B_math_bits_LeadingZeros64
  rw [mBind_ap]
  apply S_math_bits_Len64
  unfold B_math_bits_Len64
  refine mIf_neg rfl (mIf_neg rfl ?_)
  apply S_math_bits_Len64_7
  unfold B_math_bits_Len64_7
  refine mIf_neg rfl ⟨4, by decide, by kernel_rfl, ?_⟩
  simp only [unI_int]
  exact ⟨rfl, rfl⟩
theorem top1 (hs : Sep h0 h (aBlk b (bw w0 1) :: R)) : N_band_Set_Top (some ⟨b, 0, none⟩) h (fun v h' => v = .int .i64 64 ∧ h' = h) := by
  apply S_band_Set_Top
  unfold B_band_Set_Top
  refine mIf_neg rfl ?_
  apply S_band_Set_Top_4
  unfold B_band_Set_Top_4
  refine mIf_pos rfl ?_
  (simp only [mNil_some])
  refine mIdx_of (by decide) (by decide) ?_
  show mLdI .u64 ⟨b, 1, none⟩ _ _ _
  (refine Sep.ldI hs 0 rfl rfl ?_)
  refine mIf_pos rfl ?_
  rw [mBind_ap]
  refine (LZ1 h).mono ?_
  rintro v h' ⟨rfl, rfl⟩
  exact ⟨rfl, rfl⟩
theorem top0 (hs : Sep h0 h (aBlk b (bw w0 0) :: R)) {z : Int} (hz : (w0 != 0) = true) (hk : N_math_bits_LeadingZeros64 w0 h (fun v h' => v = .int .i64 z ∧ h' = h)) : N_band_Set_Top (some ⟨b, 0, none⟩) h (fun v h' => v = .int .i64 (IntKind.i64.wrap (63 - z)) ∧ h' = h) := by
  apply S_band_Set_Top
  unfold B_band_Set_Top
  refine mIf_neg rfl ?_
  apply S_band_Set_Top_4
  unfold B_band_Set_Top_4
  refine mIf_pos rfl ?_
  (simp only [mNil_some])
  refine mIdx_of (by decide) (by decide) ?_
  show mLdI .u64 ⟨b, 1, none⟩ _ _ _
  (refine Sep.ldI hs 0 rfl rfl ?_)
  refine mIf_neg rfl ?_
  apply S_band_Set_Top_4
  unfold B_band_Set_Top_4
  refine mIf_pos rfl ?_
  (simp only [mNil_some])
  refine mIdx_of (by decide) (by decide) ?_
  show mLdI .u64 ⟨b, 0, none⟩ _ _ _
  (refine Sep.ldI hs 0 rfl rfl ?_)
  refine mIf_pos hz ?_
  rw [mBind_ap]
  refine hk.mono ?_
  rintro v h' ⟨rfl, rfl⟩
  exact ⟨rfl, rfl⟩
theorem New_s (hr : RdI h0.size h0 .i64 ls [3, 64, 5, 99]) : N_band_New ls h0 (fun v h' => ∃ b, v = .pointer (some ⟨b, 0, none⟩) ∧ Sep h0 h' [aBlk b (bw 40 1)]) := by
  have hs := Sep.init h0
  have hln : (ls.n : Int) = 4 := by rw [hr.n]; rfl
  apply S_band_New
  unfold B_band_New
  rw [hln]
  ((refine Sep.new hs fun nb h hs => ?_; try simp only [List.toList_toArray] at hs))
  apply S_band_New_3
  unfold B_band_New_3
  refine mIf_pos (by rfl) ?_
  (refine Sep.argIn hs hr (by first | omega | (simp only [List.length_set, List.length_map, List.length_replicate, List.length_append, List.length_cons, List.length_nil, List.length_reverse, List.length_range]; omega) | (simp; omega)) ?_; simp only [mBind_ap])
  refine (Put_s (n := 3) hs (by decide) (by decide)).mono ?_
  rintro v h ⟨rfl, hs⟩
  rw [show (if (3 : Int) < 64 then ior .u64 0 (ishl .u64 1 (3 % 64)) else 0) = 8 by decide, show (if (3 : Int) < 64 then (0 : Int) else ior .u64 0 (ishl .u64 1 (3 % 64))) = 0 by decide] at hs
  (simp only [unB_bool])
  rw [show IntKind.i64.wrap ((0 : Int) + 1) = 1 by decide]
  apply S_band_New_3
  unfold B_band_New_3
  refine mIf_pos (by rfl) ?_
  (refine Sep.argIn hs hr (by first | omega | (simp only [List.length_set, List.length_map, List.length_replicate, List.length_append, List.length_cons, List.length_nil, List.length_reverse, List.length_range]; omega) | (simp; omega)) ?_; simp only [mBind_ap])
  refine (Put_s (n := 64) hs (by decide) (by decide)).mono ?_
  rintro v h ⟨rfl, hs⟩
  rw [show (if (64 : Int) < 64 then ior .u64 8 (ishl .u64 1 (64 % 64)) else 8) = 8 by decide, show (if (64 : Int) < 64 then (0 : Int) else ior .u64 0 (ishl .u64 1 (64 % 64))) = 1 by decide] at hs
  (simp only [unB_bool])
  rw [show IntKind.i64.wrap ((1 : Int) + 1) = 2 by decide]
  apply S_band_New_3
  unfold B_band_New_3
  refine mIf_pos (by rfl) ?_
  (refine Sep.argIn hs hr (by first | omega | (simp only [List.length_set, List.length_map, List.length_replicate, List.length_append, List.length_cons, List.length_nil, List.length_reverse, List.length_range]; omega) | (simp; omega)) ?_; simp only [mBind_ap])
  refine (Put_s (n := 5) hs (by decide) (by decide)).mono ?_
  rintro v h ⟨rfl, hs⟩
  rw [show (if (5 : Int) < 64 then ior .u64 8 (ishl .u64 1 (5 % 64)) else 8) = 40 by decide, show (if (5 : Int) < 64 then (1 : Int) else ior .u64 1 (ishl .u64 1 (5 % 64))) = 1 by decide] at hs
  (simp only [unB_bool])
  rw [show IntKind.i64.wrap ((2 : Int) + 1) = 3 by decide]
  apply S_band_New_3
  unfold B_band_New_3
  refine mIf_pos (by rfl) ?_
  (refine Sep.argIn hs hr (by first | omega | (simp only [List.length_set, List.length_map, List.length_replicate, List.length_append, List.length_cons, List.length_nil, List.length_reverse, List.length_range]; omega) | (simp; omega)) ?_; simp only [mBind_ap])
  refine (Put_no (n := 99) hs (by decide)).mono ?_
  rintro v h' ⟨rfl, rfl⟩
  (simp only [unB_bool])
  rw [show IntKind.i64.wrap ((3 : Int) + 1) = 4 by decide]
  apply S_band_New_3
  unfold B_band_New_3
  refine mIf_neg (by rfl) ?_
  exact ⟨_, rfl, hs⟩
theorem ones40 (h : Hp) : N_math_bits_OnesCount64 40 h (fun v h' => v = .int .i64 2 ∧ h' = h) := by
  apply S_math_bits_OnesCount64
  unfold B_math_bits_OnesCount64
  exact ⟨by decide, by decide, by decide, by decide, by decide, by decide, by kernel_rfl, rfl⟩
theorem ones1 (h : Hp) : N_math_bits_OnesCount64 1 h (fun v h' => v = .int .i64 1 ∧ h' = h) := by
  apply S_math_bits_OnesCount64
  unfold B_math_bits_OnesCount64
  exact ⟨by decide, by decide, by decide, by decide, by decide, by decide, by kernel_rfl, rfl⟩
theorem Len_s (hs : Sep h0 h (aBlk b (bw 40 1) :: R)) : N_band_Set_Len (some ⟨b, 0, none⟩) h (fun v h' => v = .int .i64 3 ∧ h' = h) := by
  apply S_band_Set_Len
  unfold B_band_Set_Len
  refine mIf_pos rfl ?_
  (simp only [mNil_some, add_mk, Nat.zero_add]; refine Sep.ldI hs 0 rfl rfl ?_; refine Sep.ldI hs 0 rfl rfl ?_)
  apply S_band_Set_Len_4
  unfold B_band_Set_Len_4
  refine mIf_pos rfl ?_
  refine ⟨_, by decide, rfl, ?_⟩
  simp only [unI_int]
  rw [mBind_ap]
  refine (ones40 h).mono ?_
  rintro v h' ⟨rfl, rfl⟩
  simp only [unI_int]
  rw [show IntKind.i64.wrap ((0 : Int) + 2) = 2 by decide, show IntKind.i64.wrap ((0 : Int) + 1) = 1 by decide]
  apply S_band_Set_Len_4
  unfold B_band_Set_Len_4
  refine mIf_pos rfl ?_
  refine ⟨_, by decide, rfl, ?_⟩
  simp only [unI_int]
  rw [mBind_ap]
  refine (ones1 h').mono ?_
  rintro v h' ⟨rfl, rfl⟩
  simp only [unI_int]
  rw [show IntKind.i64.wrap ((2 : Int) + 1) = 3 by decide, show IntKind.i64.wrap ((1 : Int) + 1) = 2 by decide]
  apply S_band_Set_Len_4
  unfold B_band_Set_Len_4
  exact mIf_neg rfl ⟨rfl, rfl⟩
theorem above (hs : Sep h0 h [aBlk b (bw 40 1), X]) : N_band_Set_Above (some ⟨b, 0, none⟩) 3 h (fun v h' => ∃ s : Sl, v = .slice s.p s.n s.c ∧ s.n = 2 ∧ Sep h0 h' [aRow (fun z => [.int .i64 z]) 1 s [64, 5], aBlk b (bw 40 1), X]) := by
  apply S_band_Set_Above
  unfold B_band_Set_Above
  refine mIf_neg rfl ?_
  (simp only [mNil_some, add_mk, Nat.zero_add]; refine Sep.ldI hs 0 rfl rfl ?_; refine Sep.ldI hs 0 rfl rfl ?_; (refine Sep.new hs fun nb h hs => ?_; try simp only [List.toList_toArray] at hs); (refine Sep.st hs 0 rfl rfl rfl fun h hs => ?_; simp only [List.set_cons_zero, List.set_cons_succ] at hs); (refine Sep.st hs 0 rfl rfl rfl fun h hs => ?_; simp only [List.set_cons_zero, List.set_cons_succ] at hs))
  have hs := hs.nilRow' (fun z => [.int .i64 z]) 1 ⟨none, 0, 0⟩ rfl rfl
  have hs : Sep h0 h [aBlk nb (bw 40 1), aRow (fun z => [.int .i64 z]) 1 ⟨none, 0, 0⟩ [], aBlk b (bw 40 1), X] := hs.re [1, 0, 2, 3] rfl
  apply S_band_Set_Above_5
  unfold B_band_Set_Above_5
  rw [mBind_ap]
  refine (top1 hs).mono ?_
  rintro v h' ⟨rfl, rfl⟩
  simp only [unI_int]
  refine mIf_pos rfl ?_
  rw [mBind_ap]
  refine (top1 hs).mono ?_
  rintro v h' ⟨rfl, rfl⟩
  (simp only [add_mk, Nat.zero_add, unI_int]; (refine Sep.new hs fun nb_1 h hs => ?_; try simp only [List.toList_toArray] at hs); (refine Sep.app1 hs 2 0 _ rfl rfl (fun _ => rfl) (by simp [Value.oneCell']) rfl (by omega) (by first | omega | (simp only [List.length_set, List.length_map, List.length_replicate, List.length_append, List.length_cons, List.length_nil, List.length_reverse, List.length_range]; omega) | (simp; omega)) fun sl h hn_sl hs => ?_; simp only [List.set_cons_zero, List.set_cons_succ] at hs); simp only [mBind_ap])
  have hs : Sep h0 h [aBlk nb (bw 40 1), aRow (fun z => [.int .i64 z]) 1 sl [64], aBlk b (bw 40 1), X] := hs.drop
  refine (Drop_s (n := 64) hs (by decide) (by decide)).mono ?_
  rintro v h ⟨rfl, hs⟩
  rw [show (if (64 : Int) < 64 then iandn .u64 40 (ishl .u64 1 (64 % 64)) else 40) = 40 by decide, show (if (64 : Int) < 64 then (1 : Int) else iandn .u64 1 (ishl .u64 1 (64 % 64))) = 0 by decide] at hs
  (simp only [unB_bool]; refine Sep.ldI hs 0 rfl rfl ?_; refine Sep.ldI hs 0 rfl rfl ?_; (refine Sep.new hs fun nb_2 h hs => ?_; try simp only [List.toList_toArray] at hs); (refine Sep.st hs 0 rfl rfl rfl fun h hs => ?_; simp only [List.set_cons_zero, List.set_cons_succ] at hs); (refine Sep.st hs 0 rfl rfl rfl fun h hs => ?_; simp only [List.set_cons_zero, List.set_cons_succ] at hs))
  have hs : Sep h0 h [aBlk nb_2 (bw 40 0), aBlk nb (bw 40 0), aRow (fun z => [.int .i64 z]) 1 sl [64], aBlk b (bw 40 1), X] := hs
  apply S_band_Set_Above_5
  unfold B_band_Set_Above_5
  rw [mBind_ap]
  refine (top0 hs rfl (LZ40 h)).mono ?_
  rintro v h' ⟨rfl, rfl⟩
  simp only [unI_int]
  refine mIf_pos rfl ?_
  rw [mBind_ap]
  refine (top0 hs rfl (LZ40 h')).mono ?_
  rintro v h' ⟨rfl, rfl⟩
  simp only [unI_int]
  rw [show IntKind.i64.wrap (63 - 58) = 5 by decide]
  ((refine Sep.new hs fun nb_3 h hs => ?_; try simp only [List.toList_toArray] at hs); (refine Sep.app1 hs 3 0 _ rfl rfl (fun _ => rfl) (by simp [Value.oneCell']) rfl (by omega) (by first | omega | (simp only [List.length_set, List.length_map, List.length_replicate, List.length_append, List.length_cons, List.length_nil, List.length_reverse, List.length_range]; omega) | (simp; omega)) fun sl_1 h hn_sl_1 hs => ?_; simp only [List.set_cons_zero, List.set_cons_succ] at hs); simp only [add_mk, Nat.zero_add, mBind_ap])
  have hs : Sep h0 h [aBlk nb_2 (bw 40 0), aBlk nb (bw 40 0), aRow (fun z => [.int .i64 z]) 1 sl_1 [64, 5], aBlk b (bw 40 1), X] := hs.drop
  refine (Drop_s (n := 5) hs (by decide) (by decide)).mono ?_
  rintro v h ⟨rfl, hs⟩
  rw [show (if (5 : Int) < 64 then iandn .u64 40 (ishl .u64 1 (5 % 64)) else 40) = 8 by decide, show (if (5 : Int) < 64 then (0 : Int) else iandn .u64 0 (ishl .u64 1 (5 % 64))) = 0 by decide] at hs
  (simp only [unB_bool]; refine Sep.ldI hs 0 rfl rfl ?_; refine Sep.ldI hs 0 rfl rfl ?_; (refine Sep.new hs fun nb_4 h hs => ?_; try simp only [List.toList_toArray] at hs); (refine Sep.st hs 0 rfl rfl rfl fun h hs => ?_; simp only [List.set_cons_zero, List.set_cons_succ] at hs); (refine Sep.st hs 0 rfl rfl rfl fun h hs => ?_; simp only [List.set_cons_zero, List.set_cons_succ] at hs))
  apply S_band_Set_Above_5
  unfold B_band_Set_Above_5
  rw [mBind_ap]
  refine (top0 (w0 := 8) hs rfl (LZ8 h)).mono ?_
  rintro v h' ⟨rfl, rfl⟩
  simp only [unI_int]
  refine mIf_neg rfl ?_
  have hs := hs.drop.drop.drop
  exact ⟨_, rfl, hs.rowLen 0 rfl, hs⟩
theorem Next_s (hs : Sep h0 h [aBlk b (bw 40 1), X]) : N_band_Set_Next (some ⟨b, 0, none⟩) 3 h (fun v h' => v = .int .i64 5 ∧ Sep h0 h' [aBlk b (bw 40 1), X]) := by
  apply S_band_Set_Next
  unfold B_band_Set_Next
  rw [mBind_ap]
  refine (above hs).mono ?_
  rintro v h ⟨s, rfl, hn, hs⟩
  (simp only [unL_slice]; rw [decide_eq_true (by omega), mIf_true])
  rw [show IntKind.i64.wrap ((s.n : Int) - 1) = 1 by rw [hn]; decide]
  ((refine Sep.idx hs 0 rfl (by first | omega | (simp only [List.length_set, List.length_map, List.length_replicate, List.length_append, List.length_cons, List.length_nil, List.length_reverse, List.length_range]; omega) | (simp; omega)) (by first | omega | (simp only [List.length_set, List.length_map, List.length_replicate, List.length_append, List.length_cons, List.length_nil, List.length_reverse, List.length_range]; omega) | (simp; omega)) fun aa haa => ?_; try simp only [Int.toNat_natCast] at haa); refine Sep.rldI0 hs 0 rfl (fun _ => rfl) haa (List.getElem?_eq_getElem (by first | omega | (simp only [List.length_set, List.length_map, List.length_replicate, List.length_append, List.length_cons, List.length_nil, List.length_reverse, List.length_range]; omega) | (simp; omega))) rfl ?_)
  exact ⟨rfl, hs.drop⟩
theorem bfixed_s (hs : Sep h0 h R) : N_signalboxlaw02_fixed h (fun v h' => v = .bool true ∧ Sep h0 h' R) := by
  apply S_signalboxlaw02_fixed
  unfold B_signalboxlaw02_fixed
  ((refine Sep.new hs fun nb h hs => ?_; try simp only [List.toList_toArray] at hs); simp only [mBind_ap])
  have hs := Blk.row (enc := fun z => [.int .i64 z]) (sz := 1) (xs := [3, 64, 5, 99]) hs 0 rfl rfl (n := 4) rfl
  simp only [List.set_cons_zero] at hs
  have hz : RdI h.size h .i64 ⟨some ⟨nb, 0, none⟩, 4, 4⟩ [3, 64, 5, 99] := hs.rowI 0 rfl (by intro z hz; simp at hz; rcases hz with rfl | rfl | rfl | rfl <;> decide)
  have fin : ∀ {h' : Hp} {L : List As}, Sep h h' L → Sep h0 h' R := fun {h'} {L} hs' => (hs.more hs'.under).drop
  clear hs
  refine (New_s hz).mono ?_
  rintro v h1 ⟨b, rfl, hs⟩
  (simp only [unP_pointer, mBind_ap])
  have hs : Sep h h1 [aBlk b (bw 40 1), aRow (fun z => [.int .i64 z]) 1 ⟨none, 0, 0⟩ []] := (hs.nilRow' (fun z => [.int .i64 z]) 1 ⟨none, 0, 0⟩ rfl rfl).re [1, 0] rfl
  refine (above hs).mono ?_
  rintro v h1 ⟨s, rfl, hn, hs⟩
  have hs : Sep h h1 [aBlk b (bw 40 1), aRow (fun z => [.int .i64 z]) 1 s [64, 5]] := (hs.re [2, 1, 0] rfl : Sep h h1 [aRow (fun z => [.int .i64 z]) 1 ⟨none, 0, 0⟩ [], aBlk b (bw 40 1), aRow (fun z => [.int .i64 z]) 1 s [64, 5]]).drop
  (simp only [unL_slice, mBind_ap])
  refine (top1 hs).mono ?_
  rintro v h' ⟨rfl, rfl⟩
  (simp only [unI_int, mBind_ap])
  refine mIf_pos rfl ?_
  rw [mBind_ap]
  refine (Len_s hs).mono ?_
  rintro v h' ⟨rfl, rfl⟩
  (simp only [unI_int]; rw [mRet_ap])
  refine mIf_pos rfl ?_
  rw [mBind_ap]
  refine (Next_s hs).mono ?_
  rintro v h1 ⟨rfl, hs⟩
  (simp only [unI_int]; rw [mRet_ap])
  refine mIf_pos (by rw [hn]; rfl) ?_
  have hs : Sep h h1 [aRow (fun z => [.int .i64 z]) 1 s [64, 5], aBlk b (bw 40 1)] := hs.re [1, 0] rfl
  ((refine Sep.idx hs 0 rfl (by first | omega | (simp only [List.length_set, List.length_map, List.length_replicate, List.length_append, List.length_cons, List.length_nil, List.length_reverse, List.length_range]; omega) | (simp; omega)) (by first | omega | (simp only [List.length_set, List.length_map, List.length_replicate, List.length_append, List.length_cons, List.length_nil, List.length_reverse, List.length_range]; omega) | (simp; omega)) fun aa haa => ?_; try simp only [Int.toNat_natCast] at haa); refine Sep.rldI0 hs 0 rfl (fun _ => rfl) haa (List.getElem?_eq_getElem (by first | omega | (simp only [List.length_set, List.length_map, List.length_replicate, List.length_append, List.length_cons, List.length_nil, List.length_reverse, List.length_range]; omega) | (simp; omega))) rfl ?_; rw [mRet_ap])
  refine mIf_pos rfl ?_
  rw [mBind_ap]
  have hs : Sep h h1 [aBlk b (bw 40 1), aRow (fun z => [.int .i64 z]) 1 s [64, 5]] := hs.re [1, 0] rfl
  refine (Drop_s (n := 64) hs (by decide) (by decide)).mono ?_
  rintro v h1 ⟨rfl, hs⟩
  rw [show (if (64 : Int) < 64 then iandn .u64 40 (ishl .u64 1 (64 % 64)) else 40) = 40 by decide, show (if (64 : Int) < 64 then (1 : Int) else iandn .u64 1 (ishl .u64 1 (64 % 64))) = 0 by decide] at hs
  (simp only [unB_bool]; rw [mRet_ap]; simp only [mIf_true, mBind_ap])
  refine (Drop_no (n := 64) hs (by decide) (by decide)).mono ?_
  rintro v h' ⟨rfl, rfl⟩
  (simp only [unB_bool, Bool.not_false]; rw [mRet_ap]; simp only [mIf_true, mBind_ap])
  refine (top0 hs rfl (LZ40 h')).mono ?_
  rintro v h' ⟨rfl, rfl⟩
  (simp only [unI_int]; rw [mRet_ap])
  refine mIf_pos (by decide) ?_
  rw [mBind_ap]
  refine (Put_no (n := -1) hs (by decide)).mono ?_
  rintro v h' ⟨rfl, rfl⟩
  (simp only [unB_bool, Bool.not_false]; rw [mRet_ap])
  exact ⟨rfl, fin hs⟩
theorem Put_nil (h : Hp) (n : Int) : N_band_Set_Put none n h (fun v h' => v = .bool false ∧ h' = h) := by
  apply S_band_Set_Put
  unfold B_band_Set_Put
  rw [mBind_ap]
  refine (may_s _ _ _).mono ?_
  rintro v h' ⟨rfl, rfl⟩
  simp only [unB_bool]
  rw [mBind_ap]
  refine mIf_pos rfl ?_
  (rw [mRet_ap]; simp only [mIf_true])
  exact ⟨rfl, rfl⟩
theorem Has_nil (h : Hp) (n : Int) : N_band_Set_Has none n h (fun v h' => v = .bool false ∧ h' = h) := by
  apply S_band_Set_Has
  unfold B_band_Set_Has
  rw [mBind_ap]
  refine (may_s _ _ _).mono ?_
  rintro v h' ⟨rfl, rfl⟩
  simp only [unB_bool]
  rw [mBind_ap]
  exact mIf_neg rfl ⟨rfl, rfl⟩
theorem Drop_nil (h : Hp) (n : Int) : N_band_Set_Drop none n h (fun v h' => v = .bool false ∧ h' = h) := by
  apply S_band_Set_Drop
  unfold B_band_Set_Drop
  rw [mBind_ap]
  refine (Has_nil _ _).mono ?_
  rintro v h' ⟨rfl, rfl⟩
  simp only [unB_bool]
  exact mIf_pos rfl ⟨rfl, rfl⟩
theorem Above_nil (h : Hp) (n : Int) : N_band_Set_Above none n h (fun v h' => v = .slice none 0 0 ∧ h' = h) := by
  apply S_band_Set_Above
  unfold B_band_Set_Above
  exact mIf_pos rfl ⟨rfl, rfl⟩
theorem Top_nil (h : Hp) : N_band_Set_Top none h (fun v h' => v = .int .i64 (-1) ∧ h' = h) := by
  apply S_band_Set_Top
  unfold B_band_Set_Top
  exact mIf_pos rfl ⟨rfl, rfl⟩
theorem Len_nil (h : Hp) : N_band_Set_Len none h (fun v h' => v = .int .i64 0 ∧ h' = h) := by
  apply S_band_Set_Len
  unfold B_band_Set_Len
  exact mIf_neg rfl ⟨rfl, rfl⟩
theorem Next_nil (h : Hp) (n : Int) : N_band_Set_Next none n h (fun v h' => v = .int .i64 (-1) ∧ h' = h) := by
  apply S_band_Set_Next
  unfold B_band_Set_Next
  rw [mBind_ap]
  refine (Above_nil _ _).mono ?_
  rintro v h' ⟨rfl, rfl⟩
  simp only [unL_slice]
  exact mIf_neg rfl ⟨rfl, rfl⟩
theorem BandNone_ok {n : Int} (_hn : -9223372036854775808 ≤ n ∧ n ≤ 9223372036854775807) : N_signalboxlaw02_BandNone n h0 (NFin h0) := by
  have hs := Sep.init h0
  apply S_signalboxlaw02_BandNone
  unfold B_signalboxlaw02_BandNone
  rw [mBind_ap]
  refine (bfixed_s hs).mono ?_
  rintro v h ⟨rfl, hs⟩
  simp only [unB_bool]
  refine mIf_neg (by simp) ?_
  rw [mBind_ap]
  refine (Put_nil _ _).mono ?_
  rintro v h' ⟨rfl, rfl⟩
  (simp only [unB_bool, Bool.not_false, mIf_true, mBind_ap])
  refine (Drop_nil _ _).mono ?_
  rintro v h' ⟨rfl, rfl⟩
  (simp only [unB_bool, Bool.not_false]; rw [mRet_ap]; simp only [mIf_true, mBind_ap])
  refine (Has_nil _ _).mono ?_
  rintro v h' ⟨rfl, rfl⟩
  (simp only [unB_bool, Bool.not_false]; rw [mRet_ap]; simp only [mIf_true, mBind_ap])
  refine (Top_nil _).mono ?_
  rintro v h' ⟨rfl, rfl⟩
  (simp only [unI_int]; rw [mRet_ap])
  refine mIf_pos rfl ?_
  rw [mBind_ap]
  refine (Next_nil _ _).mono ?_
  rintro v h' ⟨rfl, rfl⟩
  (simp only [unI_int]; rw [mRet_ap])
  refine mIf_pos rfl ?_
  rw [mBind_ap]
  refine (Len_nil _).mono ?_
  rintro v h' ⟨rfl, rfl⟩
  (simp only [unI_int, mBind_ap])
  refine (Above_nil _ _).mono ?_
  rintro v h' ⟨rfl, rfl⟩
  (simp only [unL_slice]; rw [mRet_ap])
  exact ⟨rfl, hs.under⟩
end
end Go.Proofs.Ytbpnpmknamghkaa
