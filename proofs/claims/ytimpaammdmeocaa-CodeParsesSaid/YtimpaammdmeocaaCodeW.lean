/- Configurations as bytes: the law CodeNumbers. Conditions: none. -/
import Derived.Test.YtimpaammdmeocaaCodeV
import Derived.Test.YtimpaammdmeocaaSbW
namespace Go.Proofs.Ytimpaammdmeocaa
open Go Go.Sb
set_option linter.unusedSimpArgs false
set_option linter.unusedVariables false
set_option linter.unusedVariables false
section
variable {h0 h : Hp} {R L : List As}
abbrev CFin (h0 : Hp) : Value → Hp → Prop := fun v h' => v = .bool true ∧ Under h0.size h0 h'
theorem cn8 {b : Sl} {xs : List Int} (hr : RdI h0.size h0 .u8 b xs) (hc : b.n ≤ b.c) (hl : xs.length ≤ 1000000) (hs : Sep h0 h R) : K_signalboxlaw46_CodeNumbers_8 b h (CFin h0) := by
  apply S_signalboxlaw46_CodeNumbers_8
  unfold B_signalboxlaw46_CodeNumbers_8
  rw [mBind_ap]
  refine (Read_s (hr.under hs.under) hc).mono ?_
  rintro v h ⟨n1, k1, ok1, rfl, hok1, rfl⟩
  simp only [un3_tuple, unI_int, unB_bool]
  rw [mBind_ap]
  refine (rRead_s hr hc hl hs).mono ?_
  rintro v h ⟨n2, k2, ok2, rfl, hok2, hs⟩
  simp only [un3_tuple, unI_int, unB_bool]
  have hu := hs.under
  cases hq : readO xs with
  | none =>
    rw [hq] at hok1 hok2
    have hok1 : ok1 = false := hok1
    have hok2 : ok2 = false := hok2
    subst hok1 hok2
    exact ⟨rfl, hu⟩
  | some p =>
    obtain ⟨m, j⟩ := p
    rw [hq] at hok1 hok2
    obtain ⟨rfl, rfl, rfl⟩ := hok1
    obtain ⟨rfl, rfl, rfl⟩ := hok2
    refine ⟨?_, hu⟩
    simp
theorem CodeNumbers_ok {b : Sl} {n : Int} {xs : List Int} (hr : RdI h0.size h0 .u8 b xs) (hc : b.n ≤ b.c) (hnb : -9223372036854775808 ≤ n ∧ n ≤ 9223372036854775807) : N_signalboxlaw46_CodeNumbers b n h0 (CFin h0) := by
  have hn := hr.n
  apply S_signalboxlaw46_CodeNumbers
  unfold B_signalboxlaw46_CodeNumbers
  rw [mBind_ap]
  refine fixed46_s.mono ?_
  rintro v h ⟨rfl, hu⟩
  simp only [unB_bool]
  refine mIf_neg rfl ?_
  refine mIf_intro (fun hc3 => ⟨rfl, hu⟩) (fun hc3 => ?_)
  have hl : xs.length ≤ 300 := by simp at hc3; omega
  have hs : Sep h0 h [] := (Sep.init h0).more hu
  have hWB := wrN_B n (rdI_B hr)
  have hwl := wrN_len xs n
  refine Sep.new hs fun q h hs => ?_
  have hs := Blk.row (enc := encB) (xs := []) (sz := 1) (n := 0) hs 0 rfl rfl rfl
  simp only [List.set_cons_zero] at hs
  refine hs.appI 0 rfl (hr.under hs.under) rfl (by omega) (by simp; omega) fun s' h hn' hs => ?_
  simp only [List.set_cons_zero, List.nil_append] at hs
  rw [mBind_ap]
  refine (Number_s n (by omega) hs).mono ?_
  rintro v h ⟨o, rfl, hs⟩
  simp only [unL_slice]
  have hse := str_eq hWB hWB
  rw [decide_eq_true rfl] at hse
  have last : ∀ h, Sep h0 h [aRow encB 1 o (wrN xs n)] → (mBind (N_code_Sum b) fun r31 =>
          unI .u8 r31 fun (x31 : Int) =>
          mBind (N_signalboxref46_Sum b) fun r33 =>
          unI .u8 r33 fun (x33 : Int) =>
          mIf (match false with | true => true | false => (x31 != x33)) (
            K_signalboxlaw46_CodeNumbers_7) (
            K_signalboxlaw46_CodeNumbers_8 b)) h (CFin h0) := by
    intro h hs
    rw [mBind_ap]
    refine (Sum_s (hr.under hs.under) (by omega)).mono ?_
    rintro v h ⟨rfl, rfl⟩
    simp only [unI_int]
    rw [mBind_ap]
    refine (rSum_s (hr.under hs.under) (by omega)).mono ?_
    rintro v h ⟨rfl, rfl⟩
    simp only [unI_int]
    refine mIf_neg (by simp) ?_
    exact cn8 hr hc (by omega) hs
  have num : ∀ h, Sep h0 h [aRow encB 1 o (wrN xs n)] → N_signalboxref46_Number b n h (fun v h' => ∃ o' : Sl, v = .slice o'.p o'.n o'.c ∧ RdI h'.size h' .u8 o' (wrN xs n) ∧ Sep h0 h' [aRow encB 1 o (wrN xs n)]) := fun h hs => rNumberI n (by omega) hr hs
  have own : ∀ h, Sep h0 h [aRow encB 1 o (wrN xs n)] → RdI h.size h .u8 o (wrN xs n) := fun h hs => (rowB hs (k := 0) rfl hWB).1
  refine mAnd_intro ?_ ?_
  · refine (own _ hs).str ?_
    rw [mBind_ap]
    refine (num _ hs).mono ?_
    rintro v h ⟨o', rfl, hro, hs⟩
    simp only [unL_slice]
    refine hro.str ?_
    rw [hse]
    exact mIf_neg rfl (last h hs)
  · rw [mBind_ap]
    refine (num _ hs).mono ?_
    rintro v h ⟨o', rfl, hro, hs⟩
    simp only [unL_slice]
    refine mAnd_intro ?_ ?_
    · refine (own _ hs).str ?_
      refine hro.str ?_
      rw [hse]
      exact mIf_neg rfl (last h hs)
    · refine hro.str ?_
      refine (own _ hs).str ?_
      rw [hse]
      exact mIf_neg rfl (last h hs)
end
end Go.Proofs.Ytimpaammdmeocaa
