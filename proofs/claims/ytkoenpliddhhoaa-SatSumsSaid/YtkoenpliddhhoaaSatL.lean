/- Numbers that stop at the greatest: the calls, and the laws SatLeast and SatSums. Conditions: none. -/
import Derived.Test.YtkoenpliddhhoaaSatM
import Derived.Test.YtkoenpliddhhoaaSbS
import Derived.Laws.Externs
namespace Go.Proofs.Ytkoenpliddhhoaa
open Go Go.Sb

theorem add64_s {h : Hp} {a b : Int} (ha : 0 ≤ a) (hb : 0 ≤ b) : N_math_bits_Add64 a b 0 h (fun v h' => v = .tuple #[.int .u64 ((a + b + 0) % 18446744073709551616), .int .u64 ((a + b + 0) / 18446744073709551616)] ∧ h' = h) := by
  refine .inr ⟨_, fun w => ?_, rfl, rfl⟩
  rw [run_callFunc_extern Try.func74 (by kernel_rfl) (by kernel_rfl) (by kernel_rfl) (e := add64Entry) (by kernel_rfl), run_add64 a b 0 ha hb (by omega) (by omega)]
  rfl
def top64 : Int := 18446744073709551615
def satA (a b : Int) : Int := min (a + b) 18446744073709551615
def U (a : Int) : Prop := 0 ≤ a ∧ a ≤ 18446744073709551615
theorem Add_s {h : Hp} {a b : Int} (ha : U a) (hb : U b) : N_sat_Add a b h (fun v h' => v = .int .u64 (satA a b) ∧ h' = h) := by
  obtain ⟨a0, a1⟩ := ha
  obtain ⟨b0, b1⟩ := hb
  apply S_sat_Add
  unfold B_sat_Add
  rw [mBind_ap]
  refine (add64_s a0 b0).mono ?_
  rintro v h' ⟨rfl, rfl⟩
  simp only [un2_tuple, unI_int]
  unfold satA
  refine mIf_dec (fun hc => ?_) (fun hc => ?_)
  · exact ⟨by congr 1; omega, rfl⟩
  · exact ⟨by congr 1; omega, rfl⟩
theorem refAdd_s {h : Hp} {a b : Int} (ha : U a) (hb : U b) : N_signalboxref01_Add a b h (fun v h' => v = .int .u64 (satA a b) ∧ h' = h) := by
  obtain ⟨a0, a1⟩ := ha
  obtain ⟨b0, b1⟩ := hb
  apply S_signalboxref01_Add
  unfold B_signalboxref01_Add
  rw [wrapu64 _ (by omega)]
  unfold satA
  refine mIf_dec (fun hc => ?_) (fun hc => ?_)
  · exact ⟨by congr 1; omega, rfl⟩
  · rw [wrapu64 _ (by omega)]
    exact ⟨by congr 1; omega, rfl⟩
def stepV (by_ most x : Int) : Int := if x ≥ most then x else min (satA x by_) most
theorem step_s {h0 h : Hp} {R : List As} (hs : Sep h0 h R) {by_ most x : Int} (hb : U by_) (hx : U x) : N_signalboxlaw01_rise_step by_ most x h (fun v h' => v = .int .u64 (stepV by_ most x) ∧ Sep h0 h' R) := by
  apply S_signalboxlaw01_rise_step
  unfold B_signalboxlaw01_rise_step
  (refine Sep.new hs fun nb h hs => ?_; try simp only [List.toList_toArray] at hs)
  simp only [add_mk, Nat.zero_add]
  refine Sep.ldI hs 0 rfl rfl ?_
  unfold stepV
  refine mIf_dec (fun hc => ?_) (fun hc => ?_)
  · rw [if_pos hc]; exact ⟨rfl, hs.drop⟩
  · rw [if_neg hc]
    refine Sep.ldI hs 0 rfl rfl ?_
    refine mQ_intro _ (refAdd_s hx hb) ?_
    simp only [unI_int]
    refine Sep.ldI hs 0 rfl rfl ?_
    exact ⟨by congr 1; omega, hs.drop⟩
def leastV (most bound : Int) : Value := if most > bound then .tuple #[.int .u64 18446744073709551615, .bool false] else .tuple #[.int .u64 most, .bool true]
theorem least3 {h0 : Hp} {R : List As} {by_ most bound : Int} (hb : U by_) (h1 : 1 ≤ by_) (hm : U most) : ∀ (d : Nat) (x t : Int) (h : Hp), Sep h0 h R → 0 ≤ x ∧ x ≤ most → most - x ≤ d * by_ → 0 ≤ t ∧ t + d < 1048576 →
    K_sat_Least_3 35 #[.agg #[.int .u64 by_, .int .u64 most]] #[] bound x t h (fun v h' => v = leastV most bound ∧ Sep h0 h' R)
  | d, x, t, h, hs, hx, hd, ht => by
    apply S_sat_Least_3
    unfold B_sat_Least_3
    rw [decide_eq_true (by omega), mIf_true]
    unfold leastV
    have hm' := hm
    obtain ⟨m0, m1⟩ := hm
    refine mIf_dec (fun hc => ?_) (fun hc => ?_)
    · rw [if_pos (by omega)]; exact ⟨rfl, hs⟩
    · rw [mBind_ap]
      refine Nf.mono (step_s hs hb ⟨hx.1, by omega⟩ (most := most)) ?_
      rintro v h' ⟨rfl, hs⟩
      simp only [unI_int]
      by_cases he : x = most
      · have : stepV by_ most x = x := by unfold stepV; rw [if_pos (by omega)]
        rw [this, decide_eq_true (by omega), mIf_true, if_neg (by omega), he]
        exact ⟨rfl, hs⟩
      · match d, hd, ht with
        | 0, hd, ht => simp at hd; omega
        | d + 1, hd, ht =>
          have e : ((d + 1 : Nat) : Int) * by_ = d * by_ + by_ := by rw [Int.natCast_add, Int.add_mul]; simp
          rw [e] at hd
          have hn : stepV by_ most x = min (satA x by_) most := by unfold stepV; rw [if_neg (by omega)]
          have hs1 : satA x by_ = min (x + by_) 18446744073709551615 := rfl
          obtain ⟨b0, b1⟩ := hb
          have hd0 : (0 : Int) ≤ d * by_ := Int.mul_nonneg (by omega) b0
          rw [hn, decide_eq_false (by omega), mIf_false, wrap64 _ (by omega)]
          exact least3 ⟨b0, b1⟩ h1 hm' d _ _ h' hs (by omega) (by omega) (by omega)
theorem Least_s {h0 h : Hp} {R : List As} (hs : Sep h0 h R) {by_ most bound from_ : Int} (hb : U by_) (h1 : 1 ≤ by_) (hm : U most) (d : Nat) (hx : 0 ≤ from_ ∧ from_ ≤ most) (hd : most - from_ ≤ d * by_) (hdd : d < 1048576) :
    N_sat_Least 35 #[.agg #[.int .u64 by_, .int .u64 most]] #[] from_ bound h (fun v h' => v = leastV most bound ∧ Sep h0 h' R) := by
  apply S_sat_Least
  unfold B_sat_Least
  exact least3 hb h1 hm d from_ 0 h hs hx hd (by omega)
theorem safixed_s {h0 h : Hp} {R : List As} (hs : Sep h0 h R) : N_signalboxlaw01_fixed h (fun v h' => v = .bool true ∧ Sep h0 h' R) := by
  apply S_signalboxlaw01_fixed
  unfold B_signalboxlaw01_fixed
  rw [mBind_ap]
  refine (Least_s hs (by_ := 3) (most := 10) (bound := 20) (from_ := 1) ⟨by omega, by omega⟩ (by omega) ⟨by omega, by omega⟩ 3 (by omega) (by omega) (by omega)).mono ?_
  rintro v h ⟨rfl, hs⟩
  have e1 : leastV 10 20 = .tuple #[.int .u64 10, .bool true] := rfl
  rw [e1]
  simp only [un2_tuple, unI_int, unB_bool, mBind_ap]
  refine (Least_s hs (by_ := 3) (most := 30) (bound := 20) (from_ := 1) ⟨by omega, by omega⟩ (by omega) ⟨by omega, by omega⟩ 10 (by omega) (by omega) (by omega)).mono ?_
  rintro v h ⟨rfl, hs⟩
  have e2 : leastV 30 20 = .tuple #[.int .u64 18446744073709551615, .bool false] := rfl
  rw [e2]
  simp only [un2_tuple, unI_int, unB_bool, mBind_ap]
  have c : N_sat_Ceil 7 2 h (fun v h' => v = .int .u64 4 ∧ h' = h) := by
    apply S_sat_Ceil
    unfold B_sat_Ceil
    refine mIf_neg (by decide) (mIf_neg (by decide) ⟨by decide, ?_⟩)
    exact ⟨congrArg (Value.int .u64) (by decide), rfl⟩
  refine c.mono ?_
  rintro v h' ⟨rfl, rfl⟩
  simp only [unI_int, beq_self_eq_true, mIf_true, mBind_ap]
  refine (Add_s (h := h') (a := 9223372036854775808) (b := 9223372036854775808) ⟨by omega, by omega⟩ ⟨by omega, by omega⟩).mono ?_
  rintro v h' ⟨rfl, rfl⟩
  simp only [unI_int, mRet_ap]
  refine mIf_pos (by decide) ?_
  rw [mBind_ap]
  have m : N_sat_Mul 1099511627776 1099511627776 h' (fun v h'' => v = .int .u64 18446744073709551615 ∧ h'' = h') := by
    apply S_sat_Mul
    unfold B_sat_Mul
    rw [mBind_ap]
    apply S_math_bits_Mul64
    unfold B_math_bits_Mul64
    refine ⟨by decide, by decide, by decide, by decide, by decide, ?_⟩
    rw [mRet_ap]
    simp only [un2_tuple, unI_int]
    exact mIf_pos (by decide +kernel) ⟨rfl, rfl⟩
  refine m.mono ?_
  rintro v h' ⟨rfl, rfl⟩
  simp only [unI_int, mRet_ap, beq_self_eq_true, mIf_true, mBind_ap]
  have sb : N_sat_Sub 3 5 h' (fun v h'' => v = .int .u64 0 ∧ h'' = h') := by
    apply S_sat_Sub
    unfold B_sat_Sub
    exact mIf_pos (by decide) ⟨rfl, rfl⟩
  refine sb.mono ?_
  rintro v h' ⟨rfl, rfl⟩
  simp only [unI_int, mRet_ap, beq_self_eq_true, mIf_true, mBind_ap]
  have of : N_sat_Of (-4) h' (fun v h'' => v = .int .u64 0 ∧ h'' = h') := by
    apply S_sat_Of
    unfold B_sat_Of
    exact ⟨congrArg (Value.int .u64) (by decide), rfl⟩
  refine of.mono ?_
  rintro v h' ⟨rfl, rfl⟩
  exact ⟨rfl, hs⟩
theorem satA_U {a b : Int} (ha : U a) (hb : U b) : U (satA a b) := by unfold U satA at *; omega
theorem SatLeast_ok {h : Hp} {from_ by_ most bound : Int} (hf : 0 ≤ from_ ∧ from_ ≤ 18446744073709551615) (hb : 0 ≤ by_ ∧ by_ ≤ 18446744073709551615) (hm : 0 ≤ most ∧ most ≤ 18446744073709551615) (_ : 0 ≤ bound ∧ bound ≤ 18446744073709551615) :
    N_signalboxlaw01_SatLeast from_ by_ most bound h (fun v h' => v = .bool true ∧ Under h.size h h') := by
  apply S_signalboxlaw01_SatLeast
  unfold B_signalboxlaw01_SatLeast
  rw [mBind_ap]
  refine (safixed_s (Sep.init h)).mono ?_
  rintro v h1 ⟨rfl, hs⟩
  simp only [unB_bool, Bool.not_true, mIf_false]
  have k5 : ∀ (f y : Int), U y → 1 ≤ y → 0 ≤ f ∧ f ≤ most → K_signalboxlaw01_SatLeast_5 f y most bound h1 (fun v h' => v = .bool true ∧ Under h.size h h') := by
    intro f y hy y1 hff
    apply S_signalboxlaw01_SatLeast_5
    unfold B_signalboxlaw01_SatLeast_5
    refine ⟨by omega, ?_⟩
    have hq0 : 0 ≤ (most - f) / y := Int.ediv_nonneg (by omega) (by omega)
    have hq1 : (most - f) / y ≤ most - f := Int.ediv_le_self _ (by omega)
    rw [wrapu64 (most - f) (by omega), Int.tdiv_eq_ediv_of_nonneg (by omega), wrapu64 _ (by omega)]
    refine mIf_dec (fun hc => ⟨rfl, hs.under⟩) (fun hc => ?_)
    rw [mBind_ap]
    have hmul : most - f ≤ (((most - f) / y).toNat + 1 : Nat) * y := by
      have e := Int.mul_ediv_add_emod (most - f) y
      have r := Int.emod_lt_of_pos (most - f) (by omega : 0 < y)
      have e2 : ((((most - f) / y).toNat + 1 : Nat) : Int) = (most - f) / y + 1 := by omega
      rw [e2, Int.add_mul, Int.one_mul, Int.mul_comm]
      omega
    refine (Least_s hs hy y1 hm _ hff hmul (by omega)).mono ?_
    rintro v h2 ⟨rfl, hs⟩
    unfold leastV
    by_cases hmb : most > bound
    · rw [if_pos hmb]
      simp only [un2_tuple, unI_int, unB_bool]
      refine mIf_pos (by simpa using hmb) ⟨rfl, hs.under⟩
    · rw [if_neg hmb]
      simp only [un2_tuple, unI_int, unB_bool]
      refine mIf_neg (by simpa using hmb) ?_
      rw [mRet_ap]
      exact ⟨by simp, hs.under⟩
  refine mIf_intro (fun hc => ?_) (fun hc => ?_)
  · exact k5 0 _ (by unfold U; split <;> omega) (by split <;> omega) (by omega)
  · simp only [Bool.or_eq_false_iff, beq_eq_false_iff_ne, decide_eq_false_iff_not] at hc
    exact k5 from_ by_ hb (by omega) (by omega)
def sumA (zs : List Int) : Int := zs.foldl satA 0
theorem SatSums_ok {h : Hp} {ls : Sl} {zs : List Int} (hl : RdI h.size h .u64 ls zs) : N_signalboxlaw01_SatSums ls h (fun v h' => v = .bool true ∧ Under h.size h h') := by
  apply S_signalboxlaw01_SatSums
  unfold B_signalboxlaw01_SatSums
  rw [mBind_ap]
  refine (safixed_s (Sep.init h)).mono ?_
  rintro v h1 ⟨rfl, hs⟩
  simp only [unB_bool, Bool.not_true, mIf_false]
  have hln := hl.n
  refine mIf_dec (fun hc => ⟨rfl, hs.under⟩) (fun hc => ?_)
  have hz : ∀ z ∈ zs, U z := fun z hz => by
    have := hl.wf z hz
    rwa [show IntKind.u64.min = 0 by decide, show IntKind.u64.max = 18446744073709551615 by decide] at this
  have step : ∀ i (hi : i < zs.length), sumA (zs.take (i + 1)) = satA (sumA (zs.take i)) zs[i] := by
    intro i hi
    unfold sumA
    rw [List.take_succ_eq_append_getElem hi, List.foldl_append]; rfl
  have hU : ∀ i, i ≤ zs.length → U (sumA (zs.take i)) := by
    intro i
    induction i with
    | zero => intro _; simp [sumA, U]
    | succ i ih =>
      intro hi
      rw [step i (by omega)]
      exact satA_U (ih (by omega)) (hz _ (List.getElem_mem _))
  have sum : N_sat_Sum ls h1 (fun v h' => v = .int .u64 (sumA zs) ∧ h' = h1) := by
    apply S_sat_Sum
    unfold B_sat_Sum
    have loop : ∀ (d i : Nat), i + d = zs.length → K_sat_Sum_3 (sumA (zs.take i)) ls (ls.n : Int) (i : Int) h1 (fun v h' => v = .int .u64 (sumA zs) ∧ h' = h1) := by
      intro d
      induction d with
      | zero =>
        intro i hid
        apply S_sat_Sum_3
        unfold B_sat_Sum_3
        rw [decide_eq_false (by omega), mIf_false, List.take_of_length_le (by omega)]
        exact ⟨rfl, rfl⟩
      | succ d ih =>
        intro i hid
        apply S_sat_Sum_3
        unfold B_sat_Sum_3
        rw [decide_eq_true (by omega), mIf_true]
        have hi : i < zs.length := by omega
        refine hs.argI hl (by omega) (by omega) ?_
        rw [show zs[(i : Int).toNat]'(by omega) = zs[i] from rfl, mBind_ap]
        refine (Add_s (hU i (by omega)) (hz _ (List.getElem_mem hi))).mono ?_
        rintro v h' ⟨rfl, rfl⟩
        simp only [unI_int]
        rw [wrap64 _ (by omega), show (i : Int) + 1 = ((i + 1 : Nat) : Int) by omega, ← step i hi]
        exact ih (i + 1) (by omega)
    exact loop zs.length 0 (by omega)
  have loop : ∀ (d i : Nat), i + d = zs.length → K_signalboxlaw01_SatSums_7 ls (sumA (zs.take i)) ls (ls.n : Int) (i : Int) h1 (fun v h' => v = .bool true ∧ Under h.size h h') := by
    intro d
    induction d with
    | zero =>
      intro i hid
      apply S_signalboxlaw01_SatSums_7
      unfold B_signalboxlaw01_SatSums_7
      rw [decide_eq_false (by omega), mIf_false, List.take_of_length_le (by omega), mBind_ap]
      refine sum.mono ?_
      rintro v h' ⟨rfl, rfl⟩
      simp only [unI_int, mRet_ap, beq_self_eq_true]
      exact ⟨trivial, hs.under⟩
    | succ d ih =>
      intro i hid
      apply S_signalboxlaw01_SatSums_7
      unfold B_signalboxlaw01_SatSums_7
      rw [decide_eq_true (by omega), mIf_true]
      have hi : i < zs.length := by omega
      refine hs.argI hl (by omega) (by omega) ?_
      rw [show zs[(i : Int).toNat]'(by omega) = zs[i] from rfl, mBind_ap]
      refine (refAdd_s (hU i (by omega)) (hz _ (List.getElem_mem hi))).mono ?_
      rintro v h' ⟨rfl, rfl⟩
      simp only [unI_int]
      rw [wrap64 _ (by omega), show (i : Int) + 1 = ((i + 1 : Nat) : Int) by omega, ← step i hi]
      exact ih (i + 1) (by omega)
  exact loop zs.length 0 (by omega)
end Go.Proofs.Ytkoenpliddhhoaa
