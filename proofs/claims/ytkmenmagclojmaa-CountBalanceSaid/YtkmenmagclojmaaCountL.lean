/- Counts: the laws of the layer. Conditions: none. -/
import Derived.Test.YtkmenmagclojmaaCountP
namespace Go.Proofs.Ytkmenmagclojmaa
open Go Go.Sb

theorem i64_rng {z : Int} (h : -9223372036854775808 ≤ z ∧ z ≤ 9223372036854775807) : IntKind.i64.min ≤ z ∧ z ≤ IntKind.i64.max := by
  have h1 : IntKind.i64.min = -9223372036854775808 := by decide
  have h2 : IntKind.i64.max = 9223372036854775807 := by decide
  rw [h1, h2]; exact h

/-- the heap behind 'New' of one literal row -/
theorem New_one {h : Hp} {Q : Value → Hp → Prop} {z : Int} (hz : -9223372036854775808 ≤ z ∧ z ≤ 9223372036854775807)
    (hk : ∀ b q h', CRep h' b q (mk0 [z]) → h.size ≤ b → h.size ≤ q → Under h.size h h' → Q (.pointer (some ⟨b, 0, none⟩)) h') :
    N_count_New (Sl.mk (some ⟨h.size, 0, none⟩) 1 1) (h.push (.cells #[.int .i64 z] 3)) Q := by
  have hb : Blk (h.push (.cells #[.int .i64 z] 3)) h.size ([z].map (.int .i64) ++ []) := Blk.new' h _ 3
  have hrd : RdI (h.push (.cells #[.int .i64 z] 3)).size (h.push (.cells #[.int .i64 z] 3)) .i64 ⟨some ⟨h.size, 0, none⟩, 1, 1⟩ [z] :=
    RdI.blk hb (by simp) (by intro y hy; simp only [List.mem_singleton] at hy; subst hy; exact i64_rng hz)
  refine (New_ok (by simp) hrd).mono ?_
  rintro v h' ⟨b, q, rfl, h1, h2, h3, h4⟩
  simp only [Array.size_push] at h2 h3
  refine hk b q h' h1 (by omega) (by omega) ?_
  exact (Under.push h _ (Nat.le_refl _)).trans ⟨h4.size, fun i hi => h4.at_ i (by simp; omega)⟩

theorem fixed_ok (h : Hp) : N_signalboxlaw12_fixed h (fun v h' => v = .bool true ∧ Under h.size h h') := by
  apply S_signalboxlaw12_fixed
  unfold B_signalboxlaw12_fixed
  simp only [mNew_ap, mBind_ap]
  refine New_one (by omega) fun b q h1 hc hb hq hu => ?_
  simp only [unP_pointer, mBind_ap]
  have m0 : mk0 [1] = [(0, 1)] := by decide
  have a1 : addA [(0, 1)] 0 1 7 = (1, 0) := by decide
  have l1 : addL [(0, 1)] 0 1 = [(1, 1)] := by decide
  have a2 : addA [(1, 1)] 0 1 7 = (1, 7) := by decide
  have l2 : addL [(1, 1)] 0 1 = [(1, 1)] := by decide
  have a3 : addA [(1, 1)] 0 (-1) 8 = (0, 0) := by decide
  have l3 : addL [(1, 1)] 0 (-1) = [(0, 1)] := by decide
  have a4 : addA [(0, 1)] 0 (-1) 8 = (0, 8) := by decide
  have l4 : addL [(0, 1)] 0 (-1) = [(0, 1)] := by decide
  have a5 : addA [(0, 1)] 1 0 0 = (0, 6) := by decide
  have w0 : CWf [(0, 1)] := by intro x hx; simp only [List.mem_singleton] at hx; subst hx; decide
  have w1 : CWf [(1, 1)] := by intro x hx; simp only [List.mem_singleton] at hx; subst hx; decide
  rw [m0] at hc
  refine (Give_ok hc w0 0).mono ?_
  rintro v h2 ⟨rfl, hc2, k2⟩
  rw [l1] at hc2; rw [a1]
  simp only [pairV, unT_tuple, unC_cons, unI_int, unE_nil, mBind_ap]
  refine (Give_ok hc2 w1 0).mono ?_
  rintro v h3 ⟨rfl, hc3, k3⟩
  rw [l2] at hc3; rw [a2]
  simp only [pairV, unT_tuple, unC_cons, unI_int, unE_nil, mBind_ap]
  refine (Take_ok hc3 w1 0).mono ?_
  rintro v h4 ⟨rfl, hc4, k4⟩
  rw [l3] at hc4; rw [a3]
  simp only [pairV, unT_tuple, unC_cons, unI_int, unE_nil, mBind_ap]
  refine (Take_ok hc4 w0 0).mono ?_
  rintro v h5 ⟨rfl, hc5, k5⟩
  rw [l4] at hc5; rw [a4]
  simp only [pairV, unT_tuple, unC_cons, unI_int, unE_nil, mBind_ap]
  refine (Value_ok hc5 w0 1).mono ?_
  rintro v h6 ⟨rfl, hc6, k6⟩
  rw [a5]
  simp only [pairV, unT_tuple, unC_cons, unI_int, unE_nil, mBind_ap]
  have c1 : (((((((((1 : Int) == 1) && ((0 : Int) == 0)) && ((1 : Int) == 1)) && ((7 : Int) == 7)) && ((0 : Int) == 0)) && ((0 : Int) == 0)) && ((8 : Int) == 8)) && ((6 : Int) == 6)) = true := by decide
  rw [c1]
  simp only [mIf_true, mBind_ap]
  refine (Len_ok hc6).mono ?_
  rintro v h7 ⟨rfl, rfl⟩
  simp only [unI_int, mRet_ap]
  refine ⟨rfl, hu.trans (Under.of_keeps (((k2.trans k3).trans k4).trans (k5.trans k6)) hu.size fun i hi => by omega)⟩

/-! ### CountBalance -/
theorem addA_one (n m by_ ref : Int) : addA [(n, m)] 0 by_ ref = if n + by_ < 0 ∨ n + by_ > m then (n, ref) else (n + by_, 0) := by
  unfold addA; simp
theorem addL_one (n m by_ : Int) : addL [(n, m)] 0 by_ = [(if n + by_ < 0 ∨ n + by_ > m then n else n + by_, m)] := by
  unfold addL; simp; split <;> simp

theorem Bal_loop {B : Nat} {ts : Sl} {bs : List Bool} (m : Int) (hm : 1 ≤ m ∧ m ≤ 8) (b q : Nat) (hq : B ≤ q) (hlen : bs.length ≤ 200) : ∀ (d i : Nat) (n : Int) (h : Hp), bs.length - i = d → i ≤ bs.length → B ≤ h.size → RdB B h ts bs → CRep h b q [(n, m)] → 0 ≤ n ∧ n ≤ m →
    K_signalboxlaw12_CountBalance_9 m (some ⟨b, 0, none⟩) n ts (ts.n : Int) (i : Int) h (fun v h' => v = .bool true ∧ Under B h h') := by
  intro d
  induction d with
  | zero =>
    intro i n h hd hi hB hrd hc hn
    apply S_signalboxlaw12_CountBalance_9
    unfold B_signalboxlaw12_CountBalance_9
    have : ¬ (i : Int) < (ts.n : Int) := by rw [hrd.n]; omega
    simp only [this, decide_false, mIf_false, mRet_ap, true_and]
    exact .refl _ _
  | succ d ih =>
    intro i n h hd hi hB hrd hc hn
    apply S_signalboxlaw12_CountBalance_9
    unfold B_signalboxlaw12_CountBalance_9
    have hlt : (i : Int) < (ts.n : Int) := by rw [hrd.n]; omega
    simp only [hlt, decide_true, mIf_true]
    refine hrd.idx (by omega) (by omega) fun a ha => ?_
    refine mLdB_of ha ?_
    have wf : ∀ n : Int, 0 ≤ n ∧ n ≤ m → CWf [(n, m)] := by
      intro n hn x hx; simp only [List.mem_singleton] at hx; subst hx; exact ⟨hn.1, hn.2, hm.2⟩
    -- what follows a change
    have tail : ∀ (n' : Int) (h' : Hp), 0 ≤ n' ∧ n' ≤ m → CRep h' b q [(n', m)] → Keeps (· = q) h h' →
        K_signalboxlaw12_CountBalance_18 m (some ⟨b, 0, none⟩) n' ts (ts.n : Int) (i : Int) h' (fun v h'' => v = .bool true ∧ Under B h h'') := by
      intro n' h' hn' hc' hk
      apply S_signalboxlaw12_CountBalance_18
      unfold B_signalboxlaw12_CountBalance_18
      rw [mBind_ap]
      refine (Value_ok hc' (wf n' hn') 0).mono ?_
      rintro v h2 ⟨rfl, hc2, hk2⟩
      rw [addA_one, Int.add_zero, if_neg (by omega)]
      simp only [pairV, unT_tuple, unC_cons, unI_int, unE_nil]
      have e : (((n' != n') || ((0 : Int) != 0)) || decide (n' < 0) || decide (n' > m)) = false := by simp; omega
      rw [e]
      simp only [mIf_false]
      rw [wrap64 _ (by omega), show (i : Int) + 1 = ((i + 1 : Nat) : Int) by omega]
      have hu : Under B h h2 := Under.of_keeps (hk.trans hk2) hB fun j hj => by omega
      refine Cut.mono (ih (i + 1) n' h2 (by omega) (by omega) (Nat.le_trans hB hu.size) (hrd.under hu) hc2 hn') ?_
      rintro v h3 ⟨rfl, h4⟩
      exact ⟨rfl, hu.trans h4⟩
    cases bs.getD (i : Int).toNat false
    · simp only [mIf_false, mBind_ap]
      refine (Give_ok hc (wf n hn) 0).mono ?_
      rintro v h' ⟨rfl, hc', hk⟩
      rw [addL_one] at hc'
      rw [addA_one]
      by_cases hx : n + 1 < 0 ∨ n + 1 > m
      · rw [if_pos hx] at hc' ⊢
        simp only [pairV, unT_tuple, unC_cons, unI_int, unE_nil]
        have : ((7 : Int) == 0) = false := by decide
        rw [this, mIf_false]
        exact tail n h' hn hc' hk
      · rw [if_neg hx] at hc' ⊢
        simp only [pairV, unT_tuple, unC_cons, unI_int, unE_nil]
        have : ((0 : Int) == 0) = true := by decide
        rw [this, mIf_true, wrap64 _ (by omega)]
        exact tail (n + 1) h' (by omega) hc' hk
    · simp only [mIf_true, mBind_ap]
      refine (Take_ok hc (wf n hn) 0).mono ?_
      rintro v h' ⟨rfl, hc', hk⟩
      rw [addL_one] at hc'
      rw [addA_one]
      by_cases hx : n + -1 < 0 ∨ n + -1 > m
      · rw [if_pos hx] at hc' ⊢
        simp only [pairV, unT_tuple, unC_cons, unI_int, unE_nil]
        have : ((8 : Int) == 0) = false := by decide
        rw [this, mIf_false]
        exact tail n h' hn hc' hk
      · rw [if_neg hx] at hc' ⊢
        simp only [pairV, unT_tuple, unC_cons, unI_int, unE_nil]
        have : ((0 : Int) == 0) = true := by decide
        rw [this, mIf_true, wrap64 _ (by omega)]
        exact tail (n - 1) h' (by omega) (by rw [Int.sub_eq_add_neg]; exact hc') hk

theorem CountBalance_ok {h : Hp} {most : Int} {ts : Sl} {bs : List Bool} (hmost : 0 ≤ most ∧ most ≤ 255) (hrd : RdB h.size h ts bs) :
    N_signalboxlaw12_CountBalance most ts h (fun v h' => v = .bool true ∧ Under h.size h h') := by
  apply S_signalboxlaw12_CountBalance
  unfold B_signalboxlaw12_CountBalance
  rw [mBind_ap]
  refine (fixed_ok h).mono ?_
  rintro v h1 ⟨rfl, hu1⟩
  simp only [unB_bool, Bool.not_true, mIf_false]
  by_cases hlen : (ts.n : Int) > 200
  · simp only [hlen, decide_true, mIf_true, mRet_ap, true_and]; exact hu1
  · have hln : bs.length ≤ 200 := by rw [← hrd.n]; omega
    have hmod : Int.tmod most 8 = most % 8 := Int.tmod_eq_emod_of_nonneg hmost.1
    rw [hmod, wrap64 (most % 8) (by omega), wrap64 (1 + most % 8) (by omega)]
    simp only [hlen, decide_false, mIf_false, mGuard_ap, mNew_ap, mBind_ap]
    refine ⟨by omega, New_one (by omega) fun b q h2 hc hb hq hu => ?_⟩
    simp only [unP_pointer]
    have hmm : mk0 [1 + most % 8] = [(0, 1 + most % 8)] := by
      unfold mk0 mostOf; simp; omega
    rw [hmm] at hc
    have hu2 : Under h.size h h2 := hu1.trans ⟨hu.size, fun i hi => hu.at_ i (by have := hu1.size; omega)⟩
    have := Bal_loop (B := h.size) (1 + most % 8) (by omega) b q (by have := hu1.size; omega) hln bs.length 0 0 h2 rfl (by omega) hu2.size (hrd.under hu2) hc (by omega)
    refine Cut.mono this ?_
    rintro v h3 ⟨rfl, h4⟩
    exact ⟨rfl, hu2.trans h4⟩
end Go.Proofs.Ytkmenmagclojmaa
