/- Who waits for whom: the fixed calls, and the law WaitsStuck. Conditions: none. -/
import Derived.Test.YtimpaammdmeocaaDoorWaiU
import Derived.Test.YtimpaammdmeocaaDoorSbW
namespace Go.Proofs.YtimpaammdmeocaaDoor
open Go Go.Sb
set_option linter.unusedSimpArgs false
set_option linter.unusedVariables false
def fx0 : List Nat := List.replicate 64 0
def fx1 : List Nat := waitR fx0 1 2
def fx2 : List Nat := waitR fx1 2 1
def fx3 : List Nat := waitR fx2 5 1
def fx4 : List Nat := stopR fx3 2 1
theorem fx_w1 : waitV fx0 1 2 = 0 := by decide +kernel
theorem fx_w2 : waitV fx1 2 1 = 0 := by decide +kernel
theorem fx_ring : ringN fx3 = [1, 2] := by decide +kernel
theorem fx_st3 : stuckN fx3 = [1, 2, 5] := by decide +kernel
theorem fx_st4 : stuckN fx4 = [] := by decide +kernel
theorem fx_or4 : ordN fx4 = [2, 1, 5] := by decide +kernel
theorem fx_w4 : waitV fx4 0 64 = 5 := by decide +kernel
abbrev WFin (h0 : Hp) : Value → Hp → Prop := fun v h' => v = .bool true ∧ Under h0.size h0 h'
section
variable {h0 h : Hp} {R : List As} {g r rg : Nat} {rows : List Nat}
theorem row_at {α : Type} {Q : α → Hp → Prop} {L : List As} {k : Nat} {s : Sl} {xs : List Int} {K : Int → M α} (hs : Sep h0 h L) (hk : L[k]? = some (aRow encI 1 s xs)) {i : Nat} (hi : i < xs.length) (hK : K (xs[i]'hi) h Q) : mIdx s (i : Int) 1 (fun x => mLdI .i64 x K) h Q := by
  refine hs.idx k hk (by omega) (by omega) fun x hx => ?_
  rw [Int.toNat_natCast] at hx
  exact hs.ild k hk hx hi hK
theorem wfixed_s (hB : Base h0) (hs : Sep h0 h []) : N_signalboxlaw39_fixed h (WFin h0) := by
  have g1 : GOk fx1 := waitR_ok g0_ok 1 2
  have g2 : GOk fx2 := waitR_ok g1 2 1
  have g3 : GOk fx3 := waitR_ok g2 5 1
  have g4 : GOk fx4 := stopR_ok g3 2 1
  apply S_signalboxlaw39_fixed
  unfold B_signalboxlaw39_fixed
  rw [mBind_ap]
  refine (New_s hs).mono ?_
  rintro v h ⟨g, rfl, hs⟩
  simp only [unP_pointer]
  rw [mBind_ap]
  refine (Wait_s g0_ok 1 2 hs).mono ?_
  rintro v h ⟨rfl, hs⟩
  have hs : Sep h0 h [aBlk g (cellsN fx1)] := hs
  simp only [unI_int]
  rw [show waitV (List.replicate 64 0) 1 2 = 0 from fx_w1, mBind_ap]
  refine (Wait_s g1 2 1 hs).mono ?_
  rintro v h ⟨rfl, hs⟩
  have hs : Sep h0 h [aBlk g (cellsN fx2)] := hs
  simp only [unI_int]
  rw [fx_w2, mBind_ap]
  refine (Wait_s g2 5 1 hs).mono ?_
  rintro v h ⟨rfl, hs⟩
  have hs : Sep h0 h [aBlk g (cellsN fx3)] := hs
  simp only [unI_int]
  rw [mBind_ap]
  refine (Ring_s hB g3 hs).mono ?_
  rintro v h ⟨o1, rfl, hs⟩
  rw [fx_ring] at hs
  simp only [unL_slice]
  rw [mBind_ap]
  refine (Stuck_s hB g3 hs.swap).mono ?_
  rintro v h ⟨o2, rfl, hs⟩
  rw [fx_st3] at hs
  simp only [unL_slice]
  rw [mBind_ap]
  refine (Order_s hB g3 hs.swap).mono ?_
  rintro v h ⟨o3, rfl, hs⟩
  rw [fx_st3]
  simp only [un2_tuple, unL_slice, unB_bool]
  have hs := hs.drop
  rw [mBind_ap]
  refine (Stop_s g3 2 1 hs).mono ?_
  rintro v h ⟨rfl, hs⟩
  have hs : Sep h0 h [aBlk g (cellsN fx4), aRow encI 1 o2 (([1, 2, 5] : List Nat).map Int.ofNat), aRow encI 1 o1 (([1, 2] : List Nat).map Int.ofNat)] := hs
  simp only [unB_bool]
  rw [mBind_ap]
  refine (Order_s hB g4 hs).mono ?_
  rintro v h ⟨o4, rfl, hs⟩
  rw [fx_st4, fx_or4] at hs
  rw [fx_st4]
  simp only [un2_tuple, unL_slice, unB_bool]
  have hs : Sep h0 h [aRow encI 1 o4 [2, 1, 5], aBlk g (cellsN fx4), aRow encI 1 o2 [1, 2, 5], aRow encI 1 o1 [1, 2]] := hs
  have n1 : o1.n = 2 := hs.rowLen 3 rfl
  have n2 : o2.n = 3 := hs.rowLen 2 rfl
  have n4 : o4.n = 3 := hs.rowLen 0 rfl
  rw [mBind_ap]
  refine mIf_pos (by rw [n1]; rfl) ?_
  refine row_at (k := 3) (i := 0) hs rfl (by simp) ?_
  rw [mRet_ap, mBind_ap]
  refine mIf_pos rfl ?_
  refine row_at (k := 3) (i := 1) hs rfl (by simp) ?_
  rw [mRet_ap, mBind_ap]
  refine mIf_pos (by rw [n2]; rfl) ?_
  refine row_at (k := 2) (i := 2) hs rfl (by simp) ?_
  rw [mRet_ap, mBind_ap]
  refine mIf_pos (by rw [n4]; rfl) ?_
  refine row_at (k := 0) (i := 0) hs rfl (by simp) ?_
  rw [mRet_ap, mBind_ap]
  refine mIf_pos rfl ?_
  refine row_at (k := 0) (i := 1) hs rfl (by simp) ?_
  rw [mRet_ap, mBind_ap]
  refine mIf_pos rfl ?_
  rw [mBind_ap]
  refine (Wait_s g4 0 64 hs.swap).mono ?_
  rintro v h ⟨rfl, hs⟩
  rw [fx_w4]
  simp only [unI_int]
  exact ⟨rfl, hs.under⟩
def accB (rows : List Nat) (a c : Nat) : Bool := (ringM rows 64).testBit a || (List.range c).any fun b => (reachN rows a).testBit b && (ringM rows 64).testBit b
theorem accB_all {a : Nat} (ha : a < 64) : accB rows a 64 = stuckB rows a := by
  unfold accB stuckB
  rw [Bool.eq_iff_iff]
  simp only [Bool.or_eq_true, List.any_eq_true, Bool.and_eq_true, List.mem_range, bne_iff_ne, ne_eq]
  constructor
  · rintro (h | ⟨b, hb, h1, h2⟩) e
    · have := congrArg (fun z => Nat.testBit z a) e
      simp [Nat.testBit_and, h] at this
    · have := congrArg (fun z => Nat.testBit z b) e
      simp [Nat.testBit_and, h1, h2] at this
  · intro h
    apply Classical.byContradiction
    intro hc
    apply h
    apply Nat.eq_of_testBit_eq
    intro i
    rw [Nat.testBit_and, Nat.testBit_or, Nat.testBit_two_pow, Nat.zero_testBit]
    cases h1 : (ringM rows 64).testBit i with
    | false => rfl
    | true =>
      cases h2 : (reachN rows a).testBit i with
      | true => exact absurd (.inr ⟨i, bit_lt (ringM_lt 64 (by omega)) h1, h2, h1⟩) hc
      | false =>
        by_cases hai : a = i
        · subst hai; exact absurd (.inl h1) hc
        · simp [hai]
theorem ring_set {k : Nat} (hk : k < 64) : (mCells (ringM rows k)).set k (.bool ((reachN rows k).testBit k)) = mCells (ringM rows (k + 1)) := by
  cases hb : (reachN rows k).testBit k with
  | true => rw [mCells_set]; simp only [ringM, hb, if_true]
  | false =>
    rw [mCells_off hk, off_same (ringM_lt k (by omega)) hk (by rw [ringM_bit]; simp)]
    simp only [ringM, hb, Bool.false_eq_true, if_false]
theorem filter_at {f : Nat → Bool} {a : Nat} (hf : f a = true) : ∀ n, a < n → ((List.range n).filter f)[((List.range a).filter f).length]? = some a := by
  intro n
  induction n with
  | zero => intro h; omega
  | succ n ih =>
    intro h
    rw [List.range_succ, List.filter_append]
    by_cases e : a = n
    · subst e
      rw [List.getElem?_append_right (Nat.le_refl _), Nat.sub_self]
      simp [hf]
    · have := ih (by omega)
      rw [List.getElem?_append_left (List.getElem?_eq_some_iff.1 this).1]
      exact this
theorem ws21 {got : Sl} {a at9 : Nat} (ha : a < 64) {Q : Value → Hp → Prop} (hat : at9 = ((List.range a).filter (stuckB rows)).length)
    (next : ∀ h, Sep h0 h [aBlk r (gCells rows), aBlk rg (mCells (ringM rows 64)), aRow encI 1 got ((stuckN rows).map Int.ofNat), aBlk g (cellsN rows)] → K_signalboxlaw39_WaitsStuck_17 (some ⟨r, 0, none⟩) ⟨rg, 0, none⟩ got ((((List.range (a + 1)).filter (stuckB rows)).length : Nat) : Int) ((a + 1 : Nat) : Int) h Q) : ∀ (d c : Nat) (h : Hp), c + d = 64 → Sep h0 h [aBlk r (gCells rows), aBlk rg (mCells (ringM rows 64)), aRow encI 1 got ((stuckN rows).map Int.ofNat), aBlk g (cellsN rows)] →
    K_signalboxlaw39_WaitsStuck_21 (some ⟨r, 0, none⟩) ⟨rg, 0, none⟩ got (at9 : Int) (a : Int) (accB rows a c) (a : Int) (mCells (reachN rows a)) (c : Int) h Q
  | 0, c, h, hc, hs => by
    have hc : c = 64 := by omega
    subst hc
    have hn := hs.rowLen 2 rfl
    rw [List.length_map] at hn
    have hw : IntKind.i64.wrap ((a : Int) + 1) = ((a + 1 : Nat) : Int) := by rw [wrap64 _ (by omega)]; omega
    rw [List.range_succ, List.filter_append, List.length_append, ← hat] at next
    apply S_signalboxlaw39_WaitsStuck_21
    unfold B_signalboxlaw39_WaitsStuck_21
    refine mIf_neg (by simp) ?_
    rw [accB_all ha]
    have hl64 : at9 ≤ 64 := by
      have := List.length_filter_le (stuckB rows) (List.range a)
      rw [List.length_range] at this
      omega
    refine mIf_intro (fun hb => ?_) (fun hb => ?_)
    · have hg := filter_at hb 64 ha
      rw [← hat] at hg
      obtain ⟨h1, h2⟩ := List.getElem?_eq_some_iff.1 hg
      have h1' : at9 < (stuckN rows).length := h1
      rw [mBind_ap]
      refine mIf_neg (by simp; omega) ?_
      refine row_at (k := 2) (i := at9) hs rfl (by rw [List.length_map]; exact h1) ?_
      rw [List.getElem_map]
      have e : (stuckN rows)[at9] = a := h2
      rw [e, mRet_ap]
      refine mIf_neg (by simp) ?_
      rw [hw, wrap64 _ (by omega)]
      have := next h hs
      simp only [List.filter_cons, hb, if_true, List.filter_nil, List.length_singleton] at this
      rw [show (at9 : Int) + 1 = ((at9 + 1 : Nat) : Int) by omega]
      exact this
    · rw [hw]
      have := next h hs
      simp only [List.filter_cons, hb, Bool.false_eq_true, if_false, List.filter_nil, List.length_nil, Nat.add_zero] at this
      exact this
  | d + 1, c, h, hc, hs => by
    have ih := ws21 ha hat next d (c + 1)
    have hw : IntKind.i64.wrap ((c : Int) + 1) = ((c + 1 : Nat) : Int) := by rw [wrap64 _ (by omega)]; omega
    have hacc : accB rows a (c + 1) = (accB rows a c || ((reachN rows a).testBit c && (ringM rows 64).testBit c)) := by
      unfold accB
      rw [List.range_succ, List.any_append]
      simp [Bool.or_assoc]
    apply S_signalboxlaw39_WaitsStuck_21
    unfold B_signalboxlaw39_WaitsStuck_21
    refine mIf_pos (by simp; omega) ?_
    refine ⟨mCells_len, ?_⟩
    refine ⟨_, by omega, by rw [Int.toNat_natCast]; exact mCells_at (by omega), ?_⟩
    simp only [unB_bool]
    rw [hw, mBind_ap]
    rw [hacc] at ih
    refine mIf_intro (fun h1 => ?_) (fun h1 => ?_)
    · rw [mRet_ap]
      rw [h1, Bool.true_or] at ih
      exact ih h (by omega) hs
    · rw [h1, Bool.false_or] at ih
      rw [mBind_ap]
      refine mIf_intro (fun h2 => ?_) (fun h2 => ?_)
      · refine m_ld hs 1 rfl (show c < 64 by omega) ?_
        rw [mRet_ap, mRet_ap]
        rw [h2, Bool.true_and] at ih
        exact ih h (by omega) hs
      · rw [mRet_ap, mRet_ap]
        rw [h2, Bool.false_and] at ih
        exact ih h (by omega) hs
theorem ws17 (hg : GOk rows) {got : Sl} : ∀ (d a : Nat) (h : Hp), a + d = 64 → Sep h0 h [aBlk r (gCells rows), aBlk rg (mCells (ringM rows 64)), aRow encI 1 got ((stuckN rows).map Int.ofNat), aBlk g (cellsN rows)] →
    K_signalboxlaw39_WaitsStuck_17 (some ⟨r, 0, none⟩) ⟨rg, 0, none⟩ got ((((List.range a).filter (stuckB rows)).length : Nat) : Int) (a : Int) h (WFin h0)
  | 0, a, h, ha, hs => by
    have ha : a = 64 := by omega
    subst ha
    have hn := hs.rowLen 2 rfl
    rw [List.length_map] at hn
    apply S_signalboxlaw39_WaitsStuck_17
    unfold B_signalboxlaw39_WaitsStuck_17
    refine mIf_neg (by simp) ?_
    rw [hn]
    refine ⟨?_, hs.under⟩
    have : (stuckN rows).length = ((List.range 64).filter (stuckB rows)).length := rfl
    rw [this]
    simp
  | d + 1, a, h, ha, hs => by
    apply S_signalboxlaw39_WaitsStuck_17
    unfold B_signalboxlaw39_WaitsStuck_17
    refine mIf_pos (by simp; omega) ?_
    refine m_ld hs 1 rfl (show a < 64 by omega) ?_
    rw [mBind_ap]
    refine (rReach_s hg (show a < 64 by omega) hs).mono ?_
    rintro v h ⟨rfl, hs⟩
    simp only [unA_agg, List.toList_toArray]
    have := ws21 (at9 := ((List.range a).filter (stuckB rows)).length) (show a < 64 by omega) rfl (fun h hs => ws17 hg d (a + 1) h (by omega) hs) 64 0 h rfl hs
    have e : accB rows a 0 = (ringM rows 64).testBit a := by unfold accB; simp
    rw [e] at this
    exact this
theorem ws10 (hB : Base h0) (hg : GOk rows) : ∀ (d k : Nat) (h : Hp), k + d = 64 → Sep h0 h [aBlk r (gCells rows), aBlk rg (mCells (ringM rows k)), aBlk g (cellsN rows)] →
    K_signalboxlaw39_WaitsStuck_10 (some ⟨g, 0, none⟩) (some ⟨r, 0, none⟩) ⟨rg, 0, none⟩ (k : Int) h (WFin h0)
  | 0, k, h, hk, hs => by
    have hk : k = 64 := by omega
    subst hk
    apply S_signalboxlaw39_WaitsStuck_10
    unfold B_signalboxlaw39_WaitsStuck_10
    refine mIf_neg (by simp) ?_
    rw [mBind_ap]
    refine (Stuck_s hB hg (hs.front 2 rfl)).mono ?_
    rintro v h ⟨got, rfl, hs⟩
    simp only [unL_slice]
    exact ws17 hg 64 0 h rfl (hs.re [2, 3, 0, 1] rfl)
  | d + 1, k, h, hk, hs => by
    have ih := ws10 hB hg d (k + 1)
    apply S_signalboxlaw39_WaitsStuck_10
    unfold B_signalboxlaw39_WaitsStuck_10
    refine mIf_pos (by simp; omega) ?_
    rw [mBind_ap]
    refine (rReach_s hg (show k < 64 by omega) hs).mono ?_
    rintro v h ⟨rfl, hs⟩
    simp only [unA_agg, List.toList_toArray]
    refine ⟨mCells_len, ?_⟩
    refine ⟨_, by omega, by rw [Int.toNat_natCast]; exact mCells_at (by omega), ?_⟩
    simp only [unB_bool]
    refine g_ix (show k < 64 by omega) ?_
    refine hs.st 1 rfl (by rw [mCells_at (by omega)]; rfl) rfl fun h hs => ?_
    simp only [List.set_cons_succ, List.set_cons_zero] at hs
    rw [ring_set (by omega)] at hs
    rw [wrap64 _ (by omega), show (k : Int) + 1 = ((k + 1 : Nat) : Int) by omega]
    exact ih h (by omega) hs
theorem WaitsStuck_ok {t : Sl} {ps : List WPair} (hB : Base h0) (hl : RdE h0.size h0 WPair.enc 3 t ps) (_ : ∀ x ∈ ps, x.ok h0) : N_signalboxlaw39_WaitsStuck t h0 (WFin h0) := by
  have hn := hl.n
  apply S_signalboxlaw39_WaitsStuck
  unfold B_signalboxlaw39_WaitsStuck
  rw [mBind_ap]
  refine (wfixed_s hB (Sep.init h0)).mono ?_
  rintro v h ⟨rfl, hu⟩
  simp only [unB_bool]
  refine mIf_neg rfl ?_
  refine mIf_intro (fun hc => ⟨rfl, hu⟩) (fun hc => ?_)
  simp only [decide_eq_false_iff_not] at hc
  rw [mBind_ap]
  refine (made_s hl (by omega) ((Sep.init h0).more hu)).mono ?_
  rintro v h ⟨g, r, rows, rfl, hg, hs⟩
  simp only [un3_tuple, unP_pointer, unB_bool]
  refine mIf_neg rfl ?_
  refine Sep.new hs fun rg h hs => ?_
  have hs : Sep h0 h [aBlk rg (mCells 0), aBlk g (cellsN rows), aBlk r (gCells rows)] := hs
  exact ws10 hB hg 64 0 h rfl (hs.re [2, 0, 1] rfl)
end
end Go.Proofs.YtimpaammdmeocaaDoor
