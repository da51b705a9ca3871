/- Who waits for whom: the law WaitsReach. Conditions: none. -/
import Derived.Test.YtimpaammdmeocaaDoorWaiZ
import Derived.Test.YtimpaammdmeocaaDoorSbW
namespace Go.Proofs.YtimpaammdmeocaaDoor
open Go Go.Sb
set_option linter.unusedSimpArgs false
set_option linter.unusedVariables false
section
variable {h0 h : Hp} {R : List As} {x y : Sl} {xs : List Int} {rows : List Nat} {g r al a : Nat} {Q : Value → Hp → Prop}
theorem wr30 (hl : xs.length ≤ 64) : ∀ (d k : Nat), k + d = xs.length → Sep h0 h (aRow encI 1 x xs :: aRow encI 1 y xs :: R) →
    K_signalboxlaw39_WaitsReach_30 x y (x.n : Int) (k : Int) h (WFin h0)
  | 0, k, hk, hs => by
    have hn := hs.rowLen 0 rfl
    apply S_signalboxlaw39_WaitsReach_30
    unfold B_signalboxlaw39_WaitsReach_30
    refine mIf_neg (by simp; omega) ?_
    exact ⟨rfl, hs.under⟩
  | d + 1, k, hk, hs => by
    have ih := wr30 hl d (k + 1)
    have hn := hs.rowLen 0 rfl
    apply S_signalboxlaw39_WaitsReach_30
    unfold B_signalboxlaw39_WaitsReach_30
    refine mIf_pos (by simp; omega) ?_
    refine row_at (k := 0) hs rfl (show k < xs.length by omega) ?_
    refine row_at (k := 1) hs rfl (show k < xs.length by omega) ?_
    refine mIf_neg (by simp) ?_
    rw [wrap64 _ (by omega), show (k : Int) + 1 = ((k + 1 : Nat) : Int) by omega]
    exact ih (by omega) hs
/-- how many of a mask's parties are below one -/
def cnt (m b : Nat) : Nat := ((List.range b).filter fun i => m.testBit i).length
theorem cnt_le {m b : Nat} : cnt m b ≤ b := by
  have := List.length_filter_le (fun i => m.testBit i) (List.range b)
  rw [List.length_range] at this
  exact this
theorem cnt_next {m b : Nat} : cnt m (b + 1) = if m.testBit b then cnt m b + 1 else cnt m b := by
  unfold cnt
  rw [List.range_succ, List.filter_append, List.length_append]
  cases h : m.testBit b <;> simp [h]
theorem ck {L : List As} {k m b : Nat} {s : Sl} {K : Bool → M Value} (hs : Sep h0 h L) (hk : L[k]? = some (aRow encI 1 s ((lsN m).map Int.ofNat))) (hb : m.testBit b = true) (hb64 : b < 64) (hK : K false h Q) :
    (mBind (mIf (decide (((cnt m b : Nat) : Int) ≥ (s.n : Int))) (mRet true) (mIdx s ((cnt m b : Nat) : Int) 1 fun (x70 : Addr) =>
        mLdI .i64 x70 fun (x71 : Int) =>
        mRet (x71 != (b : Int)))) K) h Q := by
  have hn := hs.rowLen k hk
  rw [List.length_map] at hn
  have hg := filter_at (f := fun i => m.testBit i) hb 64 hb64
  obtain ⟨h1, h2⟩ := List.getElem?_eq_some_iff.1 hg
  have h1' : cnt m b < (lsN m).length := h1
  rw [mBind_ap]
  refine mIf_neg (by simp; omega) ?_
  refine row_at (k := k) (i := cnt m b) hs hk (by rw [List.length_map]; exact h1') ?_
  rw [List.getElem_map]
  have e : (lsN m)[cnt m b] = b := h2
  rw [e, mRet_ap]
  simpa using hK
theorem wr14 (hB : Base h0) (hg : GOk rows) (ha : a < 64) {m w : Nat} {rc wt : Sl} (hw : w = rows.getD a 0) : ∀ (d b : Nat) (h : Hp), b + d = 64 →
    Sep h0 h [aBlk al (mCells m), aBlk r (gCells rows), aRow encI 1 rc ((lsN m).map Int.ofNat), aRow encI 1 wt ((lsN w).map Int.ofNat), aBlk g (cellsN rows)] →
    K_signalboxlaw39_WaitsReach_14 (a : Int) (some ⟨g, 0, none⟩) (some ⟨r, 0, none⟩) rc wt ⟨al, 0, none⟩ ((cnt m b : Nat) : Int) ((cnt w b : Nat) : Int) (b : Int) h (WFin h0)
  | 0, b, h, hb, hs => by
    have hb : b = 64 := by omega
    subst hb
    have n1 := hs.rowLen 2 rfl
    have n2 := hs.rowLen 3 rfl
    rw [List.length_map] at n1 n2
    have n1 : rc.n = cnt m 64 := n1
    have n2 : wt.n = cnt w 64 := n2
    apply S_signalboxlaw39_WaitsReach_14
    unfold B_signalboxlaw39_WaitsReach_14
    refine mIf_neg (by simp) ?_
    rw [mBind_ap]
    refine (Order_s hB hg (hs.front 4 rfl)).mono ?_
    rintro v h ⟨o1, rfl, hs⟩
    simp only [un2_tuple, unL_slice, unB_bool]
    rw [mBind_ap]
    refine (rOrder_s hg (hs.front 3 rfl)).mono ?_
    rintro v h ⟨o2, rfl, hs⟩
    simp only [un2_tuple, unL_slice, unB_bool]
    have hs := (hs.re [2, 0, 1, 3, 4, 5, 6] rfl : Sep h0 h (aRow encI 1 o1 ((if (stuckN rows).isEmpty then ordN rows else []).map Int.ofNat) :: aRow encI 1 o2 ((if (stuckN rows).isEmpty then ordN rows else []).map Int.ofNat) :: [aBlk r (gCells rows), aBlk g (cellsN rows), aBlk al (mCells m), aRow encI 1 rc ((lsN m).map Int.ofNat), aRow encI 1 wt ((lsN w).map Int.ofNat)]))
    have l1 := hs.rowLen 0 rfl
    have l2 := hs.rowLen 1 rfl
    refine mIf_neg ?_ ?_
    · rw [n1, n2, l1, l2]; simp
    · refine wr30 ?_ _ 0 (Nat.zero_add _) hs
      rw [List.length_map]
      split
      · have : ∀ f m, (ordF rows f m).length ≤ f := by
          intro f
          induction f with
          | zero => intro m; simp [ordF]
          | succ f ih =>
            intro m
            unfold ordF
            split
            · simp; exact ih _
            · simp
        exact this 64 _
      · simp
  | d + 1, b, h, hb, hs => by
    have ih := wr14 hB hg ha (m := m) (rc := rc) (wt := wt) hw d (b + 1)
    have hb64 : b < 64 := by omega
    have c1 := cnt_le (m := m) (b := b)
    have c2 := cnt_le (m := w) (b := b)
    have hw1 : IntKind.i64.wrap ((b : Int) + 1) = ((b + 1 : Nat) : Int) := by rw [wrap64 _ (by omega)]; omega
    have k20 : ∀ h, Sep h0 h [aBlk al (mCells m), aBlk r (gCells rows), aRow encI 1 rc ((lsN m).map Int.ofNat), aRow encI 1 wt ((lsN w).map Int.ofNat), aBlk g (cellsN rows)] →
        K_signalboxlaw39_WaitsReach_20 (a : Int) (some ⟨g, 0, none⟩) (some ⟨r, 0, none⟩) rc wt ⟨al, 0, none⟩ ((cnt m (b + 1) : Nat) : Int) ((cnt w b : Nat) : Int) (b : Int) (b : Int) h (WFin h0) := by
      intro h hs
      apply S_signalboxlaw39_WaitsReach_20
      unfold B_signalboxlaw39_WaitsReach_20
      rw [mNil_some]
      refine gg_ld hs 1 rfl ha hb64 ?_
      rw [← hw]
      rw [hw1]
      have := ih h (by omega) hs
      rw [cnt_next (m := w)] at this
      refine mIf_intro (fun hc => ?_) (fun hc => ?_)
      · refine ck hs (k := 3) rfl hc hb64 ?_
        refine mIf_neg rfl ?_
        rw [hc] at this
        rw [wrap64 _ (by omega), show ((cnt w b : Nat) : Int) + 1 = ((cnt w b + 1 : Nat) : Int) by omega]
        exact this
      · rw [hc] at this
        exact this
    apply S_signalboxlaw39_WaitsReach_14
    unfold B_signalboxlaw39_WaitsReach_14
    refine mIf_pos (by simp; omega) ?_
    refine m_ld hs 0 rfl hb64 ?_
    have k20 := k20 h hs
    rw [cnt_next] at k20
    refine mIf_intro (fun hc => ?_) (fun hc => ?_)
    · refine ck hs (k := 2) rfl hc hb64 ?_
      refine mIf_neg rfl ?_
      rw [hc] at k20
      rw [wrap64 _ (by omega), show ((cnt m b : Nat) : Int) + 1 = ((cnt m b + 1 : Nat) : Int) by omega]
      exact k20
    · rw [hc] at k20
      exact k20
theorem WaitsReach_ok {t : Sl} {z : Int} {ps : List WPair} (hB : Base h0) (hl : RdE h0.size h0 WPair.enc 3 t ps) (_ : ∀ x ∈ ps, x.ok h0) (hz : -9223372036854775808 ≤ z ∧ z ≤ 9223372036854775807) : N_signalboxlaw39_WaitsReach t z h0 (WFin h0) := by
  have hn := hl.n
  apply S_signalboxlaw39_WaitsReach
  unfold B_signalboxlaw39_WaitsReach
  rw [mBind_ap]
  refine (wfixed_s hB (Sep.init h0)).mono ?_
  rintro v h ⟨rfl, hu⟩
  simp only [unB_bool]
  refine mIf_neg rfl ?_
  refine mIf_intro (fun hc => ⟨rfl, hu⟩) (fun hc => ?_)
  simp only [decide_eq_false_iff_not] at hc
  rw [mBind_ap]
  refine (made_s hl (by omega) ((Sep.init h0).more hu)).mono ?_
  rintro v h ⟨g, r, rows, rfl, hg, hs⟩
  simp only [un3_tuple, unP_pointer, unB_bool]
  refine mIf_neg rfl ?_
  refine mIf_intro (fun hc => ?_) (fun hc => ?_)
  · have hin : inP z = false := by
      unfold inP
      simp at hc ⊢
      omega
    rw [mBind_ap]
    refine (Reach_s hB hg z hs).mono ?_
    rintro v h ⟨o1, rfl, hs⟩
    simp only [unL_slice]
    rw [mBind_ap]
    refine (Waits_s hB hg z hs.swap).mono ?_
    rintro v h ⟨o2, rfl, hs⟩
    simp only [unL_slice]
    have l1 := hs.rowLen 2 rfl
    have l2 := hs.rowLen 0 rfl
    rw [hin] at l1 l2
    have l1 : o1.n = 0 := l1
    have l2 : o2.n = 0 := l2
    rw [l1, l2]
    exact ⟨rfl, hs.under⟩
  · obtain ⟨a, rfl⟩ : ∃ a : Nat, z = a := ⟨z.toNat, by simp at hc; omega⟩
    have ha : a < 64 := by simp at hc; omega
    have hin : inP (a : Int) = true := by unfold inP; simp; omega
    rw [mBind_ap]
    refine (Reach_s hB hg a hs).mono ?_
    rintro v h ⟨o1, rfl, hs⟩
    simp only [unL_slice]
    rw [mBind_ap]
    refine (Waits_s hB hg a hs.swap).mono ?_
    rintro v h ⟨o2, rfl, hs⟩
    simp only [unL_slice]
    rw [hin] at hs
    simp only [if_true, Int.toNat_natCast] at hs
    rw [mBind_ap]
    refine (rReach_s hg ha (hs.front 3 rfl)).mono ?_
    rintro v h ⟨rfl, hs⟩
    simp only [unA_agg, List.toList_toArray]
    refine Sep.new hs fun al h hs => ?_
    refine ⟨mCells_len, ?_⟩
    refine Sep.stN hs (by rw [mCells_len]; rfl) (fun v hv => ?_) fun h hs => ?_
    · unfold mCells at hv
      obtain ⟨i, _, rfl⟩ := List.mem_map.1 hv
      rfl
    · exact wr14 hB hg ha rfl 64 0 h rfl (hs.re [0, 1, 4, 2, 3] rfl)
end
end Go.Proofs.YtimpaammdmeocaaDoor
