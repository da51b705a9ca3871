/- Who waits for whom: the plain graph's order, its first half. Conditions: none. -/
import Derived.Test.YtimpaammdmeocaaDoorWaiX
import Derived.Test.YtimpaammdmeocaaDoorSbW
namespace Go.Proofs.YtimpaammdmeocaaDoor
open Go Go.Sb
set_option linter.unusedSimpArgs false
set_option linter.unusedVariables false
section
variable {h0 h : Hp} {R : List As} {r lf : Nat} {rows : List Nat}
def gM (rows : List Nat) : Nat → Nat
  | 0 => 0
  | k + 1 => if inG rows k 64 then gM rows k ||| 2 ^ k else gM rows k
def gMb (rows : List Nat) (a b : Nat) : Nat := if inG rows a b then gM rows a ||| 2 ^ a else gM rows a
theorem gM_lt : ∀ k, k ≤ 64 → gM rows k < 2 ^ 64
  | 0, _ => Nat.two_pow_pos 64
  | k + 1, hk => by
    unfold gM
    split
    · exact Nat.or_lt_two_pow (gM_lt k (by omega)) (pow_lt (by omega))
    · exact gM_lt k (by omega)
theorem gM_bit : ∀ k j, (gM rows k).testBit j = (decide (j < k) && inG rows j 64)
  | 0, j => by simp [gM]
  | k + 1, j => by
    rw [show gM rows (k + 1) = if inG rows k 64 then gM rows k ||| 2 ^ k else gM rows k from rfl]
    split
    · rename_i h
      rw [Nat.testBit_or, gM_bit k j, Nat.testBit_two_pow]
      by_cases hj : k = j
      · subst hj; simp [h]
      · by_cases hlt : j < k
        · have : j < k + 1 := by omega
          simp [hj, hlt, this]
        · have : ¬ j < k + 1 := by omega
          simp [hj, hlt, this]
    · rename_i h
      rw [gM_bit k j]
      by_cases hj : k = j
      · subst hj; simp at h; simp [h]
      · by_cases hlt : j < k
        · have : j < k + 1 := by omega
          simp [hlt, this]
        · have : ¬ j < k + 1 := by omega
          simp [hlt, this]
theorem gM_all (hg : GOk rows) : gM rows 64 = leftM rows 64 := by
  apply Nat.eq_of_testBit_eq
  intro j
  rw [gM_bit]
  by_cases hj : j < 64
  · simp [hj, inG_left hg hj]
  · cases hb : (leftM rows 64).testBit j with
    | false => simp [hj]
    | true => exact absurd (bit_lt (leftM_lt hg 64 (by omega)) hb) hj
theorem gMb_bit {a b : Nat} : (gMb rows a b).testBit a = inG rows a b := by
  unfold gMb
  cases h : inG rows a b
  · simp [gM_bit]
  · simp [Nat.testBit_or, Nat.testBit_two_pow]
theorem gMb_set {a b : Nat} (ha : a < 64) {v : Bool} (hv : v = inG rows a (b + 1)) (hm : inG rows a b = true → v = true) : (mCells (gMb rows a b)).set a (.bool v) = mCells (gMb rows a (b + 1)) := by
  unfold gMb
  rw [← hv]
  cases v with
  | true =>
    rw [mCells_set]
    cases inG rows a b
    · rfl
    · simp only [if_true]
      rw [or_same (by simp [Nat.testBit_or, Nat.testBit_two_pow])]
  | false =>
    have : inG rows a b = false := by
      cases e : inG rows a b with
      | false => rfl
      | true => exact absurd (hm e) (by simp)
    rw [this]
    simp only [Bool.false_eq_true, if_false]
    rw [mCells_off ha, off_same (gM_lt a (by omega)) ha (by rw [gM_bit]; simp)]
theorem inG_next {a b : Nat} : inG rows a (b + 1) = (inG rows a b || ((rows.getD a 0).testBit b || (rows.getD b 0).testBit a)) := by
  unfold inG
  rw [List.range_succ, List.any_append]
  simp
theorem ro8 (hg : GOk rows) {a : Nat} (ha : a < 64) {Q : Value → Hp → Prop} (next : ∀ h, Sep h0 h (aBlk lf (mCells (gM rows (a + 1))) :: aBlk r (gCells rows) :: R) → K_signalboxref39_Graph_Order_3 (some ⟨r, 0, none⟩) ⟨lf, 0, none⟩ ((a + 1 : Nat) : Int) h Q) : ∀ (d b : Nat) (h : Hp), b + d = 64 → Sep h0 h (aBlk lf (mCells (gMb rows a b)) :: aBlk r (gCells rows) :: R) →
    K_signalboxref39_Graph_Order_8 (some ⟨r, 0, none⟩) ⟨lf, 0, none⟩ (a : Int) (b : Int) h Q
  | 0, b, h, hb, hs => by
    have hb : b = 64 := by omega
    subst hb
    apply S_signalboxref39_Graph_Order_8
    unfold B_signalboxref39_Graph_Order_8
    refine mIf_neg (by simp) ?_
    rw [wrap64 _ (by omega), show (a : Int) + 1 = ((a + 1 : Nat) : Int) by omega]
    exact next h hs
  | d + 1, b, h, hb, hs => by
    have ih := ro8 hg ha next d (b + 1)
    have hw : IntKind.i64.wrap ((b : Int) + 1) = ((b + 1 : Nat) : Int) := by rw [wrap64 _ (by omega)]; omega
    apply S_signalboxref39_Graph_Order_8
    unfold B_signalboxref39_Graph_Order_8
    refine mIf_pos (by simp; omega) ?_
    refine m_ld hs 0 rfl ha ?_
    rw [gMb_bit, hw, mBind_ap]
    have fin : ∀ v : Bool, v = inG rows a (b + 1) → (mIdx ⟨(some ⟨lf, 0, none⟩), 64, 64⟩ (a : Int) 1 fun (x47 : Addr) =>
        mSt x47 (.bool v) <| K_signalboxref39_Graph_Order_8 (some ⟨r, 0, none⟩) ⟨lf, 0, none⟩ (a : Int) ((b + 1 : Nat) : Int)) h Q := by
      intro v hv
      refine g_ix ha ?_
      refine hs.st 0 rfl (by rw [mCells_at ha]; rfl) rfl fun h hs => ?_
      rw [List.set_cons_zero, gMb_set ha hv (fun e => by rw [hv, inG_next, e]; rfl)] at hs
      exact ih h (by omega) hs
    cases h1 : inG rows a b with
    | true =>
      refine mIf_pos rfl ?_
      rw [mRet_ap, mBind_ap]
      refine mIf_pos rfl ?_
      rw [mRet_ap]
      exact fin true (by rw [inG_next, h1]; rfl)
    | false =>
      refine mIf_neg rfl ?_
      simp only [mNil_some]
      refine gg_ld hs 1 rfl ha (show b < 64 by omega) ?_
      rw [mRet_ap, mBind_ap]
      cases h2 : (rows.getD a 0).testBit b with
      | true =>
        refine mIf_pos rfl ?_
        rw [mRet_ap]
        exact fin true (by rw [inG_next, h2]; simp)
      | false =>
        refine mIf_neg rfl ?_
        refine gg_ld hs 1 rfl (show b < 64 by omega) ha ?_
        rw [mRet_ap]
        exact fin _ (by rw [inG_next, h1, h2]; simp)
theorem ro3 (hg : GOk rows) {Q : Value → Hp → Prop} (hno : stuckN rows ≠ [] → ∀ h, Sep h0 h (aBlk r (gCells rows) :: R) → Q (.tuple #[.slice none 0 0, .bool false]) h)
    (next : stuckN rows = [] → ∀ h, Sep h0 h (aBlk lf (mCells (leftM rows 64)) :: aBlk r (gCells rows) :: R) → K_signalboxref39_Graph_Order_12 (some ⟨r, 0, none⟩) ⟨lf, 0, none⟩ (Sl.mk none 0 0) h Q) : ∀ (d a : Nat) (h : Hp), a + d = 64 → (∀ j, j < a → (reachN rows j).testBit j = false) → Sep h0 h (aBlk lf (mCells (gM rows a)) :: aBlk r (gCells rows) :: R) →
    K_signalboxref39_Graph_Order_3 (some ⟨r, 0, none⟩) ⟨lf, 0, none⟩ (a : Int) h Q
  | 0, a, h, ha, hr, hs => by
    have ha : a = 64 := by omega
    subst ha
    apply S_signalboxref39_Graph_Order_3
    unfold B_signalboxref39_Graph_Order_3
    refine mIf_neg (by simp) ?_
    rw [gM_all hg] at hs
    refine next ?_ h hs
    have hz : ringM rows 64 = 0 := by
      apply Nat.eq_of_testBit_eq
      intro j
      rw [ringM_bit, Nat.zero_testBit]
      by_cases hj : j < 64
      · rw [hr j hj]; simp
      · simp [hj]
    unfold stuckN
    refine List.filter_eq_nil_iff.2 fun i _ => ?_
    unfold stuckB
    rw [hz]; simp
  | d + 1, a, h, ha, hr, hs => by
    apply S_signalboxref39_Graph_Order_3
    unfold B_signalboxref39_Graph_Order_3
    refine mIf_pos (by simp; omega) ?_
    rw [mBind_ap]
    refine (rReach_s hg (show a < 64 by omega) hs.swap).mono ?_
    rintro v h ⟨rfl, hs⟩
    have hs := hs.swap
    simp only [unA_agg, List.toList_toArray]
    refine ⟨mCells_len, ?_⟩
    refine ⟨_, by omega, by rw [Int.toNat_natCast]; exact mCells_at (by omega), ?_⟩
    simp only [unB_bool]
    refine mIf_intro (fun hb => ?_) (fun hb => ?_)
    · exact hno (stuck_ring (by omega) hb) h hs.drop
    · refine ro8 hg (by omega) (fun h hs => ro3 hg hno next d (a + 1) h (by omega) (fun j hj => ?_) hs) 64 0 h rfl ?_
      · by_cases e : j = a
        · subst e; exact hb
        · exact hr j (by omega)
      · have : gMb rows a 0 = gM rows a := by unfold gMb inG; simp
        rw [this]; exact hs
end
end Go.Proofs.YtimpaammdmeocaaDoor
