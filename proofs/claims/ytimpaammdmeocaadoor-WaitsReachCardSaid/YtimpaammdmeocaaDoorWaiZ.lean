/- Who waits for whom: the plain graph's order, its second half. Conditions: none. -/
import Derived.Test.YtimpaammdmeocaaDoorWaiY
import Derived.Test.YtimpaammdmeocaaDoorSbW
namespace Go.Proofs.YtimpaammdmeocaaDoor
open Go Go.Sb
set_option linter.unusedSimpArgs false
set_option linter.unusedVariables false
section
variable {h0 h : Hp} {R : List As} {r lf : Nat} {rows : List Nat}
def frA (rows : List Nat) (m a c : Nat) : Bool := m.testBit a && !(List.range c).any fun b => (rows.getD a 0).testBit b && m.testBit b
theorem frA_next {m a c : Nat} : frA rows m a (c + 1) = (frA rows m a c && !((rows.getD a 0).testBit c && m.testBit c)) := by
  unfold frA
  rw [List.range_succ, List.any_append]
  simp [Bool.and_assoc]
def nxO (rows : List Nat) (m k : Nat) : Option Nat := ((List.range 64).drop k).find? fun a => m.testBit a && freeB rows m a
def nxI (o : Option Nat) : Int := match o with
  | some a => (a : Int)
  | none => -1
theorem nxO_zero {m : Nat} : nxO rows m 0 = (lsN m).find? (freeB rows m) := by
  unfold nxO lsN
  rw [List.drop_zero, List.find?_filter]
  congr 1
  funext a
  rw [Bool.eq_iff_iff]
  simp
theorem nxO_step {m k : Nat} (hk : k < 64) : nxO rows m k = if m.testBit k && freeB rows m k then some k else nxO rows m (k + 1) := by
  unfold nxO
  rw [List.drop_eq_getElem_cons (by simpa using hk), List.find?_cons, List.getElem_range]
  cases m.testBit k && freeB rows m k <;> rfl
theorem ro18 (hg : GOk rows) {m a : Nat} {o : Sl} {nx : Int} {xs : List Int} (ha : a < 64) {Q : Value → Hp → Prop}
    (next : ∀ h, Sep h0 h (aBlk lf (mCells m) :: aBlk r (gCells rows) :: aRow encI 1 o xs :: R) → K_signalboxref39_Graph_Order_14 (some ⟨r, 0, none⟩) ⟨lf, 0, none⟩ o (if frA rows m a 64 then (a : Int) else nx) ((a : Int) - 1) h Q) : ∀ (d c : Nat) (h : Hp), c + d = 64 → Sep h0 h (aBlk lf (mCells m) :: aBlk r (gCells rows) :: aRow encI 1 o xs :: R) →
    K_signalboxref39_Graph_Order_18 (some ⟨r, 0, none⟩) ⟨lf, 0, none⟩ o nx (a : Int) (frA rows m a c) (c : Int) h Q
  | 0, c, h, hc, hs => by
    have hc : c = 64 := by omega
    subst hc
    apply S_signalboxref39_Graph_Order_18
    unfold B_signalboxref39_Graph_Order_18
    refine mIf_neg (by simp) ?_
    rw [wrap64 _ (by omega)]
    have := next h hs
    refine mIf_intro (fun hb => ?_) (fun hb => ?_)
    · rw [hb] at this; exact this
    · rw [hb] at this; exact this
  | d + 1, c, h, hc, hs => by
    have ih := ro18 hg ha next d (c + 1)
    have hw : IntKind.i64.wrap ((c : Int) + 1) = ((c + 1 : Nat) : Int) := by rw [wrap64 _ (by omega)]; omega
    rw [frA_next] at ih
    apply S_signalboxref39_Graph_Order_18
    unfold B_signalboxref39_Graph_Order_18
    refine mIf_pos (by simp; omega) ?_
    rw [hw, mBind_ap]
    refine mIf_intro (fun h1 => ?_) (fun h1 => ?_)
    · rw [h1, Bool.true_and] at ih
      simp only [mNil_some]
      refine gg_ld hs 1 rfl ha (show c < 64 by omega) ?_
      rw [mBind_ap]
      refine mIf_intro (fun h2 => ?_) (fun h2 => ?_)
      · rw [h2, Bool.true_and] at ih
        refine m_ld hs 0 rfl (show c < 64 by omega) ?_
        rw [mRet_ap, mRet_ap]
        exact ih h (by omega) hs
      · rw [h2, Bool.false_and] at ih
        rw [mRet_ap, mRet_ap]
        exact ih h (by omega) hs
    · rw [h1, Bool.false_and] at ih
      rw [mRet_ap]
      exact ih h (by omega) hs
theorem ro14 (hg : GOk rows) {m : Nat} {o : Sl} {xs : List Int} (hm : m < 2 ^ 64) {Q : Value → Hp → Prop}
    (fin : ∀ h, Sep h0 h (aBlk lf (mCells m) :: aBlk r (gCells rows) :: aRow encI 1 o xs :: R) → K_signalboxref39_Graph_Order_14 (some ⟨r, 0, none⟩) ⟨lf, 0, none⟩ o (nxI (nxO rows m 0)) (-1) h Q) : ∀ (k : Nat) (h : Hp), k ≤ 64 → Sep h0 h (aBlk lf (mCells m) :: aBlk r (gCells rows) :: aRow encI 1 o xs :: R) →
    K_signalboxref39_Graph_Order_14 (some ⟨r, 0, none⟩) ⟨lf, 0, none⟩ o (nxI (nxO rows m k)) ((k : Int) - 1) h Q
  | 0, h, hk, hs => fin h hs
  | k + 1, h, hk, hs => by
    apply S_signalboxref39_Graph_Order_14
    unfold B_signalboxref39_Graph_Order_14
    rw [show ((k + 1 : Nat) : Int) - 1 = (k : Int) by omega]
    refine mIf_pos (by simp) ?_
    refine m_ld hs 0 rfl (show k < 64 by omega) ?_
    have e : frA rows m k 0 = m.testBit k := by unfold frA; simp
    rw [← e]
    refine ro18 hg (show k < 64 by omega) (fun h hs => ?_) 64 0 h rfl hs
    have := ro14 hg hm fin k h (by omega) hs
    rw [nxO_step (show k < 64 by omega), free_any hg hm] at this
    unfold frA
    cases hb : (m.testBit k && !(List.range 64).any fun b => (rows.getD k 0).testBit b && m.testBit b) with
    | true => rw [hb] at this; exact this
    | false => rw [hb] at this; exact this
theorem ro12 (hg : GOk rows) : ∀ (f m : Nat) (o : Sl) (xs : List Int) (h : Hp), (lsN m).length ≤ f → m < 2 ^ 64 → xs.length + (lsN m).length ≤ 64 → Sep h0 h (aBlk lf (mCells m) :: aBlk r (gCells rows) :: aRow encI 1 o xs :: R) →
    K_signalboxref39_Graph_Order_12 (some ⟨r, 0, none⟩) ⟨lf, 0, none⟩ o h (fun v h' => ∃ o : Sl, v = .tuple #[.slice o.p o.n o.c, .bool true] ∧ Sep h0 h' (aRow encI 1 o (xs ++ (ordF rows f m).map Int.ofNat) :: aBlk r (gCells rows) :: R))
  | f, m, o, xs, h, hf, hm, hx, hs => by
    apply S_signalboxref39_Graph_Order_12
    unfold B_signalboxref39_Graph_Order_12
    refine ro14 hg hm (fun h hs => ?_) 64 h (Nat.le_refl _) hs
    apply S_signalboxref39_Graph_Order_14
    unfold B_signalboxref39_Graph_Order_14
    refine mIf_neg (by simp) ?_
    rw [nxO_zero]
    cases hfd : (lsN m).find? (freeB rows m) with
    | none =>
      refine mIf_pos rfl ?_
      have : ordF rows f m = [] := by
        cases f with
        | zero => rfl
        | succ f => simp [ordF, hfd]
      rw [this, List.map_nil, List.append_nil]
      exact ⟨o, rfl, hs.drop.swap⟩
    | some a =>
      have ham := mem_lsN.1 (List.mem_of_find?_eq_some hfd)
      have hoc := off_cnt hm ham.1 ham.2
      obtain ⟨f, rfl⟩ : ∃ e, f = e + 1 := ⟨f - 1, by omega⟩
      refine mIf_neg (decide_eq_false (show ¬ (a : Int) < 0 by omega)) ?_
      refine g_ix ham.1 ?_
      refine hs.st 0 rfl (by rw [mCells_at ham.1]; rfl) rfl fun h hs => ?_
      rw [List.set_cons_zero, mCells_off ham.1] at hs
      refine Sep.new hs fun b h hs => ?_
      refine hs.app1 3 0 (a : Int) rfl rfl (fun _ => rfl) (by intro v hv; simp at hv; subst hv; rfl) rfl (by omega) (by omega) fun s' h hn hs => ?_
      simp only [List.set_cons_succ, List.set_cons_zero] at hs
      refine (ro12 hg f _ s' _ h (by omega) offN_lt (by simp; omega) hs.drop).mono ?_
      rintro v h ⟨o, rfl, hs⟩
      refine ⟨o, rfl, ?_⟩
      simp only [ordF, hfd, List.map_cons]
      simpa using hs
theorem rOrder_s (hg : GOk rows) (hs : Sep h0 h (aBlk r (gCells rows) :: R)) : N_signalboxref39_Graph_Order (some ⟨r, 0, none⟩) h (fun v h' => ∃ o : Sl, v = .tuple #[.slice o.p o.n o.c, .bool (stuckN rows).isEmpty] ∧ Sep h0 h' (aRow encI 1 o ((if (stuckN rows).isEmpty then ordN rows else []).map Int.ofNat) :: aBlk r (gCells rows) :: R)) := by
  apply S_signalboxref39_Graph_Order
  unfold B_signalboxref39_Graph_Order
  refine Sep.new hs fun lf h hs => ?_
  have hs : Sep h0 h (aBlk lf (mCells 0) :: aBlk r (gCells rows) :: R) := hs
  have hs : Sep h0 h (aBlk lf (mCells (gM rows 0)) :: aBlk r (gCells rows) :: R) := by rw [show gM rows 0 = 0 from rfl]; exact hs
  refine ro3 hg (fun hne h hs => ?_) (fun he h hs => ?_) 64 0 h rfl (fun j hj => by omega) hs
  · have : (stuckN rows).isEmpty = false := by
      cases e : stuckN rows with
      | nil => exact absurd e hne
      | cons a l => rfl
    simp only [this, Bool.false_eq_true, if_false, List.map_nil]
    exact ⟨⟨none, 0, 0⟩, rfl, hs.nilRow encI 1⟩
  · rw [he]
    simp only [List.isEmpty_nil, if_true]
    have := ro12 (R := R) hg 64 (leftM rows 64) ⟨none, 0, 0⟩ [] h ls_len (leftM_lt hg 64 (by omega)) (by have := ls_len (w := leftM rows 64); simpa using this) ((hs.nilRow encI 1).reT 3 [1, 2, 0] rfl (by simp))
    simpa [ordN] using this
end
end Go.Proofs.YtimpaammdmeocaaDoor
