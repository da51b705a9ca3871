/- Who waits for whom: what the calls on a graph answer. Conditions: none. -/
import Derived.Test.YtimpaammdmeocaaDoorWaiL
import Derived.Test.YtimpaammdmeocaaDoorSbW
namespace Go.Proofs.YtimpaammdmeocaaDoor
open Go Go.Sb
set_option linter.unusedSimpArgs false
set_option linter.unusedVariables false
theorem filter_lt {f g : Nat → Bool} : ∀ (l : List Nat), (∀ x ∈ l, f x = true → g x = true) → (∃ x ∈ l, g x = true ∧ f x = false) → (l.filter f).length < (l.filter g).length
  | [], _, h => by obtain ⟨x, hx, _⟩ := h; cases hx
  | y :: l, h1, h2 => by
    have hle : ∀ l : List Nat, (∀ x ∈ l, f x = true → g x = true) → (l.filter f).length ≤ (l.filter g).length := by
      intro l
      induction l with
      | nil => simp
      | cons z l ih =>
        intro h
        have := ih fun x hx => h x (by simp [hx])
        have hz := h z (by simp)
        rw [List.filter_cons, List.filter_cons]
        cases hf : f z with
        | true => rw [hz hf]; simpa using this
        | false =>
          cases g z
          · simpa using this
          · simp; omega
    have hy := h1 y (by simp)
    rw [List.filter_cons, List.filter_cons]
    by_cases hc : ∃ x ∈ l, g x = true ∧ f x = false
    · have := filter_lt l (fun x hx => h1 x (by simp [hx])) hc
      cases hf : f y with
      | true => rw [hy hf]; simpa using this
      | false =>
        cases g y
        · simpa using this
        · simp; omega
    · obtain ⟨x, hx, hx1, hx2⟩ := h2
      rcases List.mem_cons.1 hx with rfl | hx
      · rw [hx1, hx2]
        have := hle l fun x hx => h1 x (by simp [hx])
        simp; omega
      · exact absurd ⟨x, hx, hx1, hx2⟩ hc
theorem bit_lt {w i : Nat} (hw : w < 2 ^ 64) (h : w.testBit i = true) : i < 64 := by
  rcases Nat.lt_or_ge i 64 with h' | h'
  · exact h'
  · have : w < 2 ^ i := Nat.lt_of_lt_of_le hw (Nat.pow_le_pow_right (by omega) h')
    rw [Nat.testBit_lt_two_pow this] at h
    cases h
theorem cnt_lt {s m : Nat} (hm : m < 2 ^ 64) (hsub : ∀ i, s.testBit i = true → m.testBit i = true) (hne : m ≠ s) : (lsN s).length < (lsN m).length := by
  refine filter_lt _ (fun x _ h => hsub x h) ?_
  apply Classical.byContradiction
  intro hc
  apply hne
  apply Nat.eq_of_testBit_eq
  intro i
  cases h1 : m.testBit i with
  | false =>
    cases h2 : s.testBit i with
    | false => rfl
    | true => rw [hsub i h2] at h1; cases h1
  | true =>
    cases h2 : s.testBit i with
    | true => rfl
    | false => exact absurd ⟨i, by simpa using bit_lt hm h1, h1, h2⟩ hc
def reachF (rows : List Nat) : Nat → Nat → Nat
  | 0, s => s
  | f + 1, s => if (s ||| stepN rows s) = s then s else reachF rows f (s ||| stepN rows s)
def reachN (rows : List Nat) (a : Nat) : Nat := reachF rows 64 (rows.getD a 0)
theorem stepN_lt {rows : List Nat} (hg : GOk rows) (w : Nat) : stepN rows w < 2 ^ 64 := stepL_lt hg _ _ (by omega)
theorem or_sub (s x i : Nat) (h : s.testBit i = true) : (s ||| x).testBit i = true := by rw [Nat.testBit_or, h]; rfl
theorem and_pow {w j : Nat} : (w &&& 2 ^ j = 0) ↔ w.testBit j = false := by
  constructor
  · intro h
    have := congrArg (fun z => Nat.testBit z j) h
    simpa [Nat.testBit_and, Nat.testBit_two_pow] using this
  · intro h
    apply Nat.eq_of_testBit_eq
    intro i
    rw [Nat.testBit_and, Nat.testBit_two_pow, Nat.zero_testBit]
    by_cases hi : j = i
    · subst hi; simp [h]
    · simp [hi]
def inP (z : Int) : Bool := decide (0 ≤ z) && decide (z < 64)
def waitV (rows : List Nat) (a b : Int) : Int := if inP a && inP b then (if (rows.getD a.toNat 0).testBit b.toNat then 10 else 0) else 5
def waitR (rows : List Nat) (a b : Int) : List Nat := if inP a && inP b then rows.set a.toNat (rows.getD a.toNat 0 ||| 2 ^ b.toNat) else rows
def stopV (rows : List Nat) (a b : Int) : Bool := inP a && inP b && (rows.getD a.toNat 0).testBit b.toNat
def stopR (rows : List Nat) (a b : Int) : List Nat := if inP a && inP b then rows.set a.toNat (offN (rows.getD a.toNat 0) (2 ^ b.toNat)) else rows
theorem or_same {w j : Nat} (h : w.testBit j = true) : w ||| 2 ^ j = w := by
  apply Nat.eq_of_testBit_eq
  intro i
  rw [Nat.testBit_or, Nat.testBit_two_pow]
  by_cases hi : j = i
  · subst hi; simp [h]
  · simp [hi]
theorem off_same {w j : Nat} (hw : w < 2 ^ 64) (hj : j < 64) (h : w.testBit j = false) : offN w (2 ^ j) = w := by
  apply Nat.eq_of_testBit_eq
  intro i
  rw [testBit_off hj]
  by_cases hi : i = j
  · subst hi; simp [h]
  · cases hb : w.testBit i with
    | false => simp
    | true => have := bit_lt hw hb; simp [hi, this]
theorem set_same {rows : List Nat} {i : Nat} : rows.set i (rows.getD i 0) = rows := by
  apply List.ext_getElem (by simp)
  intro j h1 h2
  rw [List.getElem_set]
  split
  · rename_i h; subst h; simp [List.getD_eq_getElem?_getD, h2]
  · rfl
theorem cells_set {rows : List Nat} {i w : Nat} : (cellsN rows).set i (.int .u64 (w : Int)) = cellsN (rows.set i w) := by
  unfold cellsN; rw [List.map_set]
theorem GOk.set {rows : List Nat} (hg : GOk rows) {i w : Nat} (hw : w < 2 ^ 64) : GOk (rows.set i w) := by
  refine ⟨by rw [List.length_set]; exact hg.len, fun x hx => ?_⟩
  rcases List.mem_or_eq_of_mem_set hx with h | h
  · exact hg.lt x h
  · rw [h]; exact hw
theorem pow_lt {j : Nat} (hj : j < 64) : 2 ^ j < 2 ^ 64 := Nat.pow_lt_pow_right (by omega) hj
section
variable {h0 h : Hp} {R : List As} {w g : Nat} {rows : List Nat}
theorem waitR_ok (hg : GOk rows) (a b : Int) : GOk (waitR rows a b) := by
  unfold waitR
  split
  · rename_i h
    refine hg.set (Nat.or_lt_two_pow (hg.at_ _) (pow_lt ?_))
    simp [inP] at h; omega
  · exact hg
theorem stopR_ok (hg : GOk rows) (a b : Int) : GOk (stopR rows a b) := by
  unfold stopR
  split
  · exact hg.set offN_lt
  · exact hg
theorem g_ix {α : Type} {K : Addr → M α} {Q : α → Hp → Prop} {i : Nat} (hi : i < 64) (hK : K ⟨g, i, none⟩ h Q) : mIdx ⟨some ⟨g, 0, none⟩, 64, 64⟩ (i : Int) 1 K h Q := by
  refine mIdx_of (by omega) (by omega) ?_
  rw [Int.toNat_natCast, Nat.mul_one, add_mk, Nat.zero_add]
  exact hK
theorem g_cell (hg : GOk rows) {i : Nat} (hi : i < 64) : (cellsN rows)[i]? = some (.int .u64 ((rows.getD i 0 : Nat) : Int)) := by
  unfold cellsN
  rw [List.getElem?_map, List.getElem?_eq_getElem (by rw [hg.len]; omega)]
  simp [List.getD_eq_getElem?_getD, show i < rows.length by rw [hg.len]; omega]
theorem Wait_s (hg : GOk rows) (a b : Int) (hs : Sep h0 h (aBlk g (cellsN rows) :: R)) : N_waits_Graph_Wait (some ⟨g, 0, none⟩) a b h (fun v h' => v = .int .i64 (waitV rows a b) ∧ Sep h0 h' (aBlk g (cellsN (waitR rows a b)) :: R)) := by
  apply S_waits_Graph_Wait
  unfold B_waits_Graph_Wait
  refine mIf_neg rfl ?_
  rw [mBind_ap]
  refine (is_s a).mono ?_
  rintro v h' ⟨rfl, rfl⟩
  simp only [unB_bool]
  have no : (inP a && inP b) = false → (mRet (.int .i64 (5 : Int)) : M Value) h' (fun v h' => v = .int .i64 (waitV rows a b) ∧ Sep h0 h' (aBlk g (cellsN (waitR rows a b)) :: R)) := by
    intro hc
    unfold waitV waitR
    rw [hc]
    exact ⟨rfl, hs⟩
  rw [mBind_ap]
  refine mIf_intro (fun hc => ?_) (fun hc => ?_)
  · rw [mRet_ap]
    refine mIf_pos rfl (no ?_)
    simp [inP] at hc ⊢; omega
  · rw [mBind_ap]
    refine (is_s b).mono ?_
    rintro v h' ⟨rfl, rfl⟩
    simp only [unB_bool]
    rw [mRet_ap]
    refine mIf_intro (fun hc2 => ?_) (fun hc2 => ?_)
    · refine no ?_
      simp [inP] at hc hc2 ⊢; omega
    · have hab : (inP a && inP b) = true := by simp [inP] at hc hc2 ⊢; omega
      unfold waitV waitR
      simp only [hab, if_true]
      obtain ⟨i, rfl⟩ : ∃ i : Nat, a = i := ⟨a.toNat, by simp at hc; omega⟩
      obtain ⟨j, rfl⟩ : ∃ i : Nat, b = i := ⟨b.toNat, by simp at hc2; omega⟩
      have hi : i < 64 := by simp at hc; omega
      have hj : j < 64 := by simp at hc2; omega
      rw [Int.toNat_natCast, Int.toNat_natCast]
      simp only [mNil_some]
      refine g_ld hg hs hi ?_
      refine mQ_intro _ (bit_s hj) ?_
      simp only [unI_int]
      rw [iand_n (hg.at_ i) (pow_lt hj)]
      refine mIf_intro (fun hc3 => ?_) (fun hc3 => ?_)
      · have hb : (rows.getD i 0).testBit j = true := by
          cases hb : (rows.getD i 0).testBit j with
          | true => rfl
          | false => rw [and_pow.2 hb] at hc3; simp at hc3
        rw [hb, or_same hb, set_same]
        exact ⟨rfl, hs⟩
      · have hb : (rows.getD i 0).testBit j = false := by
          apply and_pow.1
          simpa using hc3
        simp only [hb, Bool.false_eq_true, if_false]
        refine g_ix hi ?_
        have fin : ∀ h, Sep h0 h (aBlk g ((cellsN rows).set i (.int .u64 (ior .u64 ((rows.getD i 0 : Nat) : Int) ((2 ^ j : Nat) : Int)))) :: R) → (mRet (.int .i64 (0 : Int)) : M Value) h (fun v h' => v = .int .i64 0 ∧ Sep h0 h' (aBlk g (cellsN (rows.set i (rows.getD i 0 ||| 2 ^ j))) :: R)) := by
          intro h hs
          rw [ior_n (hg.at_ i) (pow_lt hj), cells_set] at hs
          exact ⟨rfl, hs⟩
        refine mAnd_intro ?_ ?_
        · refine hs.ldI 0 rfl (g_cell hg hi) ?_
          rw [mBind_ap]
          refine (bit_s hj).mono ?_
          rintro v h' ⟨rfl, rfl⟩
          simp only [unI_int]
          refine g_ix hi ?_
          exact hs.st 0 rfl (by rw [g_cell hg hi]; rfl) rfl fun h hs => fin h hs
        · rw [mBind_ap]
          refine (bit_s hj).mono ?_
          rintro v h' ⟨rfl, rfl⟩
          simp only [unI_int]
          refine hs.ldI 0 rfl (g_cell hg hi) ?_
          refine g_ix hi ?_
          exact hs.st 0 rfl (by rw [g_cell hg hi]; rfl) rfl fun h hs => fin h hs
theorem Stop_s (hg : GOk rows) (a b : Int) (hs : Sep h0 h (aBlk g (cellsN rows) :: R)) : N_waits_Graph_Stop (some ⟨g, 0, none⟩) a b h (fun v h' => v = .bool (stopV rows a b) ∧ Sep h0 h' (aBlk g (cellsN (stopR rows a b)) :: R)) := by
  apply S_waits_Graph_Stop
  unfold B_waits_Graph_Stop
  rw [mBind_ap]
  refine mIf_neg rfl ?_
  refine mQ_intro _ (is_s a) ?_
  simp only [unB_bool]
  rw [mRet_ap, mBind_ap]
  have no : (inP a && inP b) = false → (mRet (.bool false) : M Value) h (fun v h' => v = .bool (stopV rows a b) ∧ Sep h0 h' (aBlk g (cellsN (stopR rows a b)) :: R)) := by
    intro hc
    unfold stopV stopR
    rw [hc]
    exact ⟨rfl, hs⟩
  refine mIf_intro (fun hc => ?_) (fun hc => ?_)
  · rw [mRet_ap, mBind_ap]
    refine mIf_pos rfl ?_
    rw [mRet_ap]
    refine mIf_pos rfl (no ?_)
    simp [inP] at hc ⊢; omega
  · refine mQ_intro _ (is_s b) ?_
    simp only [unB_bool]
    rw [mRet_ap, mBind_ap]
    refine mIf_intro (fun hc2 => ?_) (fun hc2 => ?_)
    · rw [mRet_ap]
      refine mIf_pos rfl (no ?_)
      simp [inP] at hc hc2 ⊢; omega
    · have hab : (inP a && inP b) = true := by simp [inP] at hc hc2 ⊢; omega
      unfold stopV stopR
      simp only [hab, if_true, Bool.true_and]
      obtain ⟨i, rfl⟩ : ∃ i : Nat, a = i := ⟨a.toNat, by simp at hc; omega⟩
      obtain ⟨j, rfl⟩ : ∃ i : Nat, b = i := ⟨b.toNat, by simp at hc2; omega⟩
      have hi : i < 64 := by simp at hc; omega
      have hj : j < 64 := by simp at hc2; omega
      rw [Int.toNat_natCast, Int.toNat_natCast]
      simp only [mNil_some]
      refine g_ld hg hs hi ?_
      refine mQ_intro _ (bit_s hj) ?_
      simp only [unI_int]
      rw [iand_n (hg.at_ i) (pow_lt hj), mRet_ap]
      refine mIf_intro (fun hc3 => ?_) (fun hc3 => ?_)
      · have hb : (rows.getD i 0).testBit j = false := by
          apply and_pow.1
          simpa using hc3
        rw [hb, off_same (hg.at_ i) hj hb, set_same]
        exact ⟨rfl, hs⟩
      · have hb : (rows.getD i 0).testBit j = true := by
          cases hb : (rows.getD i 0).testBit j with
          | true => rfl
          | false => rw [and_pow.2 hb] at hc3; simp at hc3
        rw [hb]
        refine g_ix hi ?_
        have fin : ∀ h, Sep h0 h (aBlk g ((cellsN rows).set i (.int .u64 (iandn .u64 ((rows.getD i 0 : Nat) : Int) ((2 ^ j : Nat) : Int)))) :: R) → (mRet (.bool true) : M Value) h (fun v h' => v = .bool true ∧ Sep h0 h' (aBlk g (cellsN (rows.set i (offN (rows.getD i 0) (2 ^ j)))) :: R)) := by
          intro h hs
          rw [iandn_n (hg.at_ i) (pow_lt hj), cells_set] at hs
          exact ⟨rfl, hs⟩
        refine mAnd_intro ?_ ?_
        · refine hs.ldI 0 rfl (g_cell hg hi) ?_
          rw [mBind_ap]
          refine (bit_s hj).mono ?_
          rintro v h' ⟨rfl, rfl⟩
          simp only [unI_int]
          refine g_ix hi ?_
          exact hs.st 0 rfl (by rw [g_cell hg hi]; rfl) rfl fun h hs => fin h hs
        · rw [mBind_ap]
          refine (bit_s hj).mono ?_
          rintro v h' ⟨rfl, rfl⟩
          simp only [unI_int]
          refine hs.ldI 0 rfl (g_cell hg hi) ?_
          refine g_ix hi ?_
          exact hs.st 0 rfl (by rw [g_cell hg hi]; rfl) rfl fun h hs => fin h hs
theorem reach2 (hB : Base h0) (hg : GOk rows) : ∀ (d s : Nat) (h : Hp), 64 ≤ d + (lsN s).length → s < 2 ^ 64 → Sep h0 h (aBlk g (cellsN rows) :: R) →
    K_waits_Graph_reach_2 (some ⟨g, 0, none⟩) (s : Int) h (fun v h' => v = .int .u64 ((reachF rows d s : Nat) : Int) ∧ Sep h0 h' (aBlk g (cellsN rows) :: R))
  | d, s, h, hd, hw, hs => by
    apply S_waits_Graph_reach_2
    unfold B_waits_Graph_reach_2
    rw [mBind_ap]
    refine (step_s hB hg hw hs).mono ?_
    rintro v h' ⟨rfl, hs⟩
    simp only [unI_int]
    have hst := stepN_lt hg s
    rw [ior_n hw hst]
    have hor := Nat.or_lt_two_pow hw hst
    refine mIf_intro (fun hc => ?_) (fun hc => ?_)
    · have hc : (s ||| stepN rows s) = s := Int.ofNat_inj.1 (eq_of_beq hc)
      refine ⟨?_, hs⟩
      cases d with
      | zero => rfl
      | succ d => simp only [reachF, hc, if_true]
    · have hc : (s ||| stepN rows s) ≠ s := by
        intro e; rw [e] at hc; simp at hc
      have hlt := cnt_lt hor (fun i hi => or_sub s _ i hi) hc
      have h64 := ls_len (w := s ||| stepN rows s)
      obtain ⟨d, rfl⟩ : ∃ e, d = e + 1 := ⟨d - 1, by omega⟩
      simp only [reachF, hc, if_false]
      exact reach2 hB hg d _ h' (by omega) hor hs
theorem reach_s (hB : Base h0) (hg : GOk rows) {a : Nat} (ha : a < 64) (hs : Sep h0 h (aBlk g (cellsN rows) :: R)) : N_waits_Graph_reach (some ⟨g, 0, none⟩) (a : Int) h (fun v h' => v = .int .u64 ((reachN rows a : Nat) : Int) ∧ Sep h0 h' (aBlk g (cellsN rows) :: R)) := by
  apply S_waits_Graph_reach
  unfold B_waits_Graph_reach
  simp only [mNil_some]
  refine g_ld hg hs ha ?_
  exact reach2 hB hg 64 _ h (by omega) (hg.at_ a) hs
theorem reachF_lt (hg : GOk rows) : ∀ (f s : Nat), s < 2 ^ 64 → reachF rows f s < 2 ^ 64
  | 0, s, h => h
  | f + 1, s, h => by
    unfold reachF
    split
    · exact h
    · exact reachF_lt hg f _ (Nat.or_lt_two_pow h (stepN_lt hg s))
theorem reachN_lt (hg : GOk rows) (a : Nat) : reachN rows a < 2 ^ 64 := reachF_lt hg _ _ (hg.at_ a)
theorem Reach_s (hB : Base h0) (hg : GOk rows) (a : Int) (hs : Sep h0 h (aBlk g (cellsN rows) :: R)) : N_waits_Graph_Reach (some ⟨g, 0, none⟩) a h (fun v h' => ∃ o : Sl, v = .slice o.p o.n o.c ∧ Sep h0 h' (aRow encI 1 o ((if inP a then lsN (reachN rows a.toNat) else []).map Int.ofNat) :: aBlk g (cellsN rows) :: R)) := by
  apply S_waits_Graph_Reach
  unfold B_waits_Graph_Reach
  rw [mBind_ap]
  refine mIf_neg rfl ?_
  rw [mBind_ap]
  refine (is_s a).mono ?_
  rintro v h' ⟨rfl, rfl⟩
  simp only [unB_bool]
  rw [mRet_ap]
  refine mIf_intro (fun hc => ?_) (fun hc => ?_)
  · have hc : inP a = false := by simp [inP] at hc ⊢; omega
    simp only [hc, Bool.false_eq_true, if_false, List.map_nil]
    exact ⟨⟨none, 0, 0⟩, rfl, hs.nilRow encI 1⟩
  · have hin : inP a = true := by simp [inP] at hc ⊢; omega
    obtain ⟨i, rfl⟩ : ∃ i : Nat, a = i := ⟨a.toNat, by simp at hc; omega⟩
    simp only [hin, if_true, Int.toNat_natCast]
    rw [mBind_ap]
    refine (reach_s hB hg (by simp at hc; omega) hs).mono ?_
    rintro v h' ⟨rfl, hs⟩
    simp only [unI_int]
    rw [mBind_ap]
    refine (list_s hB (reachN_lt hg i) hs).mono ?_
    rintro v h ⟨o, rfl, hs⟩
    exact ⟨o, rfl, hs⟩
theorem Waits_s (hB : Base h0) (hg : GOk rows) (a : Int) (hs : Sep h0 h (aBlk g (cellsN rows) :: R)) : N_waits_Graph_Waits (some ⟨g, 0, none⟩) a h (fun v h' => ∃ o : Sl, v = .slice o.p o.n o.c ∧ Sep h0 h' (aRow encI 1 o ((if inP a then lsN (rows.getD a.toNat 0) else []).map Int.ofNat) :: aBlk g (cellsN rows) :: R)) := by
  apply S_waits_Graph_Waits
  unfold B_waits_Graph_Waits
  rw [mBind_ap]
  refine mIf_neg rfl ?_
  rw [mBind_ap]
  refine (is_s a).mono ?_
  rintro v h' ⟨rfl, rfl⟩
  simp only [unB_bool]
  rw [mRet_ap]
  refine mIf_intro (fun hc => ?_) (fun hc => ?_)
  · have hc : inP a = false := by simp [inP] at hc ⊢; omega
    simp only [hc, Bool.false_eq_true, if_false, List.map_nil]
    exact ⟨⟨none, 0, 0⟩, rfl, hs.nilRow encI 1⟩
  · have hin : inP a = true := by simp [inP] at hc ⊢; omega
    obtain ⟨i, rfl⟩ : ∃ i : Nat, a = i := ⟨a.toNat, by simp at hc; omega⟩
    simp only [hin, if_true, Int.toNat_natCast, mNil_some]
    refine g_ld hg hs (by simp at hc; omega) ?_
    rw [mBind_ap]
    refine (list_s hB (hg.at_ i) hs).mono ?_
    rintro v h ⟨o, rfl, hs⟩
    exact ⟨o, rfl, hs⟩
end
end Go.Proofs.YtimpaammdmeocaaDoor
