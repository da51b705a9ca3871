/- Who waits for whom: who is stuck, and the order. Conditions: none. -/
import Derived.Test.YtimpaammdmeocaaDoorWaiQ
import Derived.Test.YtimpaammdmeocaaDoorSbW
namespace Go.Proofs.YtimpaammdmeocaaDoor
open Go Go.Sb
set_option linter.unusedSimpArgs false
set_option linter.unusedVariables false
section plain
variable {rows : List Nat} {w : Nat}
theorem stepN_bit (hw : w < 2 ^ 64) {j : Nat} : (stepN rows w).testBit j = true ↔ ∃ c, w.testBit c = true ∧ (rows.getD c 0).testBit j = true := by
  unfold stepN
  rw [stepL_bit, Nat.zero_testBit, Bool.false_or, List.any_eq_true]
  constructor
  · rintro ⟨c, hc, h⟩
    exact ⟨c, (mem_lsN.1 hc).2, h⟩
  · rintro ⟨c, hc, h⟩
    exact ⟨c, mem_lsN.2 ⟨bit_lt hw hc, hc⟩, h⟩
theorem reachF_sub : ∀ (f s i : Nat), s.testBit i = true → (reachF rows f s).testBit i = true
  | 0, s, i, h => h
  | f + 1, s, i, h => by
    unfold reachF
    split
    · exact h
    · exact reachF_sub f _ i (or_sub s _ i h)
theorem reachF_least (hg : GOk rows) {P : Nat → Prop} (hP : ∀ c j, P c → (rows.getD c 0).testBit j = true → P j) : ∀ (f s : Nat), s < 2 ^ 64 → (∀ i, s.testBit i = true → P i) → ∀ i, (reachF rows f s).testBit i = true → P i
  | 0, s, _, h, i, hi => h i hi
  | f + 1, s, hs, h, i, hi => by
    unfold reachF at hi
    split at hi
    · exact h i hi
    · refine reachF_least hg hP f _ (Nat.or_lt_two_pow hs (stepN_lt hg s)) (fun j hj => ?_) i hi
      rw [Nat.testBit_or, Bool.or_eq_true] at hj
      rcases hj with hj | hj
      · exact h j hj
      · obtain ⟨c, hc, hc2⟩ := (stepN_bit hs).1 hj
        exact hP c j (h c hc) hc2
theorem reachF_fix (hg : GOk rows) : ∀ (f s : Nat), s < 2 ^ 64 → 64 ≤ f + (lsN s).length → reachF rows f s ||| stepN rows (reachF rows f s) = reachF rows f s
  | f, s, hs, hf => by
    by_cases hc : (s ||| stepN rows s) = s
    · have : reachF rows f s = s := by
        cases f with
        | zero => rfl
        | succ f => simp only [reachF, hc, if_true]
      rw [this, hc]
    · have hor := Nat.or_lt_two_pow hs (stepN_lt hg s)
      have hlt := cnt_lt hor (fun i hi => or_sub s _ i hi) hc
      have h64 := ls_len (w := s ||| stepN rows s)
      obtain ⟨f, rfl⟩ : ∃ e, f = e + 1 := ⟨f - 1, by omega⟩
      simp only [reachF, hc, if_false]
      exact reachF_fix hg f _ hor (by omega)
theorem reach_base {a j : Nat} (h : (rows.getD a 0).testBit j = true) : (reachN rows a).testBit j = true := reachF_sub _ _ _ h
theorem reach_step (hg : GOk rows) {a c j : Nat} (hc : (reachN rows a).testBit c = true) (h : (rows.getD c 0).testBit j = true) : (reachN rows a).testBit j = true := by
  have hfix : reachN rows a ||| stepN rows (reachN rows a) = reachN rows a := reachF_fix hg 64 _ (hg.at_ a) (by omega)
  rw [← hfix, Nat.testBit_or, (stepN_bit (reachN_lt hg a)).2 ⟨c, hc, h⟩]
  simp
theorem reach_least (hg : GOk rows) {a : Nat} {P : Nat → Prop} (h0 : ∀ j, (rows.getD a 0).testBit j = true → P j) (hP : ∀ c j, P c → (rows.getD c 0).testBit j = true → P j) : ∀ i, (reachN rows a).testBit i = true → P i :=
  reachF_least hg hP 64 _ (hg.at_ a) h0
def ringM (rows : List Nat) : Nat → Nat
  | 0 => 0
  | k + 1 => if (reachN rows k).testBit k then ringM rows k ||| 2 ^ k else ringM rows k
theorem ringM_lt : ∀ k, k ≤ 64 → ringM rows k < 2 ^ 64
  | 0, _ => Nat.two_pow_pos 64
  | k + 1, hk => by
    unfold ringM
    split
    · exact Nat.or_lt_two_pow (ringM_lt k (by omega)) (pow_lt (by omega))
    · exact ringM_lt k (by omega)
theorem ringM_bit : ∀ k j, (ringM rows k).testBit j = (decide (j < k) && (reachN rows j).testBit j)
  | 0, j => by simp [ringM]
  | k + 1, j => by
    unfold ringM
    split
    · rename_i h
      rw [Nat.testBit_or, ringM_bit k j, Nat.testBit_two_pow]
      by_cases hj : k = j
      · subst hj; simp [h]
      · by_cases hlt : j < k
        · have : j < k + 1 := by omega
          simp [hj, hlt, this]
        · have : ¬ j < k + 1 := by omega
          simp [hj, hlt, this]
    · rename_i h
      rw [ringM_bit k j]
      by_cases hj : k = j
      · subst hj; simp at h; simp [h]
      · by_cases hlt : j < k
        · have : j < k + 1 := by omega
          simp [hlt, this]
        · have : ¬ j < k + 1 := by omega
          simp [hlt, this]
def stuckB (rows : List Nat) (a : Nat) : Bool := ringM rows 64 &&& (2 ^ a ||| reachN rows a) != 0
def stuckN (rows : List Nat) : List Nat := (List.range 64).filter (stuckB rows)
theorem stuck_ring {a : Nat} (ha : a < 64) (h : (reachN rows a).testBit a = true) : stuckN rows ≠ [] := by
  have : a ∈ stuckN rows := by
    refine List.mem_filter.2 ⟨by simpa using ha, ?_⟩
    unfold stuckB
    simp only [bne_iff_ne, ne_eq]
    intro e
    have := congrArg (fun z => Nat.testBit z a) e
    simp [Nat.testBit_and, ringM_bit, ha, h] at this
  intro e
  rw [e] at this
  cases this
theorem exists_min (f : Nat → Nat) : ∀ l : List Nat, l ≠ [] → ∃ a ∈ l, ∀ b ∈ l, f a ≤ f b
  | [], h => absurd rfl h
  | [x], _ => ⟨x, by simp, by simp⟩
  | x :: y :: l, _ => by
    obtain ⟨a, ha, hm⟩ := exists_min f (y :: l) (by simp)
    by_cases h : f x ≤ f a
    · exact ⟨x, by simp, fun b hb => by
        rcases List.mem_cons.1 hb with rfl | hb
        · exact Nat.le_refl _
        · exact Nat.le_trans h (hm b hb)⟩
    · exact ⟨a, by simp [ha], fun b hb => by
        rcases List.mem_cons.1 hb with rfl | hb
        · omega
        · exact hm b hb⟩
def freeB (rows : List Nat) (left a : Nat) : Bool := rows.getD a 0 &&& left == 0
theorem find_free (hg : GOk rows) (hac : ∀ a, a < 64 → (reachN rows a).testBit a = false) {left : Nat} (hl : left < 2 ^ 64) (h0 : left ≠ 0) : ∃ a, (lsN left).find? (freeB rows left) = some a := by
  have hne : lsN left ≠ [] := by rw [ls_cons h0 hl]; simp
  obtain ⟨a, ha, hm⟩ := exists_min (fun a => (lsN (reachN rows a)).length) _ hne
  have hf : freeB rows left a = true := by
    unfold freeB
    simp only [beq_iff_eq]
    apply Nat.eq_of_testBit_eq
    intro j
    rw [Nat.testBit_and, Nat.zero_testBit]
    cases h1 : (rows.getD a 0).testBit j with
    | false => rfl
    | true =>
      cases h2 : left.testBit j with
      | false => rfl
      | true =>
        have hj : j < 64 := bit_lt hl h2
        have hle := hm j (mem_lsN.2 ⟨hj, h2⟩)
        have hlt := cnt_lt (s := reachN rows j) (m := reachN rows a) (reachN_lt hg a)
          (reach_least hg (fun i hi => reach_step hg (reach_base h1) hi) (fun c i hc hi => reach_step hg hc hi))
          (by
            intro e
            have := hac j hj
            rw [← e, reach_base h1] at this
            cases this)
        have hle : (lsN (reachN rows a)).length ≤ (lsN (reachN rows j)).length := hle
        omega
  cases hfd : (lsN left).find? (freeB rows left) with
  | some b => exact ⟨b, rfl⟩
  | none =>
    have := List.find?_eq_none.1 hfd a ha
    exact absurd hf this
def ordF (rows : List Nat) : Nat → Nat → List Nat
  | 0, _ => []
  | f + 1, left => match (lsN left).find? (freeB rows left) with
    | some a => a :: ordF rows f (offN left (2 ^ a))
    | none => []
def leftM (rows : List Nat) : Nat → Nat
  | 0 => 0
  | k + 1 => if rows.getD k 0 = 0 then leftM rows k ||| rows.getD k 0 else leftM rows k ||| rows.getD k 0 ||| 2 ^ k
def ordN (rows : List Nat) : List Nat := ordF rows 64 (leftM rows 64)
theorem leftM_lt (hg : GOk rows) : ∀ k, k ≤ 64 → leftM rows k < 2 ^ 64
  | 0, _ => Nat.two_pow_pos 64
  | k + 1, hk => by
    unfold leftM
    have := Nat.or_lt_two_pow (leftM_lt hg k (by omega)) (hg.at_ k)
    split
    · exact this
    · exact Nat.or_lt_two_pow this (pow_lt (by omega))
theorem off_cnt {left a : Nat} (hl : left < 2 ^ 64) (ha : a < 64) (h : left.testBit a = true) : (lsN (offN left (2 ^ a))).length < (lsN left).length := by
  refine cnt_lt hl (fun i hi => ?_) (fun e => ?_)
  · rw [testBit_off ha] at hi
    simp at hi
    exact hi.1.1
  · have := testBit_off (a := left) ha a
    rw [← e, h] at this
    simp at this
end plain
section
variable {h0 h : Hp} {R : List As} {w g : Nat} {rows : List Nat}
theorem st5 (hB : Base h0) (hg : GOk rows) {Q : Value → Hp → Prop} (next : ∀ h, Sep h0 h (aBlk g (cellsN rows) :: R) → K_waits_Graph_Stuck_12 (some ⟨g, 0, none⟩) ((ringM rows 64 : Nat) : Int) (Sl.mk none 0 0) 0 h Q) : ∀ (d k : Nat) (h : Hp), k + d = 64 → Sep h0 h (aBlk g (cellsN rows) :: R) →
    K_waits_Graph_Stuck_5 (some ⟨g, 0, none⟩) ((ringM rows k : Nat) : Int) (k : Int) h Q
  | 0, k, h, hk, hs => by
    have hk : k = 64 := by omega
    subst hk
    apply S_waits_Graph_Stuck_5
    unfold B_waits_Graph_Stuck_5
    refine mIf_neg (by simp) ?_
    exact next h hs
  | d + 1, k, h, hk, hs => by
    have ih := st5 hB hg next d (k + 1)
    apply S_waits_Graph_Stuck_5
    unfold B_waits_Graph_Stuck_5
    refine mIf_pos (by simp; omega) ?_
    rw [mBind_ap]
    refine (reach_s hB hg (by omega) hs).mono ?_
    rintro v h ⟨rfl, hs⟩
    simp only [unI_int]
    rw [mBind_ap]
    refine (bit_s (by omega)).mono ?_
    rintro v h ⟨rfl, rfl⟩
    simp only [unI_int]
    have hw : IntKind.i64.wrap ((k : Int) + 1) = ((k + 1 : Nat) : Int) := by rw [wrap64 _ (by omega)]; omega
    have hrl := ringM_lt (rows := rows) k (by omega)
    rw [iand_n (reachN_lt hg k) (pow_lt (by omega)), hw]
    refine mIf_intro (fun hc => ?_) (fun hc => ?_)
    · have hb : (reachN rows k).testBit k = true := by
        cases hb : (reachN rows k).testBit k with
        | true => rfl
        | false => rw [and_pow.2 hb] at hc; simp at hc
      rw [mBind_ap]
      refine (bit_s (by omega)).mono ?_
      rintro v h ⟨rfl, rfl⟩
      simp only [unI_int]
      rw [ior_n hrl (pow_lt (by omega))]
      have := ih h (by omega) hs
      simp only [ringM, hb, if_true] at this
      exact this
    · have hb : (reachN rows k).testBit k = false := and_pow.1 (by simpa using hc)
      have := ih h (by omega) hs
      simp only [ringM, hb, Bool.false_eq_true, if_false] at this
      exact this
theorem st12 (hB : Base h0) (hg : GOk rows) : ∀ (d k : Nat) (o : Sl) (h : Hp), k + d = 64 → Sep h0 h (aRow encI 1 o (((List.range k).filter (stuckB rows)).map Int.ofNat) :: aBlk g (cellsN rows) :: R) →
    K_waits_Graph_Stuck_12 (some ⟨g, 0, none⟩) ((ringM rows 64 : Nat) : Int) o (k : Int) h (fun v h' => ∃ o : Sl, v = .slice o.p o.n o.c ∧ Sep h0 h' (aRow encI 1 o ((stuckN rows).map Int.ofNat) :: aBlk g (cellsN rows) :: R))
  | 0, k, o, h, hk, hs => by
    have hk : k = 64 := by omega
    subst hk
    apply S_waits_Graph_Stuck_12
    unfold B_waits_Graph_Stuck_12
    refine mIf_neg (by simp) ?_
    exact ⟨o, rfl, hs⟩
  | d + 1, k, o, h, hk, hs => by
    have ih := st12 hB hg d (k + 1)
    have hfl : ((List.range k).filter (stuckB rows)).length ≤ k := by
      have := List.length_filter_le (stuckB rows) (List.range k)
      simpa using this
    apply S_waits_Graph_Stuck_12
    unfold B_waits_Graph_Stuck_12
    refine mIf_pos (by simp; omega) ?_
    rw [mBind_ap]
    refine (bit_s (by omega)).mono ?_
    rintro v h ⟨rfl, rfl⟩
    simp only [unI_int]
    rw [mBind_ap]
    refine (reach_s hB hg (by omega) hs.swap).mono ?_
    rintro v h ⟨rfl, hs⟩
    have hs := hs.swap
    simp only [unI_int]
    have hw : IntKind.i64.wrap ((k : Int) + 1) = ((k + 1 : Nat) : Int) := by rw [wrap64 _ (by omega)]; omega
    have hp := pow_lt (j := k) (by omega)
    have hrl := ringM_lt (rows := rows) 64 (by omega)
    rw [ior_n hp (reachN_lt hg k), iand_n hrl (Nat.or_lt_two_pow hp (reachN_lt hg k)), hw]
    have hst : (((ringM rows 64 &&& (2 ^ k ||| reachN rows k) : Nat) : Int) != 0) = stuckB rows k := by
      unfold stuckB
      rw [Bool.eq_iff_iff]
      simp
    rw [hst]
    rw [List.range_succ, List.filter_append] at ih
    refine mIf_intro (fun hc => ?_) (fun hc => ?_)
    · refine Sep.new hs fun b h hs => ?_
      refine hs.app1 1 0 (k : Int) rfl rfl (fun _ => rfl) (by intro v hv; simp at hv; subst hv; rfl) rfl (by omega) (by rw [List.length_map]; omega) fun s' h hn hs => ?_
      simp only [List.set_cons_succ, List.set_cons_zero] at hs
      refine ih s' h (by omega) ?_
      simp only [List.filter_cons, hc, if_true, List.filter_nil, List.map_append, List.map_cons, List.map_nil]
      exact hs.drop
    · refine ih o h (by omega) ?_
      simp only [List.filter_cons, hc, Bool.false_eq_true, if_false, List.filter_nil, List.append_nil]
      exact hs
theorem Stuck_s (hB : Base h0) (hg : GOk rows) (hs : Sep h0 h (aBlk g (cellsN rows) :: R)) : N_waits_Graph_Stuck (some ⟨g, 0, none⟩) h (fun v h' => ∃ o : Sl, v = .slice o.p o.n o.c ∧ Sep h0 h' (aRow encI 1 o ((stuckN rows).map Int.ofNat) :: aBlk g (cellsN rows) :: R)) := by
  apply S_waits_Graph_Stuck
  unfold B_waits_Graph_Stuck
  refine mIf_neg rfl ?_
  exact st5 hB hg (fun h hs => st12 hB hg 64 0 ⟨none, 0, 0⟩ h rfl (hs.nilRow encI 1)) 64 0 h rfl hs
theorem or16 (hg : GOk rows) {left a : Nat} {t37 o : Sl} {xs : List Int} {Q : Value → Hp → Prop} (hl : left < 2 ^ 64) (hx : xs.length ≤ 64)
    (next : ∀ (o : Sl) (h : Hp), Sep h0 h (aRow encI 1 o (xs ++ [(a : Int)]) :: aBlk g (cellsN rows) :: R) → K_waits_Graph_Order_14 (some ⟨g, 0, none⟩) ((offN left (2 ^ a) : Nat) : Int) o h Q) : ∀ (d k : Nat) (h : Hp), k + d = (lsN left).length → ((lsN left).drop k).find? (freeB rows left) = some a → Sep h0 h (aRow encI 1 t37 ((lsN left).map Int.ofNat) :: aRow encI 1 o xs :: aBlk g (cellsN rows) :: R) →
    K_waits_Graph_Order_16 (some ⟨g, 0, none⟩) (left : Int) o t37 (t37.n : Int) (k : Int) h Q
  | 0, k, h, hk, hf, hs => by
    rw [List.drop_of_length_le (by omega)] at hf
    cases hf
  | d + 1, k, h, hk, hf, hs => by
    have ih := or16 (t37 := t37) (o := o) hg hl hx next d (k + 1)
    have hn := hs.rowLen 0 rfl
    rw [List.length_map] at hn
    have hkl : k < (lsN left).length := by omega
    have h64 := ls_len (w := left)
    rw [List.drop_eq_getElem_cons hkl, List.find?_cons] at hf
    have hmem := mem_lsN.1 (List.getElem_mem hkl)
    apply S_waits_Graph_Order_16
    unfold B_waits_Graph_Order_16
    refine mIf_pos (by simp; omega) ?_
    refine hs.idx 0 rfl (by omega) (by rw [List.length_map]; omega) fun x hx' => ?_
    rw [Int.toNat_natCast] at hx'
    refine hs.ild 0 rfl hx' (by rw [List.length_map]; exact hkl) ?_
    rw [List.getElem_map]
    generalize (lsN left)[k] = c at hf hmem
    refine g_ld (R := aRow encI 1 t37 ((lsN left).map Int.ofNat) :: aRow encI 1 o xs :: R) hg (hs.front 2 rfl) (i := c) hmem.1 ?_
    rw [iand_n (hg.at_ c) hl]
    have hfb : (((rows.getD c 0 &&& left : Nat) : Int) == 0) = freeB rows left c := by
      unfold freeB
      rw [Bool.eq_iff_iff]
      simp
    rw [hfb]
    refine mIf_intro (fun hc => ?_) (fun hc => ?_)
    · rw [hc] at hf
      simp only [Option.some.injEq] at hf
      subst hf
      refine Sep.new hs fun b h hs => ?_
      refine hs.app1 2 0 (c : Int) rfl rfl (fun _ => rfl) (by intro v hv; simp at hv; subst hv; rfl) rfl (by omega) (by omega) fun s' h hn hs => ?_
      simp only [List.set_cons_succ, List.set_cons_zero] at hs
      rw [mBind_ap]
      refine (bit_s (i := c) hmem.1).mono ?_
      rintro v h ⟨rfl, rfl⟩
      simp only [unI_int]
      rw [iandn_n hl (pow_lt hmem.1)]
      exact next s' h hs.drop.drop
    · rw [hc] at hf
      rw [wrap64 _ (by omega), show (k : Int) + 1 = ((k + 1 : Nat) : Int) by omega]
      exact ih h (by omega) hf hs
theorem or14 (hB : Base h0) (hg : GOk rows) (hac : ∀ a, a < 64 → (reachN rows a).testBit a = false) : ∀ (f left : Nat) (o : Sl) (xs : List Int) (h : Hp), (lsN left).length ≤ f → left < 2 ^ 64 → xs.length + (lsN left).length ≤ 64 → Sep h0 h (aRow encI 1 o xs :: aBlk g (cellsN rows) :: R) →
    K_waits_Graph_Order_14 (some ⟨g, 0, none⟩) (left : Int) o h (fun v h' => ∃ o : Sl, v = .tuple #[.slice o.p o.n o.c, .bool true] ∧ Sep h0 h' (aRow encI 1 o (xs ++ (ordF rows f left).map Int.ofNat) :: aBlk g (cellsN rows) :: R))
  | f, left, o, xs, h, hf, hl, hx, hs => by
    apply S_waits_Graph_Order_14
    unfold B_waits_Graph_Order_14
    refine mIf_intro (fun hc => ?_) (fun hc => ?_)
    · have hz : left ≠ 0 := by simpa using hc
      obtain ⟨a, ha⟩ := find_free hg hac hl hz
      have ham := mem_lsN.1 (List.mem_of_find?_eq_some ha)
      have hoc := off_cnt hl ham.1 ham.2
      obtain ⟨f, rfl⟩ : ∃ e, f = e + 1 := ⟨f - 1, by omega⟩
      rw [mBind_ap]
      refine (list_s hB hl hs).mono ?_
      rintro v h ⟨t37, rfl, hs⟩
      simp only [unL_slice]
      refine or16 hg hl (by omega) (fun o' h hs => ?_) (lsN left).length 0 h (Nat.zero_add _) ha hs
      refine (or14 hB hg hac f _ o' _ h (by omega) offN_lt (by simp; omega) hs).mono ?_
      rintro v h ⟨o, rfl, hs⟩
      refine ⟨o, rfl, ?_⟩
      simp only [ordF, ha, List.map_cons]
      simpa using hs
    · have hz : left = 0 := by simpa using hc
      subst hz
      have : ordF rows f 0 = [] := by
        cases f with
        | zero => rfl
        | succ f => simp [ordF, lsN_zero]
      rw [this, List.map_nil, List.append_nil]
      exact ⟨o, rfl, hs⟩
theorem or7 (hg : GOk rows) {Q : Value → Hp → Prop} (next : ∀ h, Sep h0 h (aBlk g (cellsN rows) :: R) → K_waits_Graph_Order_14 (some ⟨g, 0, none⟩) ((leftM rows 64 : Nat) : Int) (Sl.mk none 0 0) h Q) : ∀ (d k : Nat) (h : Hp), k + d = 64 → Sep h0 h (aBlk g (cellsN rows) :: R) →
    K_waits_Graph_Order_7 (some ⟨g, 0, none⟩) ((leftM rows k : Nat) : Int) (cellsN rows) (k : Int) h Q
  | 0, k, h, hk, hs => by
    have hk : k = 64 := by omega
    subst hk
    apply S_waits_Graph_Order_7
    unfold B_waits_Graph_Order_7
    refine mIf_neg (by simp) ?_
    exact next h hs
  | d + 1, k, h, hk, hs => by
    have ih := or7 hg next d (k + 1)
    apply S_waits_Graph_Order_7
    unfold B_waits_Graph_Order_7
    refine mIf_pos (by simp; omega) ?_
    refine ⟨by unfold cellsN; rw [List.length_map, hg.len], ?_⟩
    refine ⟨_, by omega, by rw [Int.toNat_natCast]; exact g_cell hg (by omega), ?_⟩
    simp only [unI_int]
    have hw : IntKind.i64.wrap ((k : Int) + 1) = ((k + 1 : Nat) : Int) := by rw [wrap64 _ (by omega)]; omega
    have hll := leftM_lt hg k (by omega)
    rw [ior_n hll (hg.at_ k), hw]
    refine mIf_intro (fun hc => ?_) (fun hc => ?_)
    · have hz : rows.getD k 0 ≠ 0 := by simpa using hc
      rw [mBind_ap]
      refine (bit_s (by omega)).mono ?_
      rintro v h ⟨rfl, rfl⟩
      simp only [unI_int]
      rw [ior_n (Nat.or_lt_two_pow hll (hg.at_ k)) (pow_lt (by omega))]
      have := ih h (by omega) hs
      simp only [leftM, hz, if_false] at this
      exact this
    · have hz : rows.getD k 0 = 0 := by simpa using hc
      have := ih h (by omega) hs
      simp only [leftM, if_pos hz] at this
      exact this
theorem Order_s (hB : Base h0) (hg : GOk rows) (hs : Sep h0 h (aBlk g (cellsN rows) :: R)) : N_waits_Graph_Order (some ⟨g, 0, none⟩) h (fun v h' => ∃ o : Sl, v = .tuple #[.slice o.p o.n o.c, .bool (stuckN rows).isEmpty] ∧ Sep h0 h' (aRow encI 1 o ((if (stuckN rows).isEmpty then ordN rows else []).map Int.ofNat) :: aBlk g (cellsN rows) :: R)) := by
  apply S_waits_Graph_Order
  unfold B_waits_Graph_Order
  refine mIf_neg rfl ?_
  rw [mBind_ap]
  refine (Stuck_s hB hg hs).mono ?_
  rintro v h ⟨o, rfl, hs⟩
  have hn := hs.rowLen 0 rfl
  rw [List.length_map] at hn
  simp only [unL_slice]
  have hs := hs.drop
  refine mIf_intro (fun hc => ?_) (fun hc => ?_)
  · have : (stuckN rows).isEmpty = false := by
      cases hst : stuckN rows with
      | nil => rw [hst] at hn; simp at hc; simp at hn; omega
      | cons a l => rfl
    simp only [this, Bool.false_eq_true, if_false, List.map_nil]
    exact ⟨⟨none, 0, 0⟩, rfl, hs.nilRow encI 1⟩
  · have he : stuckN rows = [] := by
      cases hst : stuckN rows with
      | nil => rfl
      | cons a l => rw [hst] at hn; simp at hc; simp at hn; omega
    have hac : ∀ a, a < 64 → (reachN rows a).testBit a = false := by
      intro a ha
      cases hb : (reachN rows a).testBit a with
      | false => rfl
      | true => exact absurd he (stuck_ring ha hb)
    rw [he]
    simp only [List.isEmpty_nil, if_true, mNil_some]
    refine ⟨cellsN rows, ?_, ?_⟩
    · have hlen : (cellsN rows).length = 64 := by unfold cellsN; rw [List.length_map, hg.len]
      rw [hcells_blk (hs.blk 0 rfl) 64 0 0 (by omega), List.drop_zero, List.take_of_length_le (by omega)]
    · refine or7 hg (fun h hs => ?_) 64 0 h rfl hs
      have := or14 (R := R) hB hg hac 64 (leftM rows 64) ⟨none, 0, 0⟩ [] h ls_len (leftM_lt hg 64 (by omega)) (by have := ls_len (w := leftM rows 64); simpa using this) (hs.nilRow encI 1)
      simpa [ordN] using this
end
end Go.Proofs.YtimpaammdmeocaaDoor
