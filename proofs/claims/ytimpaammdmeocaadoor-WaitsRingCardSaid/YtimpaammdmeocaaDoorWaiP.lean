/- Who waits for whom: the plain graph's ring, and the law WaitsRing. Conditions: none. -/
import Derived.Test.YtimpaammdmeocaaDoorWaiN
import Derived.Test.YtimpaammdmeocaaDoorSbW
namespace Go.Proofs.YtimpaammdmeocaaDoor
open Go Go.Sb
set_option linter.unusedSimpArgs false
set_option linter.unusedVariables false
section plain
variable {rows : List Nat}
theorem ringE (hg : GOk rows) {a : Nat} (ha : a < 64) : ∀ (l last : Nat), last < 64 → (backL rows a (l + 1)).testBit last = true →
    (last :: ringL rows a l last).length = l + 1 ∧ ∀ i, i < l + 1 → (last :: ringL rows a l last).getD i 0 < 64 ∧ (rows.getD ((last :: ringL rows a l last).getD i 0) 0).testBit (if i < l then (last :: ringL rows a l last).getD (i + 1) 0 else a) = true
  | 0, last, h1, h2 => by
    refine ⟨rfl, fun i hi => ?_⟩
    obtain rfl : i = 0 := by omega
    refine ⟨h1, ?_⟩
    have := ((back_bit ha).1 h2).2
    unfold backL at this
    rw [ne_eq, and_pow] at this
    simpa using this
  | l + 1, last, h1, h2 => by
    have hnz := back_next h2
    have hbl := backL_lt (rows := rows) ha (l + 1)
    have hand : rows.getD last 0 &&& backL rows a (l + 1) < 2 ^ 64 := Nat.and_lt_two_pow _ hbl
    obtain ⟨c1, c2, _, _⟩ := low_bits hnz hand
    rw [Nat.testBit_and, Bool.and_eq_true] at c2
    obtain ⟨e1, e2⟩ := ringE hg ha l _ c1 c2.2
    have hr : ringL rows a (l + 1) last = Lib.ctz 64 (rows.getD last 0 &&& backL rows a (l + 1)) :: ringL rows a l (Lib.ctz 64 (rows.getD last 0 &&& backL rows a (l + 1))) := rfl
    rw [hr]
    generalize Lib.ctz 64 (rows.getD last 0 &&& backL rows a (l + 1)) = nx at *
    refine ⟨by rw [List.length_cons, e1], fun i hi => ?_⟩
    cases i with
    | zero =>
      refine ⟨h1, ?_⟩
      rw [if_pos (by omega)]
      exact c2.1
    | succ i =>
      have := e2 i (by omega)
      rw [List.getD_cons_succ, List.getD_cons_succ]
      refine ⟨this.1, ?_⟩
      have e : (i + 1 < l + 1) = (i < l) := by simp
      simp only [e]
      exact this.2
theorem fA_some {s : Nat} : ∀ (d a0 a : Nat), fA rows s d a0 = some a → (backL rows a s).testBit a = true ∧ a < a0 + d
  | 0, a0, a, h => by cases h
  | d + 1, a0, a, h => by
    unfold fA at h
    split at h
    · rename_i hb
      cases h
      exact ⟨hb, by omega⟩
    · have := fA_some d (a0 + 1) a h
      exact ⟨this.1, by omega⟩
theorem fS_some : ∀ (d s0 s a : Nat), fS rows d s0 = some (s, a) → s0 ≤ s ∧ s < s0 + d ∧ (backL rows a s).testBit a = true ∧ a < 64
  | 0, s0, s, a, h => by cases h
  | d + 1, s0, s, a, h => by
    unfold fS at h
    split at h
    · rename_i a' he
      cases h
      have := fA_some 64 0 a he
      exact ⟨by omega, by omega, this.1, by omega⟩
    · have := fS_some d (s0 + 1) s a h
      exact ⟨by omega, by omega, this.2.2⟩
/-- a ring's parties: each waits for the next one -/
theorem ringN_edge (hg : GOk rows) : (ringN rows).length ≤ 64 ∧ ∀ i, i < (ringN rows).length → (ringN rows).getD i 0 < 64 ∧ (rows.getD ((ringN rows).getD i 0) 0).testBit ((ringN rows).getD ((i + 1) % (ringN rows).length) 0) = true := by
  unfold ringN
  split
  · exact ⟨by simp, fun i hi => by simp at hi⟩
  · split
    · rename_i s a hf
      obtain ⟨h1, h2, h3, h4⟩ := fS_some 64 1 s a hf
      obtain ⟨l, rfl⟩ : ∃ l, s = l + 1 := ⟨s - 1, by omega⟩
      obtain ⟨e1, e2⟩ := ringE hg h4 l a h4 h3
      rw [Nat.add_sub_cancel]
      refine ⟨by omega, fun i hi => ?_⟩
      rw [e1] at hi
      obtain ⟨g1, g2⟩ := e2 i hi
      refine ⟨g1, ?_⟩
      rw [e1]
      by_cases hl : i < l
      · rw [if_pos hl] at g2
        rw [Nat.mod_eq_of_lt (by omega)]
        exact g2
      · rw [if_neg hl] at g2
        rw [show i + 1 = l + 1 by omega, Nat.mod_self]
        exact g2
    · exact ⟨by simp, fun i hi => by simp at hi⟩
end plain
section
variable {h0 h : Hp} {R : List As} {g r : Nat} {rows : List Nat}
theorem cells_of {X : Type} {enc : X → List Value} {sz : Nat} {s : Sl} {xs : List X} {L : List As} (hs : Sep h0 h L) (k : Nat) (hk : L[k]? = some (aRow enc sz s xs)) (hl : ∀ x, (enc x).length = sz) : slcells h s s.n sz = some (xs.flatMap enc) := by
  obtain ⟨F, hF, _⟩ := hs.holds k hk
  exact aRow_cells hl hF
abbrev PQ (h0 : Hp) (r : Nat) (rows : List Nat) (R : List As) (res : Option (List Nat)) : Value → Hp → Prop := fun v h' => ∃ o : Sl, v = .slice o.p o.n o.c ∧ o.p.isNone = res.isNone ∧ Sep h0 h' (aRow encI 1 o ((res.getD []).map Int.ofNat) :: aBlk r (gCells rows) :: R)
theorem pt6 {to low s x : Nat} (hs64 : s + 1 < 64) (hx : x < 64)
    (ihp : ∀ (y : Nat) (h : Hp), y < 64 → Sep h0 h (aBlk r (gCells rows) :: R) → N_signalboxref39_Graph_path (some ⟨r, 0, none⟩) (y : Int) (to : Int) (low : Int) ((s + 1 : Nat) : Int) h (PQ h0 r rows R (pathN rows to low s y))) : ∀ (d k : Nat) (h : Hp), k + d = 64 → Sep h0 h (aBlk r (gCells rows) :: R) →
    K_signalboxref39_Graph_path_6 (some ⟨r, 0, none⟩) (x : Int) (to : Int) (low : Int) ((s + 1 + 1 : Nat) : Int) (k : Int) h (PQ h0 r rows R (pathT rows to low s x k))
  | 0, k, h, hk, hs => by
    have hk : k = 64 := by omega
    subst hk
    rw [pathT_end]
    apply S_signalboxref39_Graph_path_6
    unfold B_signalboxref39_Graph_path_6
    refine mIf_neg (by simp) ?_
    exact ⟨⟨none, 0, 0⟩, rfl, rfl, hs.nilRow encI 1⟩
  | d + 1, k, h, hk, hs => by
    have ih := pt6 hs64 hx ihp d (k + 1)
    have hw1 : IntKind.i64.wrap ((k : Int) + 1) = ((k + 1 : Nat) : Int) := by rw [wrap64 _ (by omega)]; omega
    rw [pathT_next (show k < 64 by omega)]
    apply S_signalboxref39_Graph_path_6
    unfold B_signalboxref39_Graph_path_6
    refine mIf_pos (by simp; omega) ?_
    rw [mNil_some]
    refine gg_ld hs 0 rfl hx (show k < 64 by omega) ?_
    rw [hw1]
    cases hb : (rows.getD x 0).testBit k with
    | false =>
      refine mIf_pos rfl ?_
      have := ih h (by omega) hs
      simpa using this
    | true =>
      refine mIf_neg rfl ?_
      rw [mBind_ap, wrap64 _ (by omega), show (((s + 1 + 1 : Nat) : Int) - 1) = ((s + 1 : Nat) : Int) by omega]
      refine (ihp k h (by omega) hs).mono ?_
      rintro v h ⟨o, rfl, hp, hs⟩
      simp only [unL_slice]
      cases hq : pathN rows to low s k with
      | none =>
        rw [hq] at hp hs
        refine mIf_neg (by rw [hp]; rfl) ?_
        have := ih h (by omega) hs.drop
        simpa using this
      | some q =>
        rw [hq] at hp hs
        have hlen := pathN_len s k q hq
        refine mIf_pos (by rw [hp]; rfl) ?_
        have hn := hs.rowLen 0 rfl
        refine Sep.new hs fun b h hs => ?_
        have hs := Blk.row (enc := encI) (xs := [(x : Int)]) (sz := 1) (n := 1) hs 0 rfl rfl rfl
        simp only [List.set_cons_zero] at hs
        refine hs.app_ 0 (q.map Int.ofNat) rfl (fun _ => rfl) (cells_of hs 1 rfl (fun _ => rfl)) hn (fun v hv => ?_) rfl (by omega) (by simp; omega) fun s' h hn' hs => ?_
        · obtain ⟨z, _, hz⟩ := List.mem_flatMap.1 hv
          simp at hz; subst hz; rfl
        · simp only [List.set_cons_zero] at hs
          have hs := hs.swap.drop
          refine ⟨s', rfl, ?_, ?_⟩
          · rw [row_some hs (k := 0) rfl (by simp)]; rfl
          · simpa using hs
theorem path_s {to low : Nat} (ht : to < 64) (hlo : low < 64) : ∀ (s x : Nat) (h : Hp), s < 64 → x < 64 → Sep h0 h (aBlk r (gCells rows) :: R) → N_signalboxref39_Graph_path (some ⟨r, 0, none⟩) (x : Int) (to : Int) (low : Int) ((s + 1 : Nat) : Int) h (PQ h0 r rows R (pathN rows to low s x))
  | 0, x, h, _, hx, hs => by
    apply S_signalboxref39_Graph_path
    unfold B_signalboxref39_Graph_path
    refine mIf_pos rfl ?_
    rw [mNil_some]
    refine gg_ld hs 0 rfl hx ht ?_
    unfold pathN
    cases hb : (rows.getD x 0).testBit to with
    | true =>
      refine mIf_pos rfl ?_
      refine Sep.new hs fun b h hs => ?_
      have hs := Blk.row (enc := encI) (xs := [(x : Int)]) (sz := 1) (n := 1) hs 0 rfl rfl rfl
      exact ⟨⟨some ⟨b, 0, none⟩, 1, 1⟩, rfl, rfl, hs⟩
    | false =>
      refine mIf_neg rfl ?_
      exact ⟨⟨none, 0, 0⟩, rfl, rfl, hs.nilRow encI 1⟩
  | s + 1, x, h, h64, hx, hs => by
    apply S_signalboxref39_Graph_path
    unfold B_signalboxref39_Graph_path
    refine mIf_neg (by simp; omega) ?_
    exact pt6 h64 hx (fun y h hy hs => path_s ht hlo s y h (by omega) hy hs) (64 - low) low h (by omega) hs
theorem rR12 (hg : GOk rows) {s : Nat} (hs64 : s < 64) {Q : Value → Hp → Prop}
    (some_ : ∀ (o : Sl) (a : Nat) (h : Hp), fA rows (s + 1) 64 0 = some a → Sep h0 h (aRow encI 1 o ((a :: ringL rows a s a).map Int.ofNat) :: aBlk r (gCells rows) :: R) → Q (.slice o.p o.n o.c) h)
    (none_ : ∀ (h : Hp), fA rows (s + 1) 64 0 = none → Sep h0 h (aBlk r (gCells rows) :: R) → K_signalboxref39_Graph_Ring_9 (some ⟨r, 0, none⟩) ((s + 1 + 1 : Nat) : Int) h Q) : ∀ (d a : Nat) (h : Hp), a + d = 64 → fA rows (s + 1) d a = fA rows (s + 1) 64 0 → Sep h0 h (aBlk r (gCells rows) :: R) →
    K_signalboxref39_Graph_Ring_12 (some ⟨r, 0, none⟩) ((s + 1 : Nat) : Int) (a : Int) h Q
  | 0, a, h, ha, he, hs => by
    apply S_signalboxref39_Graph_Ring_12
    unfold B_signalboxref39_Graph_Ring_12
    refine mIf_neg (by simp; omega) ?_
    rw [wrap64 _ (by omega), show (((s + 1 : Nat) : Int) + 1) = ((s + 1 + 1 : Nat) : Int) by omega]
    exact none_ h he.symm hs
  | d + 1, a, h, ha, he, hs => by
    have ih := rR12 hg hs64 some_ none_ d (a + 1)
    apply S_signalboxref39_Graph_Ring_12
    unfold B_signalboxref39_Graph_Ring_12
    refine mIf_pos (by simp; omega) ?_
    rw [mBind_ap]
    refine (path_s (low := a) (show a < 64 by omega) (by omega) s a h hs64 (by omega) hs).mono ?_
    rintro v h ⟨o, rfl, hp, hs⟩
    simp only [unL_slice]
    rw [pathN_back hg (by omega) s a (Nat.le_refl _) (by omega)] at hp hs
    unfold fA at he
    cases hb : (backL rows a (s + 1)).testBit a with
    | true =>
      simp only [hb, if_true] at he hs hp
      refine mIf_pos (by rw [hp]; rfl) ?_
      exact some_ o a h he.symm hs
    | false =>
      simp only [hb, Bool.false_eq_true, if_false] at he hs hp
      refine mIf_neg (by rw [hp]; rfl) ?_
      rw [wrap64 _ (by omega), show (a : Int) + 1 = ((a + 1 : Nat) : Int) by omega]
      exact ih h (by omega) he hs.drop
theorem rR9 (hg : GOk rows) : ∀ (d s : Nat) (h : Hp), s + d = 64 → Sep h0 h (aBlk r (gCells rows) :: R) →
    K_signalboxref39_Graph_Ring_9 (some ⟨r, 0, none⟩) ((s + 1 : Nat) : Int) h (fun v h' => ∃ o : Sl, v = .slice o.p o.n o.c ∧ Sep h0 h' (aRow encI 1 o ((match fS rows d (s + 1) with
      | some (s, a) => a :: ringL rows a (s - 1) a
      | none => []).map Int.ofNat) :: aBlk r (gCells rows) :: R))
  | 0, s, h, hd, hs => by
    apply S_signalboxref39_Graph_Ring_9
    unfold B_signalboxref39_Graph_Ring_9
    refine mIf_neg (by simp; omega) ?_
    exact ⟨⟨none, 0, 0⟩, rfl, hs.nilRow encI 1⟩
  | d + 1, s, h, hd, hs => by
    have ih := rR9 hg d (s + 1)
    apply S_signalboxref39_Graph_Ring_9
    unfold B_signalboxref39_Graph_Ring_9
    refine mIf_pos (by simp; omega) ?_
    refine rR12 hg (s := s) (by omega) (fun o a h he hs => ?_) (fun h he hs => ?_) 64 0 h rfl rfl hs
    · refine ⟨o, rfl, ?_⟩
      simp only [fS, he]
      exact hs
    · simp only [fS, he]
      exact ih h (by omega) hs
def anyR (rows : List Nat) (k : Nat) : Bool := (List.range k).any fun j => (reachN rows j).testBit j
theorem anyR_stuck : anyR rows 64 = !(stuckN rows).isEmpty := by
  cases hst : stuckN rows with
  | nil =>
    unfold anyR
    rw [Bool.eq_iff_iff]
    simp only [List.isEmpty_nil, List.any_eq_true, List.mem_range]
    constructor
    · rintro ⟨j, hj, h⟩
      exact absurd hst (stuck_ring hj h)
    · intro h; cases h
  | cons a l =>
    show anyR rows 64 = true
    apply Classical.byContradiction
    intro hc
    have hz : ringM rows 64 = 0 := by
      apply Nat.eq_of_testBit_eq
      intro j
      rw [ringM_bit, Nat.zero_testBit]
      by_cases hj : j < 64
      · cases hb : (reachN rows j).testBit j with
        | false => simp
        | true =>
          refine absurd ?_ hc
          unfold anyR
          exact List.any_eq_true.2 ⟨j, by simpa using hj, hb⟩
      · simp [hj]
    have : stuckN rows = [] := by
      unfold stuckN
      refine List.filter_eq_nil_iff.2 fun i _ => ?_
      unfold stuckB
      rw [hz]; simp
    rw [this] at hst
    cases hst
theorem rR3 (hg : GOk rows) : ∀ (d k : Nat) (h : Hp), k + d = 64 → Sep h0 h (aBlk r (gCells rows) :: R) →
    K_signalboxref39_Graph_Ring_3 (some ⟨r, 0, none⟩) (anyR rows k) (k : Int) h (fun v h' => ∃ o : Sl, v = .slice o.p o.n o.c ∧ Sep h0 h' (aRow encI 1 o ((ringN rows).map Int.ofNat) :: aBlk r (gCells rows) :: R))
  | 0, k, h, hk, hs => by
    have hk : k = 64 := by omega
    subst hk
    apply S_signalboxref39_Graph_Ring_3
    unfold B_signalboxref39_Graph_Ring_3
    refine mIf_neg (by simp) ?_
    rw [anyR_stuck, Bool.not_not]
    unfold ringN
    refine mIf_intro (fun hc => ?_) (fun hc => ?_)
    · rw [hc]
      simp only [if_true, List.map_nil]
      exact ⟨⟨none, 0, 0⟩, rfl, hs.nilRow encI 1⟩
    · rw [hc]
      simp only [Bool.false_eq_true, if_false]
      exact rR9 hg 64 0 h rfl hs
  | d + 1, k, h, hk, hs => by
    have ih := rR3 hg d (k + 1)
    have hw1 : IntKind.i64.wrap ((k : Int) + 1) = ((k + 1 : Nat) : Int) := by rw [wrap64 _ (by omega)]; omega
    have e : anyR rows (k + 1) = (anyR rows k || (reachN rows k).testBit k) := by
      unfold anyR
      rw [List.range_succ, List.any_append]
      simp
    rw [e] at ih
    apply S_signalboxref39_Graph_Ring_3
    unfold B_signalboxref39_Graph_Ring_3
    refine mIf_pos (by simp; omega) ?_
    rw [mBind_ap, hw1]
    refine mIf_intro (fun hc => ?_) (fun hc => ?_)
    · rw [mRet_ap]
      rw [hc, Bool.true_or] at ih
      exact ih h (by omega) hs
    · rw [mBind_ap]
      rw [hc, Bool.false_or] at ih
      refine (rReach_s hg (show k < 64 by omega) hs).mono ?_
      rintro v h ⟨rfl, hs⟩
      simp only [unA_agg, List.toList_toArray]
      refine ⟨mCells_len, ?_⟩
      refine ⟨_, by omega, by rw [Int.toNat_natCast]; exact mCells_at (by omega), ?_⟩
      simp only [unB_bool]
      rw [mRet_ap]
      exact ih h (by omega) hs
theorem rRing_s (hg : GOk rows) (hs : Sep h0 h (aBlk r (gCells rows) :: R)) : N_signalboxref39_Graph_Ring (some ⟨r, 0, none⟩) h (fun v h' => ∃ o : Sl, v = .slice o.p o.n o.c ∧ Sep h0 h' (aRow encI 1 o ((ringN rows).map Int.ofNat) :: aBlk r (gCells rows) :: R)) := by
  apply S_signalboxref39_Graph_Ring
  unfold B_signalboxref39_Graph_Ring
  exact rR3 hg 64 0 h rfl hs
theorem wg12 (hg : GOk rows) {got want : Sl} : ∀ (d k : Nat) (h : Hp), k + d = (ringN rows).length → Sep h0 h (aRow encI 1 got ((ringN rows).map Int.ofNat) :: aRow encI 1 want ((ringN rows).map Int.ofNat) :: aBlk r (gCells rows) :: R) →
    K_signalboxlaw39_WaitsRing_12 (some ⟨r, 0, none⟩) got want (got.n : Int) (k : Int) h (WFin h0)
  | 0, k, h, hk, hs => by
    have hn := hs.rowLen 0 rfl
    rw [List.length_map] at hn
    apply S_signalboxlaw39_WaitsRing_12
    unfold B_signalboxlaw39_WaitsRing_12
    refine mIf_neg (by simp; omega) ?_
    exact ⟨rfl, hs.under⟩
  | d + 1, k, h, hk, hs => by
    have ih := wg12 hg (got := got) (want := want) d (k + 1)
    have hn := hs.rowLen 0 rfl
    rw [List.length_map] at hn
    obtain ⟨hlen, hed⟩ := ringN_edge hg
    have hkl : k < (ringN rows).length := by omega
    obtain ⟨g1, g2⟩ := hed k hkl
    have hml : (k + 1) % (ringN rows).length < (ringN rows).length := Nat.mod_lt _ (by omega)
    have gd : ∀ i (hi : i < (ringN rows).length), (ringN rows)[i] = (ringN rows).getD i 0 := fun i hi => by simp [List.getD_eq_getElem?_getD, hi]
    have g3 : (ringN rows).getD ((k + 1) % (ringN rows).length) 0 < 64 := (hed _ hml).1
    have hw1 : IntKind.i64.wrap ((k : Int) + 1) = ((k + 1 : Nat) : Int) := by rw [wrap64 _ (by omega)]; omega
    apply S_signalboxlaw39_WaitsRing_12
    unfold B_signalboxlaw39_WaitsRing_12
    refine mIf_pos (by simp; omega) ?_
    refine row_at (k := 0) (i := k) hs rfl (by rw [List.length_map]; exact hkl) ?_
    refine row_at (k := 1) (i := k) hs rfl (by rw [List.length_map]; exact hkl) ?_
    rw [mBind_ap, hw1]
    refine mIf_neg (by simp) ?_
    refine row_at (k := 0) (i := k) hs rfl (by rw [List.length_map]; exact hkl) ?_
    refine ⟨by rw [hn]; omega, ?_⟩
    have e : Int.tmod ((k + 1 : Nat) : Int) (got.n : Int) = (((k + 1) % (ringN rows).length : Nat) : Int) := by rw [hn, Int.ofNat_tmod]
    rw [e]
    refine row_at (k := 0) (i := (k + 1) % (ringN rows).length) hs rfl (by rw [List.length_map]; exact hml) ?_
    rw [mNil_some, List.getElem_map, List.getElem_map, gd k hkl, gd _ hml]
    refine gg_ld hs 2 rfl g1 g3 ?_
    rw [g2, mRet_ap]
    refine mIf_neg rfl ?_
    exact ih h (by omega) hs
theorem WaitsRing_ok {t : Sl} {ps : List WPair} (hB : Base h0) (hl : RdE h0.size h0 WPair.enc 3 t ps) (_ : ∀ x ∈ ps, x.ok h0) : N_signalboxlaw39_WaitsRing t h0 (WFin h0) := by
  have hn := hl.n
  apply S_signalboxlaw39_WaitsRing
  unfold B_signalboxlaw39_WaitsRing
  rw [mBind_ap]
  refine (wfixed_s hB (Sep.init h0)).mono ?_
  rintro v h ⟨rfl, hu⟩
  simp only [unB_bool]
  refine mIf_neg rfl ?_
  refine mIf_intro (fun hc => ⟨rfl, hu⟩) (fun hc => ?_)
  simp only [decide_eq_false_iff_not] at hc
  rw [mBind_ap]
  refine (made_s hl (by omega) ((Sep.init h0).more hu)).mono ?_
  rintro v h ⟨g, r, rows, rfl, hg, hs⟩
  simp only [un3_tuple, unP_pointer, unB_bool]
  refine mIf_neg rfl ?_
  rw [mBind_ap]
  refine (Ring_s hB hg hs).mono ?_
  rintro v h ⟨o1, rfl, hs⟩
  simp only [unL_slice]
  rw [mBind_ap]
  refine (rRing_s hg (hs.front 2 rfl)).mono ?_
  rintro v h ⟨o2, rfl, hs⟩
  simp only [unL_slice]
  have l1 := hs.rowLen 0 rfl
  have l2 := hs.rowLen 2 rfl
  refine mIf_neg (by rw [l1, l2]; simp) ?_
  exact wg12 hg _ 0 h (Nat.zero_add _) (hs.re [2, 0, 1, 3] rfl)
end
end Go.Proofs.YtimpaammdmeocaaDoor
