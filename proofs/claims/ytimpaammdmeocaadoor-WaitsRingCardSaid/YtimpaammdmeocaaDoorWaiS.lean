/- Who waits for whom: the rings. Conditions: none. -/
import Derived.Test.YtimpaammdmeocaaDoorWaiR
import Derived.Test.YtimpaammdmeocaaDoorSbW
namespace Go.Proofs.YtimpaammdmeocaaDoor
open Go Go.Sb
set_option linter.unusedSimpArgs false
set_option linter.unusedVariables false
abbrev encW : Int → List Value := fun z => [.int .u64 z]
def mayN (to : Nat) : Nat := 2 ^ 64 - 2 ^ to
def nextL (rows : List Nat) (last : Nat) (o : Nat) (l : List Nat) : Nat := l.foldl (fun o a => if rows.getD a 0 &&& last = 0 then o else o ||| 2 ^ a) o
def backL (rows : List Nat) (to : Nat) : Nat → Nat
  | 0 => 2 ^ to
  | n + 1 => nextL rows (backL rows to n) 0 (lsN (mayN to))
def ringL (rows : List Nat) (a : Nat) : Nat → Nat → List Nat
  | 0, _ => []
  | l + 1, last => Lib.ctz 64 (rows.getD last 0 &&& backL rows a (l + 1)) :: ringL rows a l (Lib.ctz 64 (rows.getD last 0 &&& backL rows a (l + 1)))
def fA (rows : List Nat) (s : Nat) : Nat → Nat → Option Nat
  | 0, _ => none
  | d + 1, a => if (backL rows a s).testBit a then some a else fA rows s d (a + 1)
def fS (rows : List Nat) : Nat → Nat → Option (Nat × Nat)
  | 0, _ => none
  | d + 1, s => match fA rows s 64 0 with
    | some a => some (s, a)
    | none => fS rows d (s + 1)
def ringN (rows : List Nat) : List Nat := if (stuckN rows).isEmpty then [] else match fS rows 64 1 with
  | some (s, a) => a :: ringL rows a (s - 1) a
  | none => []
section plain
variable {rows : List Nat}
theorem nextL_lt {last : Nat} : ∀ (l : List Nat) (o : Nat), (∀ i ∈ l, i < 64) → o < 2 ^ 64 → nextL rows last o l < 2 ^ 64
  | [], o, _, ho => ho
  | i :: l, o, hl, ho => by
    unfold nextL
    rw [List.foldl_cons]
    refine nextL_lt l _ (fun j hj => hl j (by simp [hj])) ?_
    split
    · exact ho
    · exact Nat.or_lt_two_pow ho (pow_lt (hl i (by simp)))
theorem nextL_bit {last : Nat} : ∀ (l : List Nat) (o j : Nat), (nextL rows last o l).testBit j = true ↔ o.testBit j = true ∨ (j ∈ l ∧ rows.getD j 0 &&& last ≠ 0)
  | [], o, j => by simp [nextL]
  | i :: l, o, j => by
    have : nextL rows last o (i :: l) = nextL rows last (if rows.getD i 0 &&& last = 0 then o else o ||| 2 ^ i) l := rfl
    rw [this, nextL_bit l]
    by_cases hz : rows.getD i 0 &&& last = 0
    · rw [if_pos hz]
      constructor
      · rintro (h | ⟨h, h2⟩)
        · exact .inl h
        · exact .inr ⟨by simp [h], h2⟩
      · rintro (h | ⟨h, h2⟩)
        · exact .inl h
        · rcases List.mem_cons.1 h with rfl | h
          · exact absurd hz h2
          · exact .inr ⟨h, h2⟩
    · rw [if_neg hz, Nat.testBit_or, Bool.or_eq_true, Nat.testBit_two_pow]
      constructor
      · rintro ((h | h) | ⟨h, h2⟩)
        · exact .inl h
        · have : i = j := by simpa using h
          subst this
          exact .inr ⟨by simp, hz⟩
        · exact .inr ⟨by simp [h], h2⟩
      · rintro (h | ⟨h, h2⟩)
        · exact .inl (.inl h)
        · rcases List.mem_cons.1 h with rfl | h
          · exact .inl (.inr (by simp))
          · exact .inr ⟨h, h2⟩
theorem ls_lt {w : Nat} : ∀ i ∈ lsN w, i < 64 := fun i hi => (mem_lsN.1 hi).1
theorem backL_lt {to : Nat} (ht : to < 64) : ∀ n, backL rows to n < 2 ^ 64
  | 0 => pow_lt ht
  | n + 1 => nextL_lt _ _ ls_lt (Nat.two_pow_pos 64)
theorem back_next {to n last : Nat} (h : (backL rows to (n + 1)).testBit last = true) : rows.getD last 0 &&& backL rows to n ≠ 0 := by
  unfold backL at h
  rcases (nextL_bit _ _ _).1 h with h | ⟨_, h⟩
  · simp at h
  · exact h
theorem row_some {X : Type} {enc : X → List Value} {sz k : Nat} {s : Sl} {xs : List X} {h0 h : Hp} {L : List As} (hs : Sep h0 h L) (hk : L[k]? = some (aRow enc sz s xs)) (hx : xs ≠ []) : s.p.isNone = false := by
  obtain ⟨F, hF, _⟩ := hs.holds k hk
  unfold aRow at hF
  obtain ⟨h1, h2⟩ := hF
  rcases h2 with ⟨hn, _⟩ | ⟨b, o, pre, rest, e1, _⟩
  · exact absurd (List.length_eq_zero_iff.1 (h1 ▸ hn)) hx
  · rw [e1]; rfl
end plain
section
variable {h0 h : Hp} {R : List As} {w g : Nat} {rows : List Nat}
theorem bk8 (hg : GOk rows) {may last m t20 : Nat} {o t29 : Sl} {xs : List Int} {Q : Value → Hp → Prop} (hlast : last < 2 ^ 64) (hx : xs.length ≤ 100) (ht : t20 ≤ 64)
    (next : ∀ (o : Sl) (h : Hp), Sep h0 h (aRow encW 1 o (xs ++ [((nextL rows last 0 (lsN may) : Nat) : Int)]) :: aBlk g (cellsN rows) :: R) → K_waits_Graph_back_4 (some ⟨g, 0, none⟩) (may : Int) o (m : Int) ((t20 + 1 : Nat) : Int) h Q) : ∀ (d k acc : Nat) (h : Hp), k + d = (lsN may).length → acc < 2 ^ 64 → nextL rows last acc ((lsN may).drop k) = nextL rows last 0 (lsN may) → Sep h0 h (aRow encI 1 t29 ((lsN may).map Int.ofNat) :: aRow encW 1 o xs :: aBlk g (cellsN rows) :: R) →
    K_waits_Graph_back_8 (some ⟨g, 0, none⟩) (may : Int) o (last : Int) (acc : Int) (m : Int) (t20 : Int) t29 (t29.n : Int) (k : Int) h Q
  | 0, k, acc, h, hk, hacc, he, hs => by
    have hn := hs.rowLen 0 rfl
    rw [List.length_map] at hn
    rw [List.drop_of_length_le (by omega)] at he
    have he : acc = nextL rows last 0 (lsN may) := he
    apply S_waits_Graph_back_8
    unfold B_waits_Graph_back_8
    refine mIf_neg (by simp; omega) ?_
    refine Sep.new hs fun b h hs => ?_
    refine hs.app1 2 0 (acc : Int) rfl rfl (fun _ => rfl) (by intro v hv; simp at hv; subst hv; rfl) rfl (by omega) (by omega) fun s' h hn hs => ?_
    simp only [List.set_cons_succ, List.set_cons_zero] at hs
    rw [wrap64 _ (by omega), show (t20 : Int) + 1 = ((t20 + 1 : Nat) : Int) by omega]
    rw [he] at hs
    exact next s' h hs.drop.drop
  | d + 1, k, acc, h, hk, hacc, he, hs => by
    have ih := bk8 (t29 := t29) (o := o) hg hlast hx ht next d (k + 1)
    have hn := hs.rowLen 0 rfl
    rw [List.length_map] at hn
    have hkl : k < (lsN may).length := by omega
    have h64 := ls_len (w := may)
    rw [List.drop_eq_getElem_cons hkl] at he
    have hmem := mem_lsN.1 (List.getElem_mem hkl)
    apply S_waits_Graph_back_8
    unfold B_waits_Graph_back_8
    refine mIf_pos (by simp; omega) ?_
    refine hs.idx 0 rfl (by omega) (by rw [List.length_map]; omega) fun x hx' => ?_
    rw [Int.toNat_natCast] at hx'
    refine hs.ild 0 rfl hx' (by rw [List.length_map]; exact hkl) ?_
    rw [List.getElem_map]
    generalize (lsN may)[k] = c at he hmem
    refine g_ld (R := aRow encI 1 t29 ((lsN may).map Int.ofNat) :: aRow encW 1 o xs :: R) hg (hs.front 2 rfl) (i := c) hmem.1 ?_
    rw [iand_n (hg.at_ c) hlast]
    have hw : IntKind.i64.wrap ((k : Int) + 1) = ((k + 1 : Nat) : Int) := by rw [wrap64 _ (by omega)]; omega
    have hstep : nextL rows last acc (c :: (lsN may).drop (k + 1)) = nextL rows last (if rows.getD c 0 &&& last = 0 then acc else acc ||| 2 ^ c) ((lsN may).drop (k + 1)) := rfl
    rw [hstep] at he
    rw [hw]
    refine mIf_intro (fun hc => ?_) (fun hc => ?_)
    · have hz : ¬ rows.getD c 0 &&& last = 0 := by
        intro e; rw [e] at hc; simp at hc
      rw [if_neg hz] at he
      rw [mBind_ap]
      refine (bit_s (i := c) hmem.1).mono ?_
      rintro v h ⟨rfl, rfl⟩
      simp only [unI_int]
      rw [ior_n hacc (pow_lt hmem.1)]
      exact ih _ h (by omega) (Nat.or_lt_two_pow hacc (pow_lt hmem.1)) he hs
    · have hz : rows.getD c 0 &&& last = 0 := by simpa using hc
      rw [if_pos hz] at he
      exact ih _ h (by omega) hacc he hs
theorem bk4 (hB : Base h0) (hg : GOk rows) {to m : Nat} (ht : to < 64) (hm : m ≤ 64) : ∀ (d k : Nat) (o : Sl) (h : Hp), k + d = m → Sep h0 h (aRow encW 1 o ((List.range (k + 1)).map fun i => ((backL rows to i : Nat) : Int)) :: aBlk g (cellsN rows) :: R) →
    K_waits_Graph_back_4 (some ⟨g, 0, none⟩) (mayN to : Int) o (m : Int) (k : Int) h (fun v h' => ∃ o : Sl, v = .slice o.p o.n o.c ∧ Sep h0 h' (aRow encW 1 o ((List.range (m + 1)).map fun i => ((backL rows to i : Nat) : Int)) :: aBlk g (cellsN rows) :: R))
  | 0, k, o, h, hk, hs => by
    have hk : k = m := by omega
    subst hk
    apply S_waits_Graph_back_4
    unfold B_waits_Graph_back_4
    refine mIf_neg (by simp) ?_
    exact ⟨o, rfl, hs⟩
  | d + 1, k, o, h, hk, hs => by
    have ih := bk4 hB hg ht hm d (k + 1)
    have hn := hs.rowLen 0 rfl
    rw [List.length_map, List.length_range] at hn
    apply S_waits_Graph_back_4
    unfold B_waits_Graph_back_4
    refine mIf_pos (by simp; omega) ?_
    rw [hn, wrap64 _ (by omega), show (((k + 1 : Nat) : Int) - 1) = (k : Int) by omega]
    refine hs.idx 0 rfl (by omega) (by rw [List.length_map, List.length_range]; omega) fun x hx' => ?_
    rw [Int.toNat_natCast] at hx'
    refine hs.ild 0 rfl hx' (by rw [List.length_map, List.length_range]; omega) ?_
    rw [List.getElem_map, List.getElem_range, mBind_ap]
    have hmay : mayN to < 2 ^ 64 := by unfold mayN; have := Nat.two_pow_pos to; omega
    refine (list_s hB hmay hs).mono ?_
    rintro v h ⟨t29, rfl, hs⟩
    simp only [unL_slice]
    refine bk8 hg (backL_lt ht k) (by simp; omega) (by omega) (fun o' h hs => ?_) (lsN (mayN to)).length 0 0 h (Nat.zero_add _) (Nat.two_pow_pos 64) rfl hs
    refine ih o' h (by omega) ?_
    rw [List.range_succ, List.map_append]
    exact hs
theorem back_s (hB : Base h0) (hg : GOk rows) {to m : Nat} (ht : to < 64) (hm : m ≤ 64) (hs : Sep h0 h (aBlk g (cellsN rows) :: R)) : N_waits_Graph_back (some ⟨g, 0, none⟩) (to : Int) (m : Int) h (fun v h' => ∃ o : Sl, v = .slice o.p o.n o.c ∧ Sep h0 h' (aRow encW 1 o ((List.range (m + 1)).map fun i => ((backL rows to i : Nat) : Int)) :: aBlk g (cellsN rows) :: R)) := by
  apply S_waits_Graph_back
  unfold B_waits_Graph_back
  rw [wrapu64 _ (by omega)]
  refine ⟨by omega, ?_⟩
  rw [mBind_ap]
  refine (bit_s ht).mono ?_
  rintro v h ⟨rfl, rfl⟩
  simp only [unI_int]
  refine Sep.new hs fun b h hs => ?_
  have e : ishl .u64 18446744073709551615 (to : Int) = (mayN to : Int) := by
    unfold ishl mayN
    rw [Int.toNat_natCast, show IntKind.u64.bits = 64 from rfl, Nat.min_eq_left (by omega), IntKind.wrap_u64]
    have : ∀ t, t < 64 → (18446744073709551615 : Int) * 2 ^ t % 18446744073709551616 = ((2 ^ 64 - 2 ^ t : Nat) : Int) := by decide +kernel
    exact this to ht
  rw [e]
  have hs := Blk.row (enc := encW) (xs := [((2 ^ to : Nat) : Int)]) (sz := 1) (n := 1) hs 0 rfl rfl rfl
  exact bk4 hB hg ht hm m 0 _ h (Nat.zero_add _) hs
theorem rg6 (hB : Base h0) (hg : GOk rows) {a m : Nat} (ha : a < 64) (hm : m ≤ 64) {bk : Sl} : ∀ (l last : Nat) (o : Sl) (xs : List Int) (h : Hp), l < m → last < 64 → (backL rows a (l + 1)).testBit last = true → xs.length + l ≤ 64 →
    Sep h0 h (aRow encI 1 o (xs ++ [(last : Int)]) :: aRow encW 1 bk ((List.range (m + 1)).map fun i => ((backL rows a i : Nat) : Int)) :: aBlk g (cellsN rows) :: R) →
    K_waits_Graph_ring_6 (some ⟨g, 0, none⟩) bk o (l : Int) h (fun v h' => ∃ o : Sl, v = .slice o.p o.n o.c ∧ Sep h0 h' (aRow encI 1 o (xs ++ [(last : Int)] ++ (ringL rows a l last).map Int.ofNat) :: aRow encW 1 bk ((List.range (m + 1)).map fun i => ((backL rows a i : Nat) : Int)) :: aBlk g (cellsN rows) :: R))
  | 0, last, o, xs, h, hl, hlast, hb, hx, hs => by
    apply S_waits_Graph_ring_6
    unfold B_waits_Graph_ring_6
    refine mIf_neg (by simp) ?_
    refine ⟨o, rfl, ?_⟩
    simpa [ringL] using hs
  | l + 1, last, o, xs, h, hl, hlast, hb, hx, hs => by
    have hn := hs.rowLen 0 rfl
    rw [List.length_append, List.length_singleton] at hn
    have hnz := back_next hb
    have hbl := backL_lt (rows := rows) ha (l + 1)
    have hand : rows.getD last 0 &&& backL rows a (l + 1) < 2 ^ 64 := Nat.and_lt_two_pow _ hbl
    obtain ⟨c1, c2, _, _⟩ := low_bits hnz hand
    apply S_waits_Graph_ring_6
    unfold B_waits_Graph_ring_6
    refine mIf_pos (decide_eq_true (by omega)) ?_
    rw [hn, wrap64 _ (by omega), show (((xs.length + 1 : Nat) : Int) - 1) = (xs.length : Int) by omega]
    refine hs.idx 0 rfl (by omega) (by simp; omega) fun x hx' => ?_
    rw [Int.toNat_natCast] at hx'
    refine hs.ild 0 rfl hx' (by simp) ?_
    rw [List.getElem_append_right (Nat.le_refl _)]
    simp only [Nat.sub_self, List.getElem_cons_zero, mNil_some]
    refine g_ld (R := aRow encI 1 o (xs ++ [(last : Int)]) :: aRow encW 1 bk ((List.range (m + 1)).map fun i => ((backL rows a i : Nat) : Int)) :: R) hg (hs.front 2 rfl) (i := last) hlast ?_
    refine hs.idx 1 rfl (by omega) (by rw [List.length_map, List.length_range]; omega) fun x hx' => ?_
    rw [Int.toNat_natCast] at hx'
    refine hs.ild 1 rfl hx' (by rw [List.length_map, List.length_range]; omega) ?_
    rw [List.getElem_map, List.getElem_range, iand_n (hg.at_ last) hbl, mBind_ap]
    refine (tz_s hB hs.under hnz hand).mono ?_
    rintro v h ⟨rfl, rfl⟩
    simp only [unI_int]
    refine Sep.new hs fun b h hs => ?_
    refine hs.app1 1 0 ((Lib.ctz 64 (rows.getD last 0 &&& backL rows a (l + 1)) : Nat) : Int) rfl rfl (fun _ => rfl) (by intro v hv; simp at hv; subst hv; rfl) rfl (by omega) (by simp; omega) fun s' h hn hs => ?_
    simp only [List.set_cons_succ, List.set_cons_zero] at hs
    rw [Nat.testBit_and, Bool.and_eq_true] at c2
    rw [wrap64 _ (by omega), show (((l + 1 : Nat) : Int) - 1) = (l : Int) by omega]
    refine (rg6 hB hg ha hm l _ s' (xs ++ [(last : Int)]) h (by omega) c1 c2.2 (by simp; omega) hs.drop).mono ?_
    rintro v h ⟨o, rfl, hs⟩
    refine ⟨o, rfl, ?_⟩
    simpa [ringL] using hs
theorem ring_s (hB : Base h0) (hg : GOk rows) {a m : Nat} (ha : a < 64) (hm : m < 64) (hs : Sep h0 h (aBlk g (cellsN rows) :: R)) : N_waits_Graph_ring (some ⟨g, 0, none⟩) (a : Int) ((m + 1 : Nat) : Int) h (fun v h' => ∃ o : Sl, v = .slice o.p o.n o.c ∧ o.p.isNone = !(backL rows a (m + 1)).testBit a ∧ Sep h0 h' (aRow encI 1 o ((if (backL rows a (m + 1)).testBit a then a :: ringL rows a m a else []).map Int.ofNat) :: aBlk g (cellsN rows) :: R)) := by
  apply S_waits_Graph_ring
  unfold B_waits_Graph_ring
  rw [mBind_ap]
  refine (back_s hB hg ha (m := m + 1) (by omega) hs).mono ?_
  rintro v h ⟨bk, rfl, hs⟩
  simp only [unL_slice]
  refine hs.idx 0 rfl (by omega) (by rw [List.length_map, List.length_range]; omega) fun x hx' => ?_
  rw [Int.toNat_natCast] at hx'
  refine hs.ild 0 rfl hx' (by rw [List.length_map, List.length_range]; omega) ?_
  rw [List.getElem_map, List.getElem_range]
  refine mQ_intro _ (bit_s ha) ?_
  simp only [unI_int]
  rw [iand_n (backL_lt ha _) (pow_lt ha)]
  refine mIf_intro (fun hc => ?_) (fun hc => ?_)
  · have hb : (backL rows a (m + 1)).testBit a = false := and_pow.1 (Int.ofNat_inj.1 (eq_of_beq hc))
    simp only [hb, Bool.false_eq_true, if_false, List.map_nil]
    exact ⟨⟨none, 0, 0⟩, rfl, rfl, hs.drop.nilRow encI 1⟩
  · have hb : (backL rows a (m + 1)).testBit a = true := by
      cases hb : (backL rows a (m + 1)).testBit a with
      | true => rfl
      | false => rw [and_pow.2 hb] at hc; simp at hc
    simp only [hb, if_true]
    refine Sep.new hs fun b h hs => ?_
    have hs := Blk.row (enc := encI) (xs := [(a : Int)]) (sz := 1) (n := 1) hs 0 rfl rfl rfl
    rw [wrap64 _ (by omega), show (((m + 1 : Nat) : Int) - 1) = (m : Int) by omega]
    refine (rg6 hB hg ha (m := m + 1) (by omega) m a _ [] h (by omega) ha hb (by simp; omega) hs).mono ?_
    rintro v h ⟨o, rfl, hs⟩
    have hs := hs.swap.drop
    refine ⟨o, rfl, ?_, by simpa using hs⟩
    rw [row_some hs (k := 0) rfl (by simp)]
    rfl
theorem rn7 (hB : Base h0) (hg : GOk rows) {s : Nat} (hs64 : s < 64) {Q : Value → Hp → Prop}
    (some_ : ∀ (o : Sl) (a : Nat) (h : Hp), fA rows (s + 1) 64 0 = some a → Sep h0 h (aRow encI 1 o ((a :: ringL rows a s a).map Int.ofNat) :: aBlk g (cellsN rows) :: R) → Q (.slice o.p o.n o.c) h)
    (none_ : ∀ (h : Hp), fA rows (s + 1) 64 0 = none → Sep h0 h (aBlk g (cellsN rows) :: R) → K_waits_Graph_Ring_4 (some ⟨g, 0, none⟩) ((s + 1 + 1 : Nat) : Int) h Q) : ∀ (d a : Nat) (h : Hp), a + d = 64 → fA rows (s + 1) d a = fA rows (s + 1) 64 0 → Sep h0 h (aBlk g (cellsN rows) :: R) →
    K_waits_Graph_Ring_7 (some ⟨g, 0, none⟩) ((s + 1 : Nat) : Int) (a : Int) h Q
  | 0, a, h, ha, he, hs => by
    apply S_waits_Graph_Ring_7
    unfold B_waits_Graph_Ring_7
    refine mIf_neg (by simp; omega) ?_
    rw [wrap64 _ (by omega), show (((s + 1 : Nat) : Int) + 1) = ((s + 1 + 1 : Nat) : Int) by omega]
    exact none_ h he.symm hs
  | d + 1, a, h, ha, he, hs => by
    have ih := rn7 hB hg hs64 some_ none_ d (a + 1)
    apply S_waits_Graph_Ring_7
    unfold B_waits_Graph_Ring_7
    refine mIf_pos (by simp; omega) ?_
    rw [mBind_ap]
    refine (ring_s hB hg (a := a) (m := s) (by omega) hs64 hs).mono ?_
    rintro v h ⟨o, rfl, hp, hs⟩
    simp only [unL_slice]
    unfold fA at he
    cases hb : (backL rows a (s + 1)).testBit a with
    | true =>
      rw [hb] at hp
      simp only [hb, if_true] at he hs
      refine mIf_pos (by rw [hp]; rfl) ?_
      exact some_ o a h he.symm hs
    | false =>
      rw [hb] at hp
      simp only [hb, Bool.false_eq_true, if_false] at he hs
      refine mIf_neg (by rw [hp]; rfl) ?_
      rw [wrap64 _ (by omega), show (a : Int) + 1 = ((a + 1 : Nat) : Int) by omega]
      exact ih h (by omega) he hs.drop
theorem rn4 (hB : Base h0) (hg : GOk rows) : ∀ (d s : Nat) (h : Hp), s + d = 64 → Sep h0 h (aBlk g (cellsN rows) :: R) →
    K_waits_Graph_Ring_4 (some ⟨g, 0, none⟩) ((s + 1 : Nat) : Int) h (fun v h' => ∃ o : Sl, v = .slice o.p o.n o.c ∧ Sep h0 h' (aRow encI 1 o ((match fS rows d (s + 1) with
      | some (s, a) => a :: ringL rows a (s - 1) a
      | none => []).map Int.ofNat) :: aBlk g (cellsN rows) :: R))
  | 0, s, h, hd, hs => by
    apply S_waits_Graph_Ring_4
    unfold B_waits_Graph_Ring_4
    refine mIf_neg (by simp; omega) ?_
    exact ⟨⟨none, 0, 0⟩, rfl, hs.nilRow encI 1⟩
  | d + 1, s, h, hd, hs => by
    have ih := rn4 hB hg d (s + 1)
    apply S_waits_Graph_Ring_4
    unfold B_waits_Graph_Ring_4
    refine mIf_pos (by simp; omega) ?_
    refine rn7 hB hg (s := s) (by omega) (fun o a h he hs => ?_) (fun h he hs => ?_) 64 0 h rfl rfl hs
    · refine ⟨o, rfl, ?_⟩
      simp only [fS, he]
      exact hs
    · simp only [fS, he]
      exact ih h (by omega) hs
theorem Ring_s (hB : Base h0) (hg : GOk rows) (hs : Sep h0 h (aBlk g (cellsN rows) :: R)) : N_waits_Graph_Ring (some ⟨g, 0, none⟩) h (fun v h' => ∃ o : Sl, v = .slice o.p o.n o.c ∧ Sep h0 h' (aRow encI 1 o ((ringN rows).map Int.ofNat) :: aBlk g (cellsN rows) :: R)) := by
  apply S_waits_Graph_Ring
  unfold B_waits_Graph_Ring
  rw [mBind_ap]
  refine (Stuck_s hB hg hs).mono ?_
  rintro v h ⟨o, rfl, hs⟩
  have hn := hs.rowLen 0 rfl
  rw [List.length_map] at hn
  simp only [unL_slice]
  have hs := hs.drop
  unfold ringN
  refine mIf_intro (fun hc => ?_) (fun hc => ?_)
  · have : stuckN rows = [] := by
      cases hst : stuckN rows with
      | nil => rfl
      | cons a l => rw [hst] at hn; simp at hc; simp at hn; omega
    simp only [this, List.isEmpty_nil, if_true, List.map_nil]
    exact ⟨⟨none, 0, 0⟩, rfl, hs.nilRow encI 1⟩
  · have : (stuckN rows).isEmpty = false := by
      cases hst : stuckN rows with
      | nil => rw [hst] at hn; simp at hc; simp at hn; omega
      | cons a l => rfl
    simp only [this, Bool.false_eq_true, if_false]
    exact rn4 hB hg 64 0 h rfl hs
end
end Go.Proofs.YtimpaammdmeocaaDoor
