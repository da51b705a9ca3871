/- Mailboxes: the law MailboxPlays. Conditions: none. -/
import Derived.Test.YtjifoicncenfpaaMbxP
import Derived.Test.YtjifoicncenfpaaSbW
namespace Go.Proofs.Ytjifoicncenfpaa
open Go Go.Sb
set_option linter.unusedSimpArgs false
set_option linter.unusedVariables false

section plays
variable {h0 : Hp} {b i : Nat} {rs ls rows : Sl} {rooms : List Int} {acts : List MAct}
structure BInv (rooms : List Int) (ys : List (Nat × List Int)) : Prop where
  n : ys.length = rooms.length
  room : ∀ (j : Nat) (hj : j < ys.length) (hj' : j < rooms.length), (ys[j]'hj).1 = roomOf (rooms[j]'hj') ∧ (ys[j]'hj).2.length ≤ (ys[j]'hj).1
theorem roomOf_b (n : Int) : 1 ≤ roomOf n ∧ roomOf n ≤ 8 := by unfold roomOf; split <;> omega
theorem BInv.set {ys : List (Nat × List Int)} (h : BInv rooms ys) {k : Nat} (hk : k < ys.length) {q : List Int} (hq : q.length ≤ (ys[k]'hk).1) : BInv rooms (ys.set k ((ys[k]'hk).1, q)) := by
  refine ⟨by rw [List.length_set]; exact h.n, fun j hj hj' => ?_⟩
  rw [List.length_set] at hj
  rw [List.getElem_set]
  split
  · rename_i e
    subst e
    exact ⟨(h.room k hk hj').1, hq⟩
  · exact h.room j hj hj'
abbrev bst (b : Nat) (rows : Sl) (ys : List (Nat × List Int)) : List As := [aBoxes b ys, aGrid encInt 1 rows (ys.map (·.2))]
def BLoop (h0 : Hp) (b : Nat) (rs ls rows : Sl) (rooms : List Int) (i : Nat) : Prop := ∀ (h : Hp) (ys : List (Nat × List Int)), BInv rooms ys → Sep h0 h (bst b rows ys) → K_signalboxlaw10_MailboxPlays_8 rs (some ⟨b, 0, none⟩) rows ls (ls.n : Int) (i : Int) h (BFin h0)
theorem mp39 (hi : i < 200) (hloop : BLoop h0 b rs ls rows rooms (i + 1)) {ys : List (Nat × List Int)} (hI : BInv rooms ys) {k x : Nat} (hk : k < ys.length) {a : MAct} (ha : a.i = k) {all : Sl} : ∀ (d t : Nat) (h : Hp), t + d = (ys[k]'hk).2.length →
    Sep h0 h [aBoxes b ys, aGrid encInt 1 rows (ys.map (·.2)), aRow encInt 1 all (ys[k]'hk).2, aBlk x a.enc] →
    K_signalboxlaw10_MailboxPlays_39 rs (some ⟨b, 0, none⟩) rows ⟨x, 0, none⟩ all ls (ls.n : Int) (i : Int) (all.n : Int) (t : Int) h (BFin h0)
  | 0, t, h, ht, hs => by
    have hn := hs.rowLen 2 rfl
    apply S_signalboxlaw10_MailboxPlays_39
    unfold B_signalboxlaw10_MailboxPlays_39
    (simp only [add_mk, Nat.zero_add]; rw [decide_eq_false (by omega), mIf_false])
    rw [wrap64 _ (by omega), show (i : Int) + 1 = ((i + 1 : Nat) : Int) by omega]
    have hs : Sep h0 h [_, _, _, _] := hs.re [2, 3, 0, 1] rfl
    exact hloop h ys hI hs.drop.drop
  | d + 1, t, h, ht, hs => by
    have ih := mp39 hi hloop hI hk ha (all := all) (x := x) d (t + 1)
    have hn := hs.rowLen 2 rfl
    have hrb := roomOf_b (rooms[k]'(by have := hI.n; omega))
    have hrm := hI.room k hk (by have := hI.n; omega)
    apply S_signalboxlaw10_MailboxPlays_39
    unfold B_signalboxlaw10_MailboxPlays_39
    rw [decide_eq_true (by omega), mIf_true]
    have hs : Sep h0 h [_, _, _, _] := hs.re [1, 0, 2, 3] rfl
    obtain ⟨ss, hl, hs⟩ := hs.gOpen k (by simpa using hk)
    rw [List.length_map] at hl
    have hsn := hs.rowLen 1 rfl
    have hkn := hs.rowLen 0 rfl
    have hmk : (ys.map (·.2))[k]'(by simpa using hk) = (ys[k]'hk).2 := by simp
    rw [hmk] at hs hkn
    have hrn := hs.rowLen 1 rfl
    refine hs.idx 4 rfl (by omega) (by omega) fun aa haa => ?_
    simp only [Int.toNat_natCast] at haa
    refine hs.ild 4 rfl haa (by omega) ?_
    refine Sep.ldI hs 5 rfl rfl ?_
    rw [ha]
    refine hs.idx 1 rfl (by omega) (by omega) fun ab hab => ?_
    simp only [Int.toNat_natCast] at hab
    refine hs.rldL0 1 rfl (fun _ => rfl) hab (List.getElem?_eq_getElem (by omega)) rfl ?_
    refine hs.idx 0 rfl (by omega) (by omega) fun ac hac => ?_
    simp only [Int.toNat_natCast] at hac
    refine hs.ild 0 rfl hac (by omega) ?_
    refine mIf_neg (by simp) ?_
    rw [wrap64 _ (by omega), show (t : Int) + 1 = ((t + 1 : Nat) : Int) by omega]
    refine ih h (by omega) ?_
    have hs := Sep.gShut (by simpa using hl) (by simpa using hk) hs
    rw [← hmk, List.set_getElem_self] at hs
    have hs : Sep h0 h [_, _, _, _] := hs.re [1, 0, 2, 3] rfl
    rw [hmk] at hs
    exact hs
theorem mp34 (hi : i < 200) (hloop : BLoop h0 b rs ls rows rooms (i + 1)) {ys : List (Nat × List Int)} (hI : BInv rooms ys) {x : Nat} {a : MAct} {h : Hp} (hs : Sep h0 h [aBoxes b ys, aGrid encInt 1 rows (ys.map (·.2)), aBlk x a.enc]) :
    K_signalboxlaw10_MailboxPlays_34 rs (some ⟨b, 0, none⟩) rows ⟨x, 0, none⟩ (decide (0 ≤ a.i ∧ a.i < ys.length)) ls (ls.n : Int) (i : Int) h (BFin h0) := by
  apply S_signalboxlaw10_MailboxPlays_34
  unfold B_signalboxlaw10_MailboxPlays_34
  refine mIf_dec (fun hin => ?_) (fun hin => ?_)
  · obtain ⟨k, hk⟩ : ∃ k : Nat, a.i = k := ⟨a.i.toNat, by omega⟩
    have hkl : k < ys.length := by omega
    have hrb := roomOf_b (rooms[k]'(by have := hI.n; omega))
    have hrm := hI.room k hkl (by have := hI.n; omega)
    (refine Sep.ldI hs 2 rfl rfl ?_; simp only [add_mk, Nat.zero_add, mBind_ap])
    rw [hk]
    refine (All_s hs hkl).mono ?_
    rintro v h ⟨all, rfl, hs⟩
    (simp only [unL_slice]; refine Sep.ldI hs 3 rfl rfl ?_)
    have hs : Sep h0 h [_, _, _, _] := hs.re [2, 0, 1, 3] rfl
    have hal := hs.rowLen 2 rfl
    have hrl := hs.gLen
    obtain ⟨ss, hl, hs⟩ := hs.gOpen k (by simpa using hkl)
    rw [List.length_map] at hl
    have hsn := hs.rowLen 1 rfl
    have hkn := hs.rowLen 0 rfl
    have hmk : (ys.map (·.2))[k]'(by simpa using hkl) = (ys[k]'hkl).2 := by simp
    rw [hmk] at hs hkn
    rw [hk]
    refine hs.idx 1 rfl (by omega) (by omega) fun ab hab => ?_
    simp only [Int.toNat_natCast] at hab
    refine hs.rldL0 1 rfl (fun _ => rfl) hab (List.getElem?_eq_getElem (by omega)) rfl ?_
    refine mIf_neg (by simp; omega) ?_
    have hs := Sep.gShut (by simpa using hl) (by simpa using hkl) hs
    rw [← hmk, List.set_getElem_self] at hs
    have hs : Sep h0 h [_, _, _, _] := hs.re [1, 0, 2, 3] rfl
    rw [hmk] at hs
    exact mp39 hi hloop hI hkl hk _ 0 h (Nat.zero_add _) hs
  · rw [wrap64 _ (by omega), show (i : Int) + 1 = ((i + 1 : Nat) : Int) by omega]
    have hs : Sep h0 h [_, _, _] := hs.re [2, 0, 1] rfl
    exact hloop h ys hI hs.drop
set_option maxHeartbeats 4000000 in
theorem mp17 (hi : i < 200) (hloop : BLoop h0 b rs ls rows rooms (i + 1)) {ys : List (Nat × List Int)} (hI : BInv rooms ys) {x : Nat} {a : MAct} {room : Int} (hroom : ∀ (k : Nat) (hk : k < rooms.length), a.i = k → room = roomOf (rooms[k]'hk)) {h : Hp} (hs : Sep h0 h [aBoxes b ys, aGrid encInt 1 rows (ys.map (·.2)), aBlk x a.enc]) :
    K_signalboxlaw10_MailboxPlays_17 rs (some ⟨b, 0, none⟩) rows ⟨x, 0, none⟩ (decide (0 ≤ a.i ∧ a.i < ys.length)) room ls (ls.n : Int) (i : Int) h (BFin h0) := by
  have hP34 : ∀ h, Sep h0 h [aBoxes b ys, aGrid encInt 1 rows (ys.map (·.2)), aBlk x a.enc] → K_signalboxlaw10_MailboxPlays_34 rs (some ⟨b, 0, none⟩) rows ⟨x, 0, none⟩ (decide (0 ≤ a.i ∧ a.i < ys.length)) ls (ls.n : Int) (i : Int) h (BFin h0) := fun h hs => mp34 hi hloop hI hs
  have hrl := (hs.swap).gLen
  rw [List.length_map] at hrl
  apply S_signalboxlaw10_MailboxPlays_17
  unfold B_signalboxlaw10_MailboxPlays_17
  by_cases hin : 0 ≤ a.i ∧ a.i < ys.length
  · obtain ⟨tk, ai, av⟩ := a
    dsimp only at hin hroom hP34 ⊢
    obtain ⟨k, rfl⟩ : ∃ k : Nat, ai = k := ⟨ai.toNat, by omega⟩
    have hkl : k < ys.length := by omega
    have hkr : k < rooms.length := by have := hI.n; omega
    have hrb := roomOf_b (rooms[k]'hkr)
    have hrm := hI.room k hkl hkr
    have hro := hroom k hkr rfl
    rw [decide_eq_true hin]
    have done : ∀ (h : Hp) (q : List Int), q.length ≤ (ys[k]'hkl).1 → Sep h0 h [aBoxes b (ys.set k ((ys[k]'hkl).1, q)), aGrid encInt 1 rows ((ys.map (·.2)).set k q), aBlk x (MAct.enc ⟨tk, k, av⟩)] → K_signalboxlaw10_MailboxPlays_34 rs (some ⟨b, 0, none⟩) rows ⟨x, 0, none⟩ true ls (ls.n : Int) (i : Int) h (BFin h0) := by
      intro h q hq hs
      have e : (ys.map (·.2)).set k q = (ys.set k ((ys[k]'hkl).1, q)).map (·.2) := by rw [List.map_set]
      rw [e] at hs
      have := mp34 hi hloop (hI.set hkl hq) hs
      simp only [List.length_set] at this
      rw [decide_eq_true hin] at this
      exact this
    have same : ∀ (h : Hp), Sep h0 h [aBoxes b ys, aGrid encInt 1 rows (ys.map (·.2)), aBlk x (MAct.enc ⟨tk, k, av⟩)] → K_signalboxlaw10_MailboxPlays_34 rs (some ⟨b, 0, none⟩) rows ⟨x, 0, none⟩ true ls (ls.n : Int) (i : Int) h (BFin h0) := by
      intro h hs
      have := hP34 h hs
      rw [decide_eq_true hin] at this
      exact this
    have hmk : (ys.map (·.2))[k]'(by simpa using hkl) = (ys[k]'hkl).2 := by simp
    cases tk with
    | true =>
      (refine Sep.ldB hs 2 rfl rfl ?_; simp only [add_mk, Nat.zero_add, Bool.not_true, mIf_false, mIf_true]; refine Sep.ldI hs 2 rfl rfl ?_; simp only [mBind_ap])
      refine (Recv_s hs hkl).mono ?_
      rintro v h ⟨rfl, hs⟩
      have hs : Sep h0 h [_, _, _] := hs.re [1, 0, 2] rfl
      obtain ⟨ss, hl, hs⟩ := hs.gOpen k (by simpa using hkl)
      rw [List.length_map] at hl
      have hsn := hs.rowLen 1 rfl
      have hkn := hs.rowLen 0 rfl
      have hcap := hs.rowCap 0 rfl
      rw [hmk] at hs hkn
      cases hq : (ys[k]'hkl).2 with
      | nil =>
        rw [hq] at hs hkn
        simp only [List.length_nil] at hkn
        show un2 (unI .i64) (unI .i64) (.tuple #[.int .i64 0, .int .i64 8]) _ _ _
        (simp only [un2_tuple, unI_int]; refine Sep.ldI hs 4 rfl rfl ?_; (refine Sep.idx hs 1 rfl (by first | omega | (simp only [List.length_set, List.length_map, List.length_replicate, List.length_append, List.length_cons, List.length_nil, List.length_reverse, List.length_range]; omega) | (simp; omega)) (by first | omega | (simp only [List.length_set, List.length_map, List.length_replicate, List.length_append, List.length_cons, List.length_nil, List.length_reverse, List.length_range]; omega) | (simp; omega)) fun aa haa => ?_; try simp only [Int.toNat_natCast] at haa); refine Sep.rldL0 hs 1 rfl (fun _ => rfl) haa (List.getElem?_eq_getElem (by first | omega | (simp only [List.length_set, List.length_map, List.length_replicate, List.length_append, List.length_cons, List.length_nil, List.length_reverse, List.length_range]; omega) | (simp; omega))) rfl ?_)
        refine mIf_pos (by simp; omega) ?_
        refine mIf_neg (by decide) ?_
        have hs := Sep.gShut (by simpa using hl) (by simpa using hkl) hs
        have hs : Sep h0 h [_, _, _] := hs.re [1, 0, 2] rfl
        exact done h [] (by simp) hs
      | cons z q =>
        rw [hq] at hs hkn
        simp only [List.length_cons] at hkn
        show un2 (unI .i64) (unI .i64) (.tuple #[.int .i64 z, .int .i64 0]) _ _ _
        have hlq := hrm.2
        rw [hq] at hlq
        simp only [List.length_cons] at hlq
        (simp only [un2_tuple, unI_int]; refine Sep.ldI hs 4 rfl rfl ?_; (refine Sep.idx hs 1 rfl (by first | omega | (simp only [List.length_set, List.length_map, List.length_replicate, List.length_append, List.length_cons, List.length_nil, List.length_reverse, List.length_range]; omega) | (simp; omega)) (by first | omega | (simp only [List.length_set, List.length_map, List.length_replicate, List.length_append, List.length_cons, List.length_nil, List.length_reverse, List.length_range]; omega) | (simp; omega)) fun aa haa => ?_; try simp only [Int.toNat_natCast] at haa); refine Sep.rldL0 hs 1 rfl (fun _ => rfl) haa (List.getElem?_eq_getElem (by first | omega | (simp only [List.length_set, List.length_map, List.length_replicate, List.length_append, List.length_cons, List.length_nil, List.length_reverse, List.length_range]; omega) | (simp; omega))) rfl ?_)
        refine mIf_neg (by simp; omega) ?_
        (simp only [mBind_ap])
        refine mIf_neg (by simp) ?_
        (refine Sep.ldI hs 4 rfl rfl ?_; (refine Sep.idx hs 1 rfl (by first | omega | (simp only [List.length_set, List.length_map, List.length_replicate, List.length_append, List.length_cons, List.length_nil, List.length_reverse, List.length_range]; omega) | (simp; omega)) (by first | omega | (simp only [List.length_set, List.length_map, List.length_replicate, List.length_append, List.length_cons, List.length_nil, List.length_reverse, List.length_range]; omega) | (simp; omega)) fun aa_1 haa_1 => ?_; try simp only [Int.toNat_natCast] at haa_1); refine Sep.rldL0 hs 1 rfl (fun _ => rfl) haa_1 (List.getElem?_eq_getElem (by first | omega | (simp only [List.length_set, List.length_map, List.length_replicate, List.length_append, List.length_cons, List.length_nil, List.length_reverse, List.length_range]; omega) | (simp; omega))) rfl ?_; (refine Sep.idx hs 0 rfl (by first | omega | (simp only [List.length_set, List.length_map, List.length_replicate, List.length_append, List.length_cons, List.length_nil, List.length_reverse, List.length_range]; omega) | (simp; omega)) (by first | omega | (simp only [List.length_set, List.length_map, List.length_replicate, List.length_append, List.length_cons, List.length_nil, List.length_reverse, List.length_range]; omega) | (simp; omega)) fun aa_2 haa_2 => ?_; try simp only [Int.toNat_natCast] at haa_2); refine Sep.rldI0 hs 0 rfl (fun _ => rfl) haa_2 (List.getElem?_eq_getElem (by first | omega | (simp only [List.length_set, List.length_map, List.length_replicate, List.length_append, List.length_cons, List.length_nil, List.length_reverse, List.length_range]; omega) | (simp; omega))) rfl ?_; rw [mRet_ap])
        refine mIf_neg (by simp) ?_
        (refine Sep.ldI hs 4 rfl rfl ?_; refine Sep.ldI hs 4 rfl rfl ?_; (refine Sep.idx hs 1 rfl (by first | omega | (simp only [List.length_set, List.length_map, List.length_replicate, List.length_append, List.length_cons, List.length_nil, List.length_reverse, List.length_range]; omega) | (simp; omega)) (by first | omega | (simp only [List.length_set, List.length_map, List.length_replicate, List.length_append, List.length_cons, List.length_nil, List.length_reverse, List.length_range]; omega) | (simp; omega)) fun aa_3 haa_3 => ?_; try simp only [Int.toNat_natCast] at haa_3); refine Sep.rldL0 hs 1 rfl (fun _ => rfl) haa_3 (List.getElem?_eq_getElem (by first | omega | (simp only [List.length_set, List.length_map, List.length_replicate, List.length_append, List.length_cons, List.length_nil, List.length_reverse, List.length_range]; omega) | (simp; omega))) rfl ?_; simp only)
        refine hs.slc 0 rfl (fun _ => rfl) (by omega) (by omega) (by simp; omega) rfl fun s' hn' hs => ?_
        simp only [List.set_cons_zero, List.set_cons_succ] at hs
        ((refine Sep.idx hs 1 rfl (by first | omega | (simp only [List.length_set, List.length_map, List.length_replicate, List.length_append, List.length_cons, List.length_nil, List.length_reverse, List.length_range]; omega) | (simp; omega)) (by first | omega | (simp only [List.length_set, List.length_map, List.length_replicate, List.length_append, List.length_cons, List.length_nil, List.length_reverse, List.length_range]; omega) | (simp; omega)) fun aa_4 haa_4 => ?_; try simp only [Int.toNat_natCast] at haa_4); (refine Sep.sst hs 1 rfl haa_4 (by first | omega | (simp only [List.length_set, List.length_map, List.length_replicate, List.length_append, List.length_cons, List.length_nil, List.length_reverse, List.length_range]; omega) | (simp; omega)) fun h hs => ?_; simp only [List.set_cons_zero, List.set_cons_succ] at hs))
        have e : List.drop (Int.toNat 1) (List.take (((ss[k]'(by omega)).n : Int)).toNat (z :: q)) = q := by
          rw [Int.toNat_natCast, hkn, List.take_of_length_le (by simp)]; rfl
        rw [e] at hs
        have hs := Sep.gClose hs (by simpa using hl) (by simpa using hkl)
        have hs : Sep h0 h [_, _, _] := hs.re [1, 0, 2] rfl
        have hq1 : q.length ≤ (ys[k]'hkl).1 := by exact Nat.le_of_succ_le hlq
        exact done h q hq1 hs
    | false =>
      have hs : Sep h0 h [_, _, _] := hs.re [1, 0, 2] rfl
      obtain ⟨ss, hl, hs⟩ := hs.gOpen k (by simpa using hkl)
      rw [List.length_map] at hl
      have hsn := hs.rowLen 1 rfl
      have hkn := hs.rowLen 0 rfl
      rw [hmk] at hs hkn
      have hs : Sep h0 h [_, _, _, _, _] := hs.re [3, 0, 1, 2, 4] rfl
      (refine Sep.ldB hs 4 rfl rfl ?_; simp only [add_mk, Nat.zero_add, Bool.not_true, mIf_false]; refine Sep.ldI hs 4 rfl rfl ?_; (refine Sep.idx hs 2 rfl (by first | omega | (simp only [List.length_set, List.length_map, List.length_replicate, List.length_append, List.length_cons, List.length_nil, List.length_reverse, List.length_range]; omega) | (simp; omega)) (by first | omega | (simp only [List.length_set, List.length_map, List.length_replicate, List.length_append, List.length_cons, List.length_nil, List.length_reverse, List.length_range]; omega) | (simp; omega)) fun aa haa => ?_; try simp only [Int.toNat_natCast] at haa); refine Sep.rldL0 hs 2 rfl (fun _ => rfl) haa (List.getElem?_eq_getElem (by first | omega | (simp only [List.length_set, List.length_map, List.length_replicate, List.length_append, List.length_cons, List.length_nil, List.length_reverse, List.length_range]; omega) | (simp; omega))) rfl ?_)
      refine mIf_intro (fun hc => ?_) (fun hc => ?_)
      · have hc : (ys[k]'hkl).2.length = (ys[k]'hkl).1 := by
          have : (((ss[k]'(by omega)).n : Nat) : Int) = room := by simpa using hc
          rw [hrm.1]; omega
        (refine Sep.ldI hs 4 rfl rfl ?_; refine Sep.ldI hs 4 rfl rfl ?_; simp only [mBind_ap])
        refine (Send_s hs hkl av).mono ?_
        rintro v h ⟨rfl, hs⟩
        rw [if_pos hc] at hs ⊢
        (simp only [unI_int])
        refine mIf_neg (by decide) ?_
        have hs : Sep h0 h [_, _, _, _, _] := hs.re [1, 2, 3, 0, 4] rfl
        have hs := Sep.gShut (by simpa using hl) (by simpa using hkl) hs
        have hs : Sep h0 h [_, _, _] := hs.re [1, 0, 2] rfl
        exact done h (ys[k]'hkl).2 (by omega) hs
      · have hc : ¬ (ys[k]'hkl).2.length = (ys[k]'hkl).1 := by
          have : ¬ (((ss[k]'(by omega)).n : Nat) : Int) = room := by simpa using hc
          rw [hrm.1]; omega
        (refine Sep.ldI hs 4 rfl rfl ?_; refine Sep.ldI hs 4 rfl rfl ?_; simp only [mBind_ap])
        refine (Send_s hs hkl av).mono ?_
        rintro v h ⟨rfl, hs⟩
        rw [if_neg hc] at hs ⊢
        have hq8 := hrm.2
        rw [hrm.1] at hq8
        (simp only [unI_int])
        refine mIf_neg (by decide) ?_
        have fin : ∀ (h : Hp) (nb : Nat) (cs : List Value) (sl : Sl), Sep h0 h [aBlk nb cs, aBoxes b (ys.set k ((ys[k]'hkl).1, (ys[k]'hkl).2 ++ [av])), aRow encInt 1 sl ((ys[k]'hkl).2 ++ [av]), aRow encS 1 rows (ss.set k sl), aAll ((List.zipWith (aRow encInt 1) ss (ys.map (·.2))).eraseIdx k), aBlk x (MAct.enc ⟨false, k, av⟩)] →
            K_signalboxlaw10_MailboxPlays_34 rs (some ⟨b, 0, none⟩) rows ⟨x, 0, none⟩ true ls (ls.n : Int) (i : Int) h (BFin h0) := by
          intro h nb cs sl hs
          have hs : Sep h0 h [_, _, _, _, _, _] := hs.re [2, 3, 4, 1, 5, 0] rfl
          have hs := Sep.gClose hs (by simpa using hl) (by simpa using hkl)
          have hs : Sep h0 h [_, _, _, _] := hs.re [3, 1, 0, 2] rfl
          exact done h _ (by simp; omega) hs.drop
        repeat' (first | with_reducible refine mAnd_intro ?_ ?_ | (first | (((with_reducible refine gd_mLdI ?_); refine Sep.ldI hs 4 rfl rfl ?_)) | (((with_reducible refine gd_mIdx ?_); (refine Sep.idx hs 2 rfl (by first | omega | (simp only [List.length_set, List.length_map, List.length_replicate, List.length_append, List.length_cons, List.length_nil, List.length_reverse, List.length_range]; omega) | (simp; omega)) (by first | omega | (simp only [List.length_set, List.length_map, List.length_replicate, List.length_append, List.length_cons, List.length_nil, List.length_reverse, List.length_range]; omega) | (simp; omega)) fun aa_1 haa_1 => ?_; try simp only [Int.toNat_natCast] at haa_1))) | (((with_reducible refine gd_mLdL ?_); refine Sep.rldL0 hs 2 rfl (fun _ => rfl) (by assumption) (List.getElem?_eq_getElem (by first | omega | (simp only [List.length_set, List.length_map, List.length_replicate, List.length_append, List.length_cons, List.length_nil, List.length_reverse, List.length_range]; omega) | (simp; omega))) rfl ?_)) | (((with_reducible refine gd_mNew ?_); (refine Sep.new hs fun nb h hs => ?_; try simp only [List.toList_toArray] at hs))) | (((with_reducible refine gd_mApp ?_); (refine Sep.app1 hs 2 0 _ rfl rfl (fun _ => rfl) (by simp [Value.oneCell']) rfl (by omega) (by first | omega | (simp only [List.length_set, List.length_map, List.length_replicate, List.length_append, List.length_cons, List.length_nil, List.length_reverse, List.length_range]; omega) | (simp; omega)) fun sl h hn_sl hs => ?_; simp only [List.set_cons_zero, List.set_cons_succ] at hs))) | (((with_reducible refine gd_mIdx ?_); (refine Sep.idx hs 3 rfl (by first | omega | (simp only [List.length_set, List.length_map, List.length_replicate, List.length_append, List.length_cons, List.length_nil, List.length_reverse, List.length_range]; omega) | (simp; omega)) (by first | omega | (simp only [List.length_set, List.length_map, List.length_replicate, List.length_append, List.length_cons, List.length_nil, List.length_reverse, List.length_range]; omega) | (simp; omega)) fun aa_2 haa_2 => ?_; try simp only [Int.toNat_natCast] at haa_2))) | (((with_reducible refine gd_mSt ?_); (refine Sep.sst hs 3 rfl (by assumption) (by first | omega | (simp only [List.length_set, List.length_map, List.length_replicate, List.length_append, List.length_cons, List.length_nil, List.length_reverse, List.length_range]; omega) | (simp; omega)) fun h hs => ?_; simp only [List.set_cons_zero, List.set_cons_succ] at hs))) | (((with_reducible refine gd_mLdL ?_); refine Sep.rldL0 hs 3 rfl (fun _ => rfl) (by assumption) (List.getElem?_eq_getElem (by first | omega | (simp only [List.length_set, List.length_map, List.length_replicate, List.length_append, List.length_cons, List.length_nil, List.length_reverse, List.length_range]; omega) | (simp; omega))) rfl ?_)) | (((with_reducible refine gd_mLdI ?_); refine Sep.ldI hs 5 rfl rfl ?_)) | (((with_reducible refine gd_mIdx ?_); (refine Sep.idx hs 3 rfl (by first | omega | (simp only [List.length_set, List.length_map, List.length_replicate, List.length_append, List.length_cons, List.length_nil, List.length_reverse, List.length_range]; omega) | (simp; omega)) (by first | omega | (simp only [List.length_set, List.length_map, List.length_replicate, List.length_append, List.length_cons, List.length_nil, List.length_reverse, List.length_range]; omega) | (simp; omega)) fun aa_1 haa_1 => ?_; try simp only [Int.toNat_natCast] at haa_1)))))
        all_goals exact fin _ _ _ _ hs
  · rw [decide_eq_false hin] at hP34 ⊢
    have hout : a.i < 0 ∨ (ys.length : Int) ≤ a.i := by omega
    obtain ⟨tk, ai, av⟩ := a
    dsimp only at hin hroom hP34 hout ⊢
    cases tk with
    | true =>
      (refine Sep.ldB hs 2 rfl rfl ?_; simp only [add_mk, Nat.zero_add, Bool.not_false, mIf_true]; refine Sep.ldI hs 2 rfl rfl ?_; simp only [mBind_ap])
      refine (Recv_out hs hout).mono ?_
      rintro v h' ⟨rfl, rfl⟩
      (simp only [un2_tuple, unI_int])
      exact hP34 _ hs
    | false =>
      (refine Sep.ldB hs 2 rfl rfl ?_; simp only [add_mk, Nat.zero_add, Bool.not_false, mIf_true, mIf_false]; refine Sep.ldI hs 2 rfl rfl ?_; refine Sep.ldI hs 2 rfl rfl ?_; simp only [mBind_ap])
      refine (Send_out hs hout av).mono ?_
      rintro v h' ⟨rfl, rfl⟩
      (simp only [unI_int])
      exact hP34 _ hs
theorem mp8 (hz : RdI h0.size h0 .i64 rs rooms) (hrl : rooms.length ≤ 20) (hl : RdE h0.size h0 MAct.enc 3 ls acts) (hlen : acts.length ≤ 150) : ∀ (d i : Nat), i + d = acts.length → BLoop h0 b rs ls rows rooms i
  | 0, i, hi => by
    intro h ys hI hs
    have hln := hl.n
    have hzn := hz.n
    apply S_signalboxlaw10_MailboxPlays_8
    unfold B_signalboxlaw10_MailboxPlays_8
    (rw [decide_eq_false (by omega), mIf_false]; simp only [mBind_ap])
    refine Nf.mono (Q := fun v h' => v = .tuple #[.int .i64 0, .int .i64 6] ∧ h' = h) ?_ ?_
    · apply S_mailbox_Boxes_Recv
      unfold B_mailbox_Boxes_Recv
      rw [mBind_ap]
      refine (at_nil _ _).mono ?_
      rintro v h' ⟨rfl, rfl⟩
      (simp only [unP_pointer, Option.isNone_none, Bool.not_true, mIf_false])
      exact ⟨rfl, rfl⟩
    rintro v h' ⟨rfl, rfl⟩
    (simp only [un2_tuple, unI_int, mBind_ap])
    refine (BLen_s hs).mono ?_
    rintro v h' ⟨rfl, rfl⟩
    (simp only [unI_int, mBind_ap])
    refine mIf_pos (by rw [hI.n, hzn]; simp) ?_
    (simp only [mBind_ap])
    refine (All_out hs (.inl (by omega))).mono ?_
    rintro v h' ⟨rfl, rfl⟩
    (simp only [unL_slice]; rw [mRet_ap])
    refine mIf_pos rfl ?_
    (simp only [mBind_ap])
    refine (BLen_nil _).mono ?_
    rintro v h' ⟨rfl, rfl⟩
    (simp only [unI_int]; rw [mRet_ap])
    refine mIf_pos rfl ?_
    (simp only [mBind_ap])
    refine Nf.mono (Q := fun v h'' => v = .int .i64 6 ∧ h'' = h') ?_ ?_
    · apply S_mailbox_Boxes_Send
      unfold B_mailbox_Boxes_Send
      rw [mBind_ap]
      refine (at_nil _ _).mono ?_
      rintro v h' ⟨rfl, rfl⟩
      (simp only [unP_pointer, Option.isNone_none, Bool.not_true, mIf_false])
      exact ⟨rfl, rfl⟩
    rintro v h' ⟨rfl, rfl⟩
    exact ⟨rfl, hs.under⟩
  | d + 1, i, hi => by
    have hloop := mp8 hz hrl hl hlen d (i + 1) (by omega)
    intro h ys hI hs
    have hln := hl.n
    have hzn := hz.n
    have hyn := hI.n
    apply S_signalboxlaw10_MailboxPlays_8
    unfold B_signalboxlaw10_MailboxPlays_8
    (rw [decide_eq_true (by omega), mIf_true]; refine Sep.argEn hs hl (by first | omega | (simp only [List.length_set, List.length_map, List.length_replicate, List.length_append, List.length_cons, List.length_nil, List.length_reverse, List.length_range]; omega) | (simp; omega)) fun aa haa => ?_; refine Arg.ldB0 haa rfl ?_; refine Arg.ldI haa rfl ?_; refine Arg.ldI haa rfl ?_; (refine Sep.new hs fun nb h hs => ?_; try simp only [List.toList_toArray] at hs); (refine Sep.st hs 0 rfl rfl rfl fun h hs => ?_; simp only [List.set_cons_zero, List.set_cons_succ] at hs); (refine Sep.st hs 0 rfl rfl rfl fun h hs => ?_; simp only [List.set_cons_zero, List.set_cons_succ] at hs); (refine Sep.st hs 0 rfl rfl rfl fun h hs => ?_; simp only [List.set_cons_zero, List.set_cons_succ] at hs); refine Sep.ldI hs 0 rfl rfl ?_; simp only [add_mk, Nat.zero_add, mBind_ap])
    generalize acts[i] = a at *
    have hs : Sep h0 h [_, _, _] := hs.re [1, 2, 0] rfl
    have fin := mp17 (by omega) hloop hI (a := a) (room := 1) (x := nb) (h := h)
    by_cases hin : 0 ≤ a.i ∧ a.i < ys.length
    · obtain ⟨k, hk⟩ : ∃ k : Nat, a.i = k := ⟨a.i.toNat, by omega⟩
      have hkr : k < rooms.length := by omega
      have hkk : ∀ (k' : Nat), a.i = k' → k' = k := fun k' h => by omega
      (rw [decide_eq_true (by omega), mIf_true]; refine Sep.ldI hs 2 rfl rfl ?_; rw [mRet_ap]; rw [decide_eq_true (by omega), mIf_true]; refine Sep.ldI hs 2 rfl rfl ?_)
      rw [hk]
      (refine Sep.argIn hs hz (by first | omega | (simp only [List.length_set, List.length_map, List.length_replicate, List.length_append, List.length_cons, List.length_nil, List.length_reverse, List.length_range]; omega) | (simp; omega)) ?_; rw [mRet_ap])
      refine mIf_dec (fun h1 => ?_) (fun h1 => ?_)
      · (refine Sep.ldI hs 2 rfl rfl ?_)
        rw [hk]
        (refine Sep.argIn hs hz (by first | omega | (simp only [List.length_set, List.length_map, List.length_replicate, List.length_append, List.length_cons, List.length_nil, List.length_reverse, List.length_range]; omega) | (simp; omega)) ?_; rw [mRet_ap])
        refine mIf_dec (fun h2 => ?_) (fun h2 => ?_)
        · (refine Sep.ldI hs 2 rfl rfl ?_)
          rw [hk]
          (refine Sep.argIn hs hz (by first | omega | (simp only [List.length_set, List.length_map, List.length_replicate, List.length_append, List.length_cons, List.length_nil, List.length_reverse, List.length_range]; omega) | (simp; omega)) ?_)
          have := mp17 (by omega) hloop hI (a := a) (room := rooms[k]) (fun k' hk' e => by
            obtain rfl := hkk k' e
            unfold roomOf
            rw [if_neg (by omega)]
            omega) hs
          rw [decide_eq_true hin] at this
          exact this
        · have := mp17 (by omega) hloop hI (a := a) (room := 1) (fun k' hk' e => by
            obtain rfl := hkk k' e
            unfold roomOf
            rw [if_pos (by omega)]
            rfl) hs
          rw [decide_eq_true hin] at this
          exact this
      · (rw [mRet_ap]; simp only [mIf_false])
        have := mp17 (by omega) hloop hI (a := a) (room := 1) (fun k' hk' e => by
          obtain rfl := hkk k' e
          unfold roomOf
          rw [if_pos (by omega)]
          rfl) hs
        rw [decide_eq_true hin] at this
        exact this
    · have := mp17 (by omega) hloop hI (a := a) (room := 1) (fun k' hk' e => by omega) hs
      rw [decide_eq_false hin] at this
      by_cases hneg : a.i < 0
      · (rw [decide_eq_false (by omega), mIf_false]; rw [mRet_ap]; simp only [mIf_false]; rw [mRet_ap]; simp only [mIf_false]; rw [mRet_ap]; simp only [mIf_false])
        exact this
      · (rw [decide_eq_true (by omega), mIf_true]; refine Sep.ldI hs 2 rfl rfl ?_; rw [mRet_ap]; rw [decide_eq_false (by omega), mIf_false]; rw [mRet_ap]; simp only [mIf_false]; rw [mRet_ap]; simp only [mIf_false])
        exact this
theorem MailboxPlays_ok (hz : RdI h0.size h0 .i64 rs rooms) (hl : RdE h0.size h0 MAct.enc 3 ls acts) (_hok : ∀ x ∈ acts, x.ok h0) : N_signalboxlaw10_MailboxPlays rs ls h0 (BFin h0) := by
  have hln := hl.n
  have hzn := hz.n
  apply S_signalboxlaw10_MailboxPlays
  unfold B_signalboxlaw10_MailboxPlays
  rw [mBind_ap]
  refine (fixed10_s (Sep.init h0)).mono ?_
  rintro v h ⟨rfl, hs⟩
  (simp only [unB_bool, Bool.not_true, mIf_false])
  refine mIf_intro (fun _ => ⟨rfl, hs.under⟩) (fun hc => ?_)
  have hc : rooms.length ≤ 20 ∧ acts.length ≤ 150 := by simp at hc; omega
  rw [mBind_ap]
  refine (New_s (hz.now hs) (by omega)).mono ?_
  rintro v h ⟨b, rfl, hs'⟩
  have hs := hs.rebase hs'
  simp only [List.cons_append, List.nil_append] at hs
  (simp only [unP_pointer])
  refine hs.make encS 1 ⟨none, 0, 0⟩ rfl (by omega) (by omega) (by omega) fun rows h hsn hs => ?_
  rw [hzn, Int.toNat_natCast] at hs
  have hs := (hs.gNew encInt 1).swap
  refine mp8 hz hc.1 hl hc.2 acts.length 0 (by omega) h (rooms.map fun n => (roomOf n, [])) ⟨by simp, fun j hj hj' => ?_⟩ ?_
  · rw [List.getElem_map]
    exact ⟨rfl, by simp⟩
  · have e : (rooms.map fun n => (roomOf n, ([] : List Int))).map (·.2) = List.replicate rooms.length [] := by
      rw [List.map_map]
      apply List.ext_getElem
      · simp
      · intro i h1 h2
        simp
    show Sep h0 h [_, aGrid encInt 1 rows ((rooms.map fun n => (roomOf n, ([] : List Int))).map (·.2))]
    rw [e]
    exact hs
end plays
end Go.Proofs.Ytjifoicncenfpaa
