/- Mailboxes: what each call answers, and the law MailboxOrder. Conditions: none. -/
import Derived.Test.YtjifoicncenfpaaMbxL
import Derived.Test.YtjifoicncenfpaaSbW
namespace Go.Proofs.Ytjifoicncenfpaa
open Go Go.Sb
set_option linter.unusedSimpArgs false
set_option linter.unusedVariables false

abbrev encP : Option Addr → List Value := fun p => [.pointer p]
def aBox (p : Option Addr) (y : Nat × List Int) : As := aEx fun b : Nat => aStar (aPure (p = some ⟨b, 0, none⟩)) (aRing encInt b y.1 y.2)
def aBoxes (b : Nat) (ys : List (Nat × List Int)) : As := aEx fun s : Sl => aStar (aBlk b [.slice s.p s.n s.c]) (aHR encP 1 aBox s ys)
section
variable {h0 h : Hp} {R : List As} {b : Nat} {ys : List (Nat × List Int)}
theorem aBox_iff {p : Option Addr} {y : Nat × List Int} : Sep h0 h (aBox p y :: R) ↔ ∃ b, p = some ⟨b, 0, none⟩ ∧ Sep h0 h (aRing encInt b y.1 y.2 :: R) := by
  unfold aBox; rw [Sep.ex]; simp only [Sep.star, Sep.pure]
theorem aBoxes_iff : Sep h0 h (aBoxes b ys :: R) ↔ ∃ s : Sl, Sep h0 h (aBlk b [.slice s.p s.n s.c] :: aHR encP 1 aBox s ys :: R) := by
  unfold aBoxes; rw [Sep.ex]; simp only [Sep.star]
theorem BLen_s (hs : Sep h0 h (aBoxes b ys :: R)) : N_mailbox_Boxes_Len (some ⟨b, 0, none⟩) h (fun v h' => v = .int .i64 ys.length ∧ h' = h) := by
  obtain ⟨s, hs⟩ := aBoxes_iff.1 hs
  have hn := hs.swap.hLen
  apply S_mailbox_Boxes_Len
  unfold B_mailbox_Boxes_Len
  (simp only [Option.isNone_some, mNil_some, mIf_false]; refine Sep.ldL hs 0 rfl rfl ?_)
  rw [hn]
  exact ⟨rfl, rfl⟩
theorem BLen_nil (h : Hp) : N_mailbox_Boxes_Len none h (fun v h' => v = .int .i64 0 ∧ h' = h) := by
  apply S_mailbox_Boxes_Len
  unfold B_mailbox_Boxes_Len
  simp
theorem at_out (hs : Sep h0 h (aBoxes b ys :: R)) {i : Int} (hi : i < 0 ∨ (ys.length : Int) ≤ i) : N_mailbox_Boxes_at (some ⟨b, 0, none⟩) i h (fun v h' => v = .pointer none ∧ h' = h) := by
  apply S_mailbox_Boxes_at
  unfold B_mailbox_Boxes_at
  rw [mBind_ap]
  by_cases h0 : i < 0
  · (simp only [mNil_some]; rw [decide_eq_true (by omega), mIf_true]; rw [mRet_ap]; simp only [mIf_true])
    exact ⟨rfl, rfl⟩
  · (simp only [mNil_some]; rw [decide_eq_false (by omega), mIf_false]; simp only [mBind_ap])
    refine (BLen_s hs).mono ?_
    rintro v h' ⟨rfl, rfl⟩
    (simp only [unI_int]; rw [mRet_ap]; rw [decide_eq_true (by omega), mIf_true])
    exact ⟨rfl, rfl⟩
theorem at_nil (h : Hp) (i : Int) : N_mailbox_Boxes_at none i h (fun v h' => v = .pointer none ∧ h' = h) := by
  apply S_mailbox_Boxes_at
  unfold B_mailbox_Boxes_at
  rw [mBind_ap]
  by_cases h0 : i < 0
  · (rw [decide_eq_true (by omega), mIf_true]; rw [mRet_ap]; simp only [mIf_true])
    exact ⟨rfl, rfl⟩
  · (rw [decide_eq_false (by omega), mIf_false]; simp only [mBind_ap])
    refine (BLen_nil _).mono ?_
    rintro v h' ⟨rfl, rfl⟩
    (simp only [unI_int]; rw [mRet_ap]; rw [decide_eq_true (by omega), mIf_true])
    exact ⟨rfl, rfl⟩
/-- the ring of a mailbox, taken out -/
theorem at_s (hs : Sep h0 h (aBoxes b ys :: R)) {i : Nat} (hi : i < ys.length) : N_mailbox_Boxes_at (some ⟨b, 0, none⟩) i h (fun v h' => h' = h ∧ ∃ rb, v = .pointer (some ⟨rb, 0, none⟩) ∧ ∃ H, Sep h0 h (aRing encInt rb (ys[i]'hi).1 (ys[i]'hi).2 :: H) ∧ ∀ h' y', Sep h0 h' (aRing encInt rb y'.1 y'.2 :: H) → Sep h0 h' (aBoxes b (ys.set i y') :: R)) := by
  apply S_mailbox_Boxes_at
  unfold B_mailbox_Boxes_at
  (simp only [mNil_some, mBind_ap]; rw [decide_eq_false (by omega), mIf_false]; simp only [mBind_ap])
  refine (BLen_s hs).mono ?_
  rintro v h' ⟨rfl, rfl⟩
  obtain ⟨s, hs⟩ := aBoxes_iff.1 hs
  have hn := hs.swap.hLen
  (simp only [unI_int]; rw [mRet_ap]; rw [decide_eq_false (by omega), mIf_false]; refine Sep.ldL hs 0 rfl rfl ?_)
  obtain ⟨ss, hl, hs⟩ := hs.swap.hOpen i hi
  obtain ⟨rb, hrb, hs⟩ := aBox_iff.1 hs
  have hsn := hs.rowLen 1 rfl
  ((refine Sep.idx hs 1 rfl (by first | omega | (simp only [List.length_set, List.length_map, List.length_replicate, List.length_append, List.length_cons, List.length_nil, List.length_reverse, List.length_range]; omega) | (simp; omega)) (by first | omega | (simp only [List.length_set, List.length_map, List.length_replicate, List.length_append, List.length_cons, List.length_nil, List.length_reverse, List.length_range]; omega) | (simp; omega)) fun aa haa => ?_; try simp only [Int.toNat_natCast] at haa); refine Sep.rldP0 hs 1 rfl (fun _ => rfl) haa (List.getElem?_eq_getElem (by first | omega | (simp only [List.length_set, List.length_map, List.length_replicate, List.length_append, List.length_cons, List.length_nil, List.length_reverse, List.length_range]; omega) | (simp; omega))) rfl ?_)
  rw [hrb]
  refine ⟨rfl, rb, rfl, _, hs, fun h' y' hs' => ?_⟩
  have hs' := aBox_iff.2 ⟨rb, hrb, hs'⟩
  have hs' := Sep.hShut hl hi hs'
  exact aBoxes_iff.2 ⟨s, hs'.swap⟩
theorem Send_s (hs : Sep h0 h (aBoxes b ys :: R)) {i : Nat} (hi : i < ys.length) (x : Int) : N_mailbox_Boxes_Send (some ⟨b, 0, none⟩) i x h (fun v h' => v = .int .i64 (if ys[i].2.length = ys[i].1 then 7 else 0) ∧ Sep h0 h' (aBoxes b (ys.set i (ys[i].1, if ys[i].2.length = ys[i].1 then ys[i].2 else ys[i].2 ++ [x])) :: R)) := by
  apply S_mailbox_Boxes_Send
  unfold B_mailbox_Boxes_Send
  rw [mBind_ap]
  refine (at_s hs hi).mono ?_
  rintro v h' ⟨rfl, rb, rfl, H, hs, hback⟩
  (simp only [unP_pointer, Option.isNone_some, Bool.not_false, mIf_true, mBind_ap])
  refine (int_Put hs x).mono ?_
  rintro v h' ⟨rfl, hs⟩
  (simp only [unI_int])
  exact ⟨rfl, hback _ (ys[i].1, _) hs⟩
theorem Send_out (hs : Sep h0 h (aBoxes b ys :: R)) {i : Int} (hi : i < 0 ∨ (ys.length : Int) ≤ i) (x : Int) : N_mailbox_Boxes_Send (some ⟨b, 0, none⟩) i x h (fun v h' => v = .int .i64 6 ∧ h' = h) := by
  apply S_mailbox_Boxes_Send
  unfold B_mailbox_Boxes_Send
  rw [mBind_ap]
  refine (at_out hs hi).mono ?_
  rintro v h' ⟨rfl, rfl⟩
  (simp only [unP_pointer, Option.isNone_none, Bool.not_true, mIf_false])
  exact ⟨rfl, rfl⟩
theorem Recv_s (hs : Sep h0 h (aBoxes b ys :: R)) {i : Nat} (hi : i < ys.length) : N_mailbox_Boxes_Recv (some ⟨b, 0, none⟩) i h (fun v h' => v = intTk ys[i].2 ∧ Sep h0 h' (aBoxes b (ys.set i (ys[i].1, ys[i].2.tail)) :: R)) := by
  apply S_mailbox_Boxes_Recv
  unfold B_mailbox_Boxes_Recv
  rw [mBind_ap]
  refine (at_s hs hi).mono ?_
  rintro v h' ⟨rfl, rb, rfl, H, hs, hback⟩
  (simp only [unP_pointer, Option.isNone_some, Bool.not_false, mIf_true, mBind_ap])
  refine (int_Take hs).mono ?_
  rintro v h' ⟨rfl, hs⟩
  have := hback _ (ys[i].1, ys[i].2.tail) hs
  revert this
  cases ys[i].2 with
  | nil => intro hs; unfold intTk; (simp only [un2_tuple, unI_int]); exact ⟨rfl, hs⟩
  | cons x q => intro hs; unfold intTk; (simp only [un2_tuple, unI_int]); exact ⟨rfl, hs⟩
theorem Recv_out (hs : Sep h0 h (aBoxes b ys :: R)) {i : Int} (hi : i < 0 ∨ (ys.length : Int) ≤ i) : N_mailbox_Boxes_Recv (some ⟨b, 0, none⟩) i h (fun v h' => v = .tuple #[.int .i64 0, .int .i64 6] ∧ h' = h) := by
  apply S_mailbox_Boxes_Recv
  unfold B_mailbox_Boxes_Recv
  rw [mBind_ap]
  refine (at_out hs hi).mono ?_
  rintro v h' ⟨rfl, rfl⟩
  (simp only [unP_pointer, Option.isNone_none, Bool.not_true, mIf_false])
  exact ⟨rfl, rfl⟩
theorem rAll_s {room : Nat} {q : List Int} (hs : Sep h0 h (aRing encInt b room q :: R)) : N_ring_Ring_int_All (some ⟨b, 0, none⟩) h (fun v h' => ∃ out : Sl, v = .slice out.p out.n out.c ∧ Sep h0 h' (aRing encInt b room q :: aRow encInt 1 out q :: R)) := by
  apply S_ring_Ring_int_All
  unfold B_ring_Ring_int_All
  rw [mBind_ap]
  refine (int_Len hs).mono ?_
  rintro v h' ⟨rfl, rfl⟩
  (simp only [unI_int])
  obtain ⟨s, cells, fr, ⟨hp, hm, hr⟩, hs⟩ := aRing_iff.1 hs
  have hql := hr.len
  have loop : ∀ (d k : Nat) (h : Hp) (out : Sl), k + d = q.length → Sep h0 h (aRow encInt 1 out (q.take k) :: aBlk b [.slice s.p s.n s.c, .int .i64 (fr : Int), .int .i64 (q.length : Int)] :: aRow encInt 1 s cells :: R) →
      K_ring_Ring_int_All_3 (some ⟨b, 0, none⟩) out (q.length : Int) (k : Int) h (fun v h' => ∃ out : Sl, v = .slice out.p out.n out.c ∧ Sep h0 h' (aRing encInt b room q :: aRow encInt 1 out q :: R)) := by
    intro d
    induction d with
    | zero =>
      intro k h out hk hs
      apply S_ring_Ring_int_All_3
      unfold B_ring_Ring_int_All_3
      (rw [decide_eq_false (by omega), mIf_false])
      rw [List.take_of_length_le (by omega)] at hs
      have hs := Sep.reT 3 hs [1, 2, 0] rfl (by simp)
      exact ⟨out, rfl, aRing_iff.2 ⟨s, cells, fr, ⟨hp, hm, hr⟩, hs⟩⟩
    | succ d ih =>
      intro k h out hk hs
      have hkq : k < q.length := by omega
      apply S_ring_Ring_int_All_3
      unfold B_ring_Ring_int_All_3
      (rw [decide_eq_true (by omega), mIf_true]; simp only [mBind_ap])
      refine (int_at (Sep.reT 3 hs [1, 2, 0] rfl (by simp)) (by omega) (hr.lo (by omega)) (by omega) (by omega)).mono ?_
      rintro v h' ⟨rfl, a, rfl, ha⟩
      simp only [unP_pointer, mNil_some]
      have hget := hr.at_ k q[k] (List.getElem?_eq_getElem hkq)
      refine hs.rldI0 2 rfl (fun _ => rfl) ha hget rfl ?_
      ((refine Sep.new hs fun nb h hs => ?_; try simp only [List.toList_toArray] at hs); (refine Sep.app1 hs 1 0 _ rfl rfl (fun _ => rfl) (by simp [Value.oneCell']) rfl (by omega) (by first | omega | (simp only [List.length_set, List.length_map, List.length_replicate, List.length_append, List.length_cons, List.length_nil, List.length_reverse, List.length_range]; omega) | (simp; omega)) fun sl h hn_sl hs => ?_; simp only [List.set_cons_zero, List.set_cons_succ] at hs))
      rw [wrap64 _ (by omega), show (k : Int) + 1 = ((k + 1 : Nat) : Int) by omega]
      refine ih (k + 1) _ _ (by omega) ?_
      rw [List.take_succ_eq_append_getElem hkq]
      exact hs.drop
  exact loop q.length 0 _ ⟨none, 0, 0⟩ (by omega) (hs.nilRow encInt 1)
theorem All_s (hs : Sep h0 h (aBoxes b ys :: R)) {i : Nat} (hi : i < ys.length) : N_mailbox_Boxes_All (some ⟨b, 0, none⟩) i h (fun v h' => ∃ out : Sl, v = .slice out.p out.n out.c ∧ Sep h0 h' (aBoxes b ys :: aRow encInt 1 out ys[i].2 :: R)) := by
  apply S_mailbox_Boxes_All
  unfold B_mailbox_Boxes_All
  rw [mBind_ap]
  refine Nf.mono (Q := fun v h' => h' = h ∧ ∃ rb, v = .pointer (some ⟨rb, 0, none⟩) ∧ ∃ H, Sep h0 h (aRing encInt rb (ys[i]'hi).1 (ys[i]'hi).2 :: H) ∧ ∀ h' out, Sep h0 h' (aRing encInt rb (ys[i]'hi).1 (ys[i]'hi).2 :: aRow encInt 1 out (ys[i]'hi).2 :: H) → Sep h0 h' (aBoxes b ys :: aRow encInt 1 out (ys[i]'hi).2 :: R)) ?_ ?_
  · apply S_mailbox_Boxes_at
    unfold B_mailbox_Boxes_at
    (simp only [mNil_some, mBind_ap]; rw [decide_eq_false (by omega), mIf_false]; simp only [mBind_ap])
    refine (BLen_s hs).mono ?_
    rintro v h' ⟨rfl, rfl⟩
    obtain ⟨s, hs⟩ := aBoxes_iff.1 hs
    have hn := hs.swap.hLen
    (simp only [unI_int]; rw [mRet_ap]; rw [decide_eq_false (by omega), mIf_false]; refine Sep.ldL hs 0 rfl rfl ?_)
    obtain ⟨ss, hl, hs⟩ := hs.swap.hOpen i hi
    obtain ⟨rb, hrb, hs⟩ := aBox_iff.1 hs
    have hsn := hs.rowLen 1 rfl
    ((refine Sep.idx hs 1 rfl (by first | omega | (simp only [List.length_set, List.length_map, List.length_replicate, List.length_append, List.length_cons, List.length_nil, List.length_reverse, List.length_range]; omega) | (simp; omega)) (by first | omega | (simp only [List.length_set, List.length_map, List.length_replicate, List.length_append, List.length_cons, List.length_nil, List.length_reverse, List.length_range]; omega) | (simp; omega)) fun aa haa => ?_; try simp only [Int.toNat_natCast] at haa); refine Sep.rldP0 hs 1 rfl (fun _ => rfl) haa (List.getElem?_eq_getElem (by first | omega | (simp only [List.length_set, List.length_map, List.length_replicate, List.length_append, List.length_cons, List.length_nil, List.length_reverse, List.length_range]; omega) | (simp; omega))) rfl ?_)
    rw [hrb]
    refine ⟨rfl, rb, rfl, _, hs, fun h' out hs' => ?_⟩
    have hs' := aBox_iff.2 ⟨rb, hrb, hs'⟩
    have hs' := Sep.hShut hl hi (Sep.reT 5 hs' [0, 2, 3, 4, 1] rfl (by simp))
    rw [List.set_getElem_self] at hs'
    exact aBoxes_iff.2 ⟨s, Sep.reT 3 hs' [1, 0, 2] rfl (by simp)⟩
  rintro v h' ⟨rfl, rb, rfl, H, hs, hback⟩
  (simp only [unP_pointer, mBind_ap])
  refine (rAll_s hs).mono ?_
  rintro v h' ⟨out, rfl, hs⟩
  (simp only [unL_slice])
  exact ⟨out, rfl, hback _ _ hs⟩
theorem All_out (hs : Sep h0 h (aBoxes b ys :: R)) {i : Int} (hi : i < 0 ∨ (ys.length : Int) ≤ i) : N_mailbox_Boxes_All (some ⟨b, 0, none⟩) i h (fun v h' => v = .slice none 0 0 ∧ h' = h) := by
  apply S_mailbox_Boxes_All
  unfold B_mailbox_Boxes_All
  rw [mBind_ap]
  refine (at_out hs hi).mono ?_
  rintro v h' ⟨rfl, rfl⟩
  (simp only [unP_pointer, mBind_ap])
  refine Nf.mono (Q := fun v h'' => v = .slice none 0 0 ∧ h'' = h') ?_ ?_
  · apply S_ring_Ring_int_All
    unfold B_ring_Ring_int_All
    rw [mBind_ap]
    refine (int_Len_nil _).mono ?_
    rintro v h' ⟨rfl, rfl⟩
    (simp only [unI_int])
    apply S_ring_Ring_int_All_3
    unfold B_ring_Ring_int_All_3
    (simp only; rw [decide_eq_false (by omega), mIf_false])
    exact ⟨rfl, rfl⟩
  rintro v h' ⟨rfl, rfl⟩
  (simp only [unL_slice])
  exact ⟨rfl, rfl⟩
def roomOf (n : Int) : Nat := if n < 1 ∨ n > 8 then 1 else n.toNat
end
section new
variable {h1 : Hp} {rs : Sl} {rooms : List Int}
theorem New_s (hz : RdI h1.size h1 .i64 rs rooms) (hlen : rooms.length ≤ 1000) : N_mailbox_New rs h1 (fun v h' => ∃ b, v = .pointer (some ⟨b, 0, none⟩) ∧ Sep h1 h' [aBoxes b (rooms.map fun n => (roomOf n, []))]) := by
  have hln := hz.n
  apply S_mailbox_New
  unfold B_mailbox_New
  have hs := Sep.init h1
  (refine Sep.new hs fun nb h hs => ?_; try simp only [List.toList_toArray] at hs)
  have loop : ∀ (d k : Nat) (h : Hp), k + d = rooms.length → Sep h1 h [aBoxes nb ((rooms.take k).map fun n => (roomOf n, []))] →
      K_mailbox_New_3 ⟨nb, 0, none⟩ rs (rs.n : Int) (k : Int) h (fun v h' => ∃ b, v = .pointer (some ⟨b, 0, none⟩) ∧ Sep h1 h' [aBoxes b (rooms.map fun n => (roomOf n, []))]) := by
    intro d
    induction d with
    | zero =>
      intro k h hk hs
      apply S_mailbox_New_3
      unfold B_mailbox_New_3
      (rw [decide_eq_false (by omega), mIf_false])
      rw [List.take_of_length_le (by omega)] at hs
      exact ⟨nb, rfl, hs⟩
    | succ d ih =>
      intro k h hk hs
      have hkl : k < rooms.length := by omega
      have htk : rooms.take (k + 1) = rooms.take k ++ [rooms[k]] := List.take_succ_eq_append_getElem hkl
      apply S_mailbox_New_3
      unfold B_mailbox_New_3
      (rw [decide_eq_true (by omega), mIf_true]; refine Sep.argIn hs hz (by first | omega | (simp only [List.length_set, List.length_map, List.length_replicate, List.length_append, List.length_cons, List.length_nil, List.length_reverse, List.length_range]; omega) | (simp; omega)) ?_)
      have k7 : ∀ n : Int, n = roomOf rooms[k] → 1 ≤ n → n ≤ 8 → K_mailbox_New_7 ⟨nb, 0, none⟩ n rs (rs.n : Int) (k : Int) h (fun v h' => ∃ b, v = .pointer (some ⟨b, 0, none⟩) ∧ Sep h1 h' [aBoxes b (rooms.map fun n => (roomOf n, []))]) := by
        intro n hn n1 n8
        obtain ⟨s, hs⟩ := aBoxes_iff.1 hs
        obtain ⟨ss, hl, hs⟩ := aHR_iff.1 hs.swap
        have hsl : ss.length = k := by rw [hl]; simp; omega
        have fin : ∀ (h : Hp) (rb : Nat) (sl : Sl) (X : List As), Sep h1 h (aBlk nb [.slice sl.p sl.n sl.c] :: aRing encInt rb n.toNat [] :: aRow encP 1 sl (ss ++ [some ⟨rb, 0, none⟩]) :: aAll (List.zipWith aBox ss ((rooms.take k).map fun n => (roomOf n, []))) :: X) →
            K_mailbox_New_3 ⟨nb, 0, none⟩ rs (rs.n : Int) (IntKind.i64.wrap ((k : Int) + 1)) h (fun v h' => ∃ b, v = .pointer (some ⟨b, 0, none⟩) ∧ Sep h1 h' [aBoxes b (rooms.map fun n => (roomOf n, []))]) := by
          intro h rb sl X hs
          rw [wrap64 _ (by omega), show (k : Int) + 1 = ((k + 1 : Nat) : Int) by omega]
          refine ih (k + 1) h (by omega) ?_
          rw [htk, List.map_append]
          have hs := aBox_iff (y := (n.toNat, [])).2 ⟨rb, rfl, hs.swap⟩
          have hs := Sep.hPush (y := (n.toNat, [])) hl (Sep.reT 4 hs [0, 2, 3, 1] rfl (by simp))
          rw [show n.toNat = roomOf rooms[k] by omega] at hs
          have hs := aBoxes_iff.2 ⟨sl, hs.swap⟩
          exact hs.only
        have hbad : ringBad n = false := by unfold ringBad; simp; omega
        apply S_mailbox_New_7
        unfold B_mailbox_New_7
        refine mAnd_intro ?_ ?_
        · have hs : Sep h1 h [_, _, _] := hs.re [2, 0, 1] rfl
          (refine Sep.ldL hs 0 rfl rfl ?_; simp only [mBind_ap])
          refine (int_New hs n hbad).mono ?_
          rintro v h ⟨rb, rfl, hs⟩
          (simp only [unP_pointer]; (refine Sep.new hs fun nb_1 h hs => ?_; try simp only [List.toList_toArray] at hs); (refine Sep.app1 hs 3 0 _ rfl rfl (fun _ => rfl) (by simp [Value.oneCell']) rfl (by omega) (by first | omega | (simp only [List.length_set, List.length_map, List.length_replicate, List.length_append, List.length_cons, List.length_nil, List.length_reverse, List.length_range]; omega) | (simp; omega)) fun sl h hn_sl hs => ?_; simp only [List.set_cons_zero, List.set_cons_succ] at hs); (refine Sep.st hs 2 rfl rfl rfl fun h hs => ?_; simp only [List.set_cons_zero, List.set_cons_succ] at hs))
          exact fin h rb _ _ (Sep.reT 5 hs [2, 1, 3, 4, 0] rfl (by simp))
        · have hs : Sep h1 h [_, _, _] := hs.re [2, 0, 1] rfl
          rw [mBind_ap]
          refine (int_New hs n hbad).mono ?_
          rintro v h ⟨rb, rfl, hs⟩
          (simp only [unP_pointer])
          refine mAnd_intro ?_ ?_
          · (refine Sep.ldL hs 1 rfl rfl ?_; (refine Sep.new hs fun nb_1 h hs => ?_; try simp only [List.toList_toArray] at hs); (refine Sep.app1 hs 3 0 _ rfl rfl (fun _ => rfl) (by simp [Value.oneCell']) rfl (by omega) (by first | omega | (simp only [List.length_set, List.length_map, List.length_replicate, List.length_append, List.length_cons, List.length_nil, List.length_reverse, List.length_range]; omega) | (simp; omega)) fun sl h hn_sl hs => ?_; simp only [List.set_cons_zero, List.set_cons_succ] at hs); (refine Sep.st hs 2 rfl rfl rfl fun h hs => ?_; simp only [List.set_cons_zero, List.set_cons_succ] at hs))
            exact fin h rb _ _ (Sep.reT 5 hs [2, 1, 3, 4, 0] rfl (by simp))
          · ((refine Sep.new hs fun nb_1 h hs => ?_; try simp only [List.toList_toArray] at hs); refine Sep.ldL hs 2 rfl rfl ?_; (refine Sep.app1 hs 3 0 _ rfl rfl (fun _ => rfl) (by simp [Value.oneCell']) rfl (by omega) (by first | omega | (simp only [List.length_set, List.length_map, List.length_replicate, List.length_append, List.length_cons, List.length_nil, List.length_reverse, List.length_range]; omega) | (simp; omega)) fun sl h hn_sl hs => ?_; simp only [List.set_cons_zero, List.set_cons_succ] at hs); (refine Sep.st hs 2 rfl rfl rfl fun h hs => ?_; simp only [List.set_cons_zero, List.set_cons_succ] at hs))
            exact fin h rb _ _ (Sep.reT 5 hs [2, 1, 3, 4, 0] rfl (by simp))
      refine mIf_intro (fun hc => ?_) (fun hc => ?_)
      · exact k7 1 (by unfold roomOf; rw [if_pos (by simpa using hc)]; rfl) (by omega) (by omega)
      · have hc : ¬ (rooms[k] < 1 ∨ rooms[k] > 8) := by simpa using hc
        exact k7 _ (by unfold roomOf; rw [if_neg hc]; omega) (by omega) (by omega)
  have hs := aBoxes_iff.2 ⟨⟨none, 0, 0⟩, ((hs.nilRow encP 1).hNil (f := aBox)).swap⟩
  exact loop rooms.length 0 h (by omega) (by simpa using hs)
end new
end Go.Proofs.Ytjifoicncenfpaa
