/- Rings: the laws RingTexts and RingPlays. Conditions: none. -/
import Derived.Test.YtkmenmagclojmaaRingL
import Derived.Test.YtkmenmagclojmaaRingA
import Derived.Test.YtkmenmagclojmaaSbS
namespace Go.Proofs.Ytkmenmagclojmaa
open Go Go.Sb

section
variable {h0 h : Hp} {R : List As} {b room : Nat} {q : List Int}
theorem int_Room (hs : Sep h0 h (aRing encInt b room q :: R)) : N_ring_Ring_int_Room (some ⟨b, 0, none⟩) h (fun v h' => v = .int .i64 (room : Int) ∧ h' = h) := by
  obtain ⟨s, cells, fr, hp, hs⟩ := aRing_iff.1 hs
  have hln := hs.rowLen 1 rfl
  apply S_ring_Ring_int_Room
  unfold B_ring_Ring_int_Room
  simp only [Option.isNone_some, mIf_false, mNil_some]
  refine Sep.ldL hs 0 rfl rfl ?_
  exact ⟨by rw [hln, hp.1], rfl⟩
theorem int_Room_nil (h : Hp) : N_ring_Ring_int_Room none h (fun v h' => v = .int .i64 0 ∧ h' = h) := by
  apply S_ring_Ring_int_Room
  unfold B_ring_Ring_int_Room
  simp
theorem int_All3 {s : Sl} {cells : List Int} {fr : Nat} (hm : cells.length ≤ 4096) (hr : RRep cells fr q) : ∀ (d i : Nat) (h : Hp) (out : Sl), i + d = q.length → Sep h0 h (aBlk b [.slice s.p s.n s.c, .int .i64 (fr : Int), .int .i64 (q.length : Int)] :: aRow encInt 1 s cells :: aRow encInt 1 out (q.take i) :: R) →
    K_ring_Ring_int_All_3 (some ⟨b, 0, none⟩) out (q.length : Int) (i : Int) h (fun v h' => ∃ out : Sl, v = .slice out.p out.n out.c ∧ Sep h0 h' (aBlk b [.slice s.p s.n s.c, .int .i64 (fr : Int), .int .i64 (q.length : Int)] :: aRow encInt 1 s cells :: aRow encInt 1 out q :: R))
  | 0, i, h, out, hid, hs => by
    apply S_ring_Ring_int_All_3
    unfold B_ring_Ring_int_All_3
    rw [decide_eq_false (by omega), mIf_false]
    rw [List.take_of_length_le (by omega)] at hs
    exact ⟨out, rfl, hs⟩
  | d + 1, i, h, out, hid, hs => by
    have ih := int_All3 (s := s) hm hr d (i + 1)
    have hql := hr.len
    apply S_ring_Ring_int_All_3
    unfold B_ring_Ring_int_All_3
    rw [decide_eq_true (by omega), mIf_true, mBind_ap]
    refine (int_at hs (by omega) (hr.lo (by omega)) hm (by omega)).mono ?_
    rintro v h' ⟨rfl, a, rfl, ha⟩
    have hi : i < q.length := by omega
    have hx : q[i]? = some q[i] := List.getElem?_eq_getElem hi
    simp only [unP_pointer, mNil_some]
    refine hs.rldI0 1 rfl (fun _ => rfl) ha (hr.at_ i _ hx) rfl ?_
    (refine Sep.new hs fun nb h hs => ?_; try simp only [List.toList_toArray] at hs)
    refine hs.app1 3 0 q[i] rfl rfl (fun _ => rfl) (by simp [Value.oneCell']) rfl (by omega) (by rw [List.length_take]; omega) fun out' h hn hs => ?_
    simp only [List.set_cons_zero, List.set_cons_succ] at hs
    rw [wrap64 _ (by omega), show (i : Int) + 1 = ((i + 1 : Nat) : Int) by omega]
    refine ih h out' (by omega) ?_
    rw [List.take_succ_eq_append_getElem hi]
    exact hs.drop
theorem int_All (hs : Sep h0 h (aRing encInt b room q :: R)) : N_ring_Ring_int_All (some ⟨b, 0, none⟩) h (fun v h' => ∃ out : Sl, v = .slice out.p out.n out.c ∧ Sep h0 h' (aRing encInt b room q :: aRow encInt 1 out q :: R)) := by
  apply S_ring_Ring_int_All
  unfold B_ring_Ring_int_All
  rw [mBind_ap]
  refine (int_Len hs).mono ?_
  rintro v h' ⟨rfl, rfl⟩
  simp only [unI_int]
  obtain ⟨s, cells, fr, ⟨hp, hm, hr⟩, hs⟩ := aRing_iff.1 hs
  have hs := hs.nilRow encInt 1
  have hs := hs.perm ((List.Perm.swap _ _ _).trans ((List.Perm.swap _ _ _).cons _))
  refine Cut.mono (int_All3 (by omega) hr q.length 0 h' ⟨none, 0, 0⟩ (by omega) hs) ?_
  rintro v h' ⟨out, rfl, hs⟩
  exact ⟨out, rfl, aRing_iff.2 ⟨s, cells, fr, ⟨hp, hm, hr⟩, hs⟩⟩
theorem int_All_nil (h : Hp) : N_ring_Ring_int_All none h (fun v h' => v = .slice none 0 0 ∧ h' = h) := by
  apply S_ring_Ring_int_All
  unfold B_ring_Ring_int_All
  rw [mBind_ap]
  refine (int_Len_nil h).mono ?_
  rintro v h' ⟨rfl, rfl⟩
  simp only [unI_int]
  apply S_ring_Ring_int_All_3
  unfold B_ring_Ring_int_All_3
  exact ⟨rfl, rfl⟩
end
theorem rfixed_s {h0 h : Hp} {R : List As} (hs : Sep h0 h R) : N_signalboxlaw03_fixed h (fun v h' => v = .bool true ∧ Sep h0 h' R) := by
  apply S_signalboxlaw03_fixed
  unfold B_signalboxlaw03_fixed
  rw [mBind_ap]
  refine (int_New hs 1 (by decide)).mono ?_
  rintro v h ⟨b, rfl, hs⟩
  simp only [unP_pointer, mBind_ap]
  refine (int_Put hs 7).mono ?_
  rintro v h ⟨rfl, hs⟩
  rw [if_neg (by decide)] at hs ⊢
  simp only [unI_int, mBind_ap]
  refine (int_Put hs 8).mono ?_
  rintro v h ⟨rfl, hs⟩
  rw [if_pos (by decide)] at hs ⊢
  simp only [unI_int, mBind_ap]
  refine (int_Take hs).mono ?_
  rintro v h ⟨rfl, hs⟩
  simp only [List.nil_append, intTk, un2_tuple, unI_int, mBind_ap]
  refine (int_Take hs).mono ?_
  rintro v h ⟨rfl, hs⟩
  simp only [List.nil_append, List.tail_cons, intTk, un2_tuple, unI_int, mBind_ap]
  refine mIf_pos (by decide) ?_
  rw [mBind_ap]
  refine (int_Room hs).mono ?_
  rintro v h' ⟨rfl, rfl⟩
  simp only [unI_int, mRet_ap]
  refine mIf_pos (by decide) ?_
  rw [mBind_ap]
  refine (int_New_bad h' (-1) (by decide)).mono ?_
  rintro v h' ⟨rfl, rfl⟩
  exact ⟨rfl, hs.drop⟩
theorem RingTexts_ok {h : Hp} {ls : Sl} {ts : List ByteArray} {room : Int} (hl : RdE h.size h (fun x => [.string x]) 1 ls ts) (_ : ∀ x ∈ ts, True) (hr : 0 ≤ room ∧ room ≤ 255) :
    N_signalboxlaw03_RingTexts ls room h (fun v h' => v = .bool true ∧ Under h.size h h') := by
  apply S_signalboxlaw03_RingTexts
  unfold B_signalboxlaw03_RingTexts
  rw [mBind_ap]
  refine (rfixed_s (Sep.init h)).mono ?_
  rintro v h1 ⟨rfl, hs⟩
  simp only [unB_bool, Bool.not_true, mIf_false]
  have hln := hl.n
  refine mIf_dec (fun hc => ⟨rfl, hs.under⟩) (fun hc => ?_)
  refine ⟨by decide, ?_⟩
  rw [Int.tmod_eq_emod_of_nonneg hr.1, wrap64 _ (by omega), mBind_ap]
  obtain ⟨n, hn⟩ := Int.eq_ofNat_of_zero_le (by omega : 0 ≤ room % 40)
  rw [hn]
  have hn40 : n < 40 := by omega
  refine (string_New hs n (by unfold ringBad; simp; omega)).mono ?_
  rintro v h2 ⟨b, rfl, hs⟩
  simp only [unP_pointer]
  rw [Int.toNat_natCast] at hs
  have out : ∀ (d i : Nat) (h3 : Hp), i + d = ts.length → Sep h h3 [aRing encStr b n ((ts.take n).drop i)] → K_signalboxlaw03_RingTexts_14 (n : Int) (some ⟨b, 0, none⟩) ls (ls.n : Int) (i : Int) h3 (fun v h' => v = .bool true ∧ Under h.size h h') := by
    intro d
    induction d with
    | zero =>
      intro i h3 hid hs
      apply S_signalboxlaw03_RingTexts_14
      unfold B_signalboxlaw03_RingTexts_14
      rw [decide_eq_false (by omega), mIf_false, mBind_ap]
      refine (string_Len hs).mono ?_
      rintro v h' ⟨rfl, rfl⟩
      simp only [unI_int, mRet_ap]
      have : ((ts.take n).drop i).length = 0 := by simp; omega
      rw [this]
      exact ⟨rfl, hs.under⟩
    | succ d ih =>
      intro i h3 hid hs
      apply S_signalboxlaw03_RingTexts_14
      unfold B_signalboxlaw03_RingTexts_14
      rw [decide_eq_true (by omega), mIf_true]
      refine hs.argE hl (by omega) (by omega) fun a ha => ?_
      have hit : i < ts.length := by omega
      refine mLdS_of (n := ts[i]) (by have := ha 0 _ rfl; rwa [Addr.add_zero'] at this) ?_
      rw [mBind_ap]
      refine (string_Take hs).mono ?_
      rintro v h4 ⟨rfl, hs⟩
      have hnext : Sep h h4 [aRing encStr b n ((ts.take n).drop (i + 1))] := by
        rw [List.tail_drop] at hs; exact hs
      have go : K_signalboxlaw03_RingTexts_14 (n : Int) (some ⟨b, 0, none⟩) ls (ls.n : Int) (IntKind.i64.wrap ((i : Int) + 1)) h4 (fun v h' => v = .bool true ∧ Under h.size h h') := by
        rw [wrap64 _ (by omega), show (i : Int) + 1 = ((i + 1 : Nat) : Int) by omega]
        exact ih (i + 1) h4 (by omega) hnext
      by_cases hin : i < n
      · have e : (ts.take n).drop i = ts[i] :: (ts.take n).drop (i + 1) := by
          rw [List.drop_eq_getElem_cons (by simp; omega)]; simp
        rw [e]
        simp only [stringTk, un2_tuple, unS_string, unI_int, mBind_ap]
        rw [decide_eq_true (by omega : (i : Int) < n), decide_eq_false (by omega : ¬ (i : Int) ≥ n)]
        simp only [mIf_true, mRet_ap, bne_self_eq_false, beq_self_eq_true, Bool.not_true, Bool.or_self, mIf_false, Bool.false_and]
        exact go
      · have e : (ts.take n).drop i = [] := by apply List.length_eq_zero_iff.1; simp; omega
        rw [e]
        simp only [stringTk, un2_tuple, unS_string, unI_int, mBind_ap]
        rw [decide_eq_false (by omega : ¬ (i : Int) < n)]
        simp only [mRet_ap, bne_self_eq_false, mIf_false, Bool.and_false]
        exact go
  have put : ∀ (d i : Nat) (h3 : Hp), i + d = ts.length → Sep h h3 [aRing encStr b n ((ts.take i).take n)] → K_signalboxlaw03_RingTexts_8 ls (n : Int) (some ⟨b, 0, none⟩) ls (ls.n : Int) (i : Int) h3 (fun v h' => v = .bool true ∧ Under h.size h h') := by
    intro d
    induction d with
    | zero =>
      intro i h3 hid hs
      apply S_signalboxlaw03_RingTexts_8
      unfold B_signalboxlaw03_RingTexts_8
      rw [decide_eq_false (by omega), mIf_false]
      refine out ts.length 0 h3 (by omega) ?_
      rw [List.take_of_length_le (l := ts) (by omega)] at hs
      exact hs
    | succ d ih =>
      intro i h3 hid hs
      apply S_signalboxlaw03_RingTexts_8
      unfold B_signalboxlaw03_RingTexts_8
      rw [decide_eq_true (by omega), mIf_true]
      refine hs.argE hl (by omega) (by omega) fun a ha => ?_
      have hit : i < ts.length := by omega
      refine mLdS_of (n := ts[i]) (by have := ha 0 _ rfl; rwa [Addr.add_zero'] at this) ?_
      rw [mBind_ap]
      refine (string_Put hs ts[i]).mono ?_
      rintro v h4 ⟨rfl, hs⟩
      simp only [unI_int]
      have hlen : ((ts.take i).take n).length = min n i := by simp only [List.length_take]; omega
      have go : Sep h h4 [aRing encStr b n ((ts.take (i + 1)).take n)] → K_signalboxlaw03_RingTexts_8 ls (n : Int) (some ⟨b, 0, none⟩) ls (ls.n : Int) (IntKind.i64.wrap ((i : Int) + 1)) h4 (fun v h' => v = .bool true ∧ Under h.size h h') := by
        rw [wrap64 _ (by omega), show (i : Int) + 1 = ((i + 1 : Nat) : Int) by omega]
        exact ih (i + 1) h4 (by omega)
      rw [hlen] at hs ⊢
      by_cases hin : i < n
      · rw [if_neg (by omega)] at hs ⊢
        refine mIf_neg (by rw [decide_eq_true (by omega : (i : Int) < n)]; rfl) (go ?_)
        have e : (ts.take (i + 1)).take n = (ts.take i).take n ++ [ts[i]] := by
          rw [List.take_of_length_le (l := ts.take (i + 1)) (by rw [List.length_take]; omega), List.take_of_length_le (l := ts.take i) (by rw [List.length_take]; omega), List.take_succ_eq_append_getElem hit]
        rw [e]; exact hs
      · rw [if_pos (by omega)] at hs ⊢
        refine mIf_neg (by rw [decide_eq_false (by omega : ¬ (i : Int) < n)]; rfl) (go ?_)
        have e : (ts.take (i + 1)).take n = (ts.take i).take n := by
          rw [List.take_take, List.take_take]; congr 1; omega
        rw [e]; exact hs
  exact put ts.length 0 h2 (by omega) (by simpa using hs)
end Go.Proofs.Ytkmenmagclojmaa
