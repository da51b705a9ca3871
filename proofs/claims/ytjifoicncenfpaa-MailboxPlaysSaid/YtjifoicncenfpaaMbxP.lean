/- Mailboxes: the laws MailboxOrder and MailboxPlays. Conditions: none. -/
import Derived.Test.YtjifoicncenfpaaMbxQ
import Derived.Test.YtjifoicncenfpaaMbxA
import Derived.Test.YtjifoicncenfpaaSbW
namespace Go.Proofs.Ytjifoicncenfpaa
open Go Go.Sb
set_option linter.unusedSimpArgs false
set_option linter.unusedVariables false

abbrev BFin (h0 : Hp) : Value → Hp → Prop := fun v h' => v = .bool true ∧ Under h0.size h0 h'
section
variable {h0 h : Hp} {R : List As}
theorem fixed10_s (hs : Sep h0 h R) : N_signalboxlaw10_fixed h (fun v h' => v = .bool true ∧ Sep h0 h' R) := by
  apply S_signalboxlaw10_fixed
  unfold B_signalboxlaw10_fixed
  (refine Sep.new hs fun nb h hs => ?_; try simp only [List.toList_toArray] at hs)
  have hs := Blk.row (enc := encInt) (sz := 1) (xs := [1, 99]) hs 0 rfl rfl (n := 2) rfl
  simp only [List.set_cons_zero] at hs
  have hz : RdI h.size h .i64 ⟨some ⟨nb, 0, none⟩, 2, 2⟩ [1, 99] := hs.rowI 0 rfl (by intro z hz; simp at hz; rcases hz with rfl | rfl <;> decide)
  have fin : ∀ {h' : Hp} {L : List As}, Sep h h' L → Sep h0 h' R := fun {h'} {L} hs' => (hs.more hs'.under).drop
  clear hs
  rw [mBind_ap]
  refine (New_s hz (by decide)).mono ?_
  rintro v h1 ⟨b, rfl, hs⟩
  rw [show ([1, 99] : List Int).map (fun n => (roomOf n, ([] : List Int))) = [(1, []), (1, [])] by rfl] at hs
  (simp only [unP_pointer, mBind_ap])
  refine (Send_s (i := 0) hs (by decide) 7).mono ?_
  rintro v h2 ⟨rfl, hs⟩
  replace hs : Sep h h2 [aBoxes b [(1, [7]), (1, [])]] := hs
  (simp only [unI_int, mBind_ap])
  refine (Send_s (i := 0) hs (by decide) 8).mono ?_
  rintro v h3 ⟨rfl, hs⟩
  replace hs : Sep h h3 [aBoxes b [(1, [7]), (1, [])]] := hs
  (simp only [unI_int, mBind_ap])
  refine (Send_out (i := 2) hs (by simp) 9).mono ?_
  rintro v h' ⟨rfl, rfl⟩
  (simp only [unI_int, mBind_ap])
  refine (Recv_s (i := 0) hs (by decide)).mono ?_
  rintro v h4 ⟨rfl, hs⟩
  replace hs : Sep h h4 [aBoxes b [(1, []), (1, [])]] := hs
  rw [show intTk (([(1, [7]), (1, [])] : List (Nat × List Int))[0]'(by decide)).2 = .tuple #[.int .i64 7, .int .i64 0] by rfl]
  (simp only [un2_tuple, unI_int, mBind_ap])
  refine (Recv_s (i := 1) hs (by decide)).mono ?_
  rintro v h5 ⟨rfl, hs⟩
  replace hs : Sep h h5 [aBoxes b [(1, []), (1, [])]] := hs
  rw [show intTk (([(1, []), (1, [])] : List (Nat × List Int))[1]'(by decide)).2 = .tuple #[.int .i64 0, .int .i64 8] by rfl]
  (simp only [un2_tuple, unI_int, mBind_ap])
  refine mIf_pos (by rfl) ?_
  (simp only [mBind_ap])
  refine (BLen_s hs).mono ?_
  rintro v h' ⟨rfl, rfl⟩
  (simp only [unI_int]; rw [mRet_ap])
  exact ⟨rfl, fin hs⟩
end
section order
variable {h0 : Hp} {b n : Nat} {ls : Sl} {zs : List Int}
theorem mo14 (hz : RdI h0.size h0 .i64 ls zs) (hlen : zs.length ≤ 60) (hn : 1 ≤ n ∧ n ≤ 8) : ∀ (d k : Nat) (h : Hp), k + d = zs.length → Sep h0 h [aBoxes b [(n, []), (n, (zs.take n).drop k)]] →
    K_signalboxlaw10_MailboxOrder_14 (n : Int) (some ⟨b, 0, none⟩) ls (ls.n : Int) (k : Int) h (BFin h0)
  | 0, k, h, hk, hs => by
    have hln := hz.n
    apply S_signalboxlaw10_MailboxOrder_14
    unfold B_signalboxlaw10_MailboxOrder_14
    (rw [decide_eq_false (by omega), mIf_false]; simp only [mBind_ap])
    refine (Recv_s (i := 0) hs (by simp)).mono ?_
    rintro v h4 ⟨rfl, hs⟩
    show un2 (unI .i64) (unI .i64) (.tuple #[.int .i64 0, .int .i64 8]) _ _ _
    (simp only [un2_tuple, unI_int])
    exact ⟨rfl, hs.under⟩
  | d + 1, k, h, hk, hs => by
    have hln := hz.n
    have ih := mo14 hz hlen hn d (k + 1)
    apply S_signalboxlaw10_MailboxOrder_14
    unfold B_signalboxlaw10_MailboxOrder_14
    (rw [decide_eq_true (by omega), mIf_true]; refine Sep.argIn hs hz (by first | omega | (simp only [List.length_set, List.length_map, List.length_replicate, List.length_append, List.length_cons, List.length_nil, List.length_reverse, List.length_range]; omega) | (simp; omega)) ?_; simp only [mBind_ap])
    refine (Recv_s (i := 1) hs (by simp)).mono ?_
    rintro v h4 ⟨rfl, hs⟩
    replace hs : Sep h0 h4 [aBoxes b [(n, []), (n, ((zs.take n).drop k).tail)]] := hs
    have e : (([(n, []), (n, (zs.take n).drop k)] : List (Nat × List Int))[1]'(by simp)).2 = (zs.take n).drop k := rfl
    rw [e]
    have next : K_signalboxlaw10_MailboxOrder_14 (n : Int) (some ⟨b, 0, none⟩) ls (ls.n : Int) (IntKind.i64.wrap ((k : Int) + 1)) h4 (BFin h0) := by
      rw [wrap64 _ (by omega), show (k : Int) + 1 = ((k + 1 : Nat) : Int) by omega]
      refine ih h4 (by omega) ?_
      rw [List.tail_drop] at hs
      exact hs
    by_cases hkn : k < n
    · have hd : (zs.take n).drop k = zs[k] :: (zs.take n).drop (k + 1) := by
        rw [List.drop_eq_getElem_cons (by rw [List.length_take]; omega)]
        simp
      rw [hd]
      show un2 (unI .i64) (unI .i64) (.tuple #[.int .i64 zs[k], .int .i64 0]) _ _ _
      (simp only [un2_tuple, unI_int, mBind_ap]; rw [decide_eq_true (by omega), mIf_true]; rw [mRet_ap])
      refine mIf_neg (by simp) ?_
      try (rw [mRet_ap])
      try refine mIf_neg (by simp [hkn]) ?_
      exact next
    · have hd : (zs.take n).drop k = [] := List.drop_of_length_le (by rw [List.length_take]; omega)
      rw [hd]
      show un2 (unI .i64) (unI .i64) (.tuple #[.int .i64 0, .int .i64 8]) _ _ _
      (simp only [un2_tuple, unI_int, mBind_ap]; rw [decide_eq_false (by omega), mIf_false]; rw [mRet_ap]; simp only [mIf_false]; rw [mRet_ap])
      try refine mIf_neg (by simp [hkn]) ?_
      try (skip)
      try refine mIf_neg (by simp [hkn]) ?_
      exact next
theorem mo8 (hz : RdI h0.size h0 .i64 ls zs) (hlen : zs.length ≤ 60) (hn : 1 ≤ n ∧ n ≤ 8) : ∀ (d k : Nat) (h : Hp), k + d = zs.length → Sep h0 h [aBoxes b [(n, []), (n, zs.take (min k n))]] →
    K_signalboxlaw10_MailboxOrder_8 ls (n : Int) (some ⟨b, 0, none⟩) ls (ls.n : Int) (k : Int) h (BFin h0)
  | 0, k, h, hk, hs => by
    have hln := hz.n
    apply S_signalboxlaw10_MailboxOrder_8
    unfold B_signalboxlaw10_MailboxOrder_8
    (rw [decide_eq_false (by omega), mIf_false])
    refine mo14 hz hlen hn zs.length 0 h (by omega) ?_
    have e : zs.take (min k n) = (zs.take n).drop 0 := by
      rw [List.drop_zero, show k = zs.length by omega]
      by_cases hle : zs.length ≤ n
      · rw [Nat.min_eq_left hle, List.take_of_length_le (Nat.le_refl _), List.take_of_length_le hle]
      · rw [Nat.min_eq_right (by omega)]
    rw [← e]
    exact hs
  | d + 1, k, h, hk, hs => by
    have hln := hz.n
    have ih := mo8 hz hlen hn d (k + 1)
    apply S_signalboxlaw10_MailboxOrder_8
    unfold B_signalboxlaw10_MailboxOrder_8
    (rw [decide_eq_true (by omega), mIf_true]; refine Sep.argIn hs hz (by first | omega | (simp only [List.length_set, List.length_map, List.length_replicate, List.length_append, List.length_cons, List.length_nil, List.length_reverse, List.length_range]; omega) | (simp; omega)) ?_; simp only [mBind_ap])
    refine (Send_s (i := 1) hs (by simp) zs[k]).mono ?_
    rintro v h4 ⟨rfl, hs⟩
    have hq : (zs.take (min k n)).length = min k n := by rw [List.length_take]; omega
    replace hs : Sep h0 h4 [aBoxes b [(n, []), (n, if (zs.take (min k n)).length = n then zs.take (min k n) else zs.take (min k n) ++ [zs[k]])]] := hs
    rw [unI_int]
    show mIf (!(((if (zs.take (min k n)).length = n then (7 : Int) else 0) == 0) == decide ((k : Int) < n))) _ _ _ _
    rw [hq] at hs ⊢
    rw [wrap64 _ (by omega), show (k : Int) + 1 = ((k + 1 : Nat) : Int) by omega]
    by_cases hkn : k < n
    · rw [if_neg (by omega)] at hs ⊢
      refine mIf_neg (by simp [hkn]) ?_
      refine ih h4 (by omega) ?_
      rw [Nat.min_eq_left (by omega)] at hs
      rw [Nat.min_eq_left (by omega), List.take_succ_eq_append_getElem (by omega)]
      exact hs
    · rw [if_pos (by omega)] at hs ⊢
      refine mIf_neg (by simp [hkn]) ?_
      refine ih h4 (by omega) ?_
      rw [Nat.min_eq_right (by omega)] at hs ⊢
      exact hs
theorem MailboxOrder_ok {a : Int} (ha : 0 ≤ a ∧ a ≤ 255) (hz : RdI h0.size h0 .i64 ls zs) : N_signalboxlaw10_MailboxOrder a ls h0 (BFin h0) := by
  have hln := hz.n
  apply S_signalboxlaw10_MailboxOrder
  unfold B_signalboxlaw10_MailboxOrder
  rw [mBind_ap]
  refine (fixed10_s (Sep.init h0)).mono ?_
  rintro v h ⟨rfl, hs⟩
  (simp only [unB_bool, Bool.not_true, mIf_false])
  refine mIf_dec (fun _ => ⟨rfl, hs.under⟩) (fun hc => ?_)
  refine ⟨by omega, ?_⟩
  have h1 := Int.emod_lt_of_pos a (show (0 : Int) < 8 by omega)
  have h2 := Int.emod_nonneg a (show (8 : Int) ≠ 0 by omega)
  obtain ⟨n, hn, hn1⟩ : ∃ n : Nat, IntKind.i64.wrap (1 + IntKind.i64.wrap (Int.tmod a 8)) = (n : Int) ∧ 1 ≤ n ∧ n ≤ 8 := by
    rw [Int.tmod_eq_emod_of_nonneg ha.1, wrap64 (a % 8) (by omega), wrap64 _ (by omega)]
    exact ⟨(1 + a % 8).toNat, by omega, by omega, by omega⟩
  rw [hn]
  (refine Sep.new hs fun nb h hs => ?_; try simp only [List.toList_toArray] at hs)
  have hs := Blk.row (enc := encInt) (sz := 1) (xs := [(n : Int), (n : Int)]) hs 0 rfl rfl (n := 2) rfl
  simp only [List.set_cons_zero] at hs
  have hz' : RdI h.size h .i64 ⟨some ⟨nb, 0, none⟩, 2, 2⟩ [(n : Int), (n : Int)] := hs.rowI 0 rfl (by
    intro z hz
    simp at hz
    subst hz
    rw [show IntKind.i64.min = -9223372036854775808 by decide, show IntKind.i64.max = 9223372036854775807 by decide]
    omega)
  rw [mBind_ap]
  refine (New_s hz' (by simp)).mono ?_
  rintro v h1 ⟨b, rfl, hs'⟩
  have hs := hs.rebase hs'
  (simp only [unP_pointer])
  have hr : roomOf (n : Int) = n := by unfold roomOf; rw [if_neg (by omega)]; simp
  have e : ([(n : Int), (n : Int)] : List Int).map (fun n => (roomOf n, ([] : List Int))) = [(n, []), (n, [])] := by simp [hr]
  rw [e] at hs
  refine mo8 hz (by omega) hn1 zs.length 0 h1 (by omega) ?_
  simpa using hs.only
end order
end Go.Proofs.Ytjifoicncenfpaa
