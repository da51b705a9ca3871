/- Locks for many readers: the law RwlockNone. Conditions: none. -/
import Derived.Test.YtbpnpmknamghkaaRwQ
import Derived.Test.YtbpnpmknamghkaaSbW
namespace Go.Proofs.Ytbpnpmknamghkaa
open Go Go.Sb
set_option linter.unusedSimpArgs false
set_option linter.unusedVariables false
section
variable {h0 h : Hp} {R : List As} {b : Nat} {x y : Sl} {hold wait : List P} {who : Int}
theorem Ask_nil (h : Hp) (who : Int) (w : Bool) : N_rwlock_Lock_Ask none who w h (fun v h' => v = .tuple #[.bool false, .int .i64 1] ∧ h' = h) := by
  apply S_rwlock_Lock_Ask
  unfold B_rwlock_Lock_Ask
  exact mIf_pos rfl ⟨rfl, rfl⟩
theorem Leave_nil (h : Hp) (who : Int) : N_rwlock_Lock_Leave none who h (fun v h' => v = .tuple #[.slice none 0 0, .int .i64 1] ∧ h' = h) := by
  apply S_rwlock_Lock_Leave
  unfold B_rwlock_Lock_Leave
  exact mIf_pos rfl ⟨rfl, rfl⟩
theorem Holds_nil (h : Hp) (who : Int) : N_rwlock_Lock_Holds none who h (fun v h' => v = .tuple #[.bool false, .bool false] ∧ h' = h) := by
  apply S_rwlock_Lock_Holds
  unfold B_rwlock_Lock_Holds
  exact mIf_pos rfl ⟨rfl, rfl⟩
theorem Holders_nil (h : Hp) : N_rwlock_Lock_Holders none h (fun v h' => v = .slice none 0 0 ∧ h' = h) := by
  apply S_rwlock_Lock_Holders
  unfold B_rwlock_Lock_Holders
  exact mIf_pos rfl ⟨rfl, rfl⟩
theorem Waiting_nil (h : Hp) : N_rwlock_Lock_Waiting none h (fun v h' => v = .slice none 0 0 ∧ h' = h) := by
  apply S_rwlock_Lock_Waiting
  unfold B_rwlock_Lock_Waiting
  exact mIf_pos rfl ⟨rfl, rfl⟩
theorem wfixed_s (hs : Sep h0 h R) : N_signalboxlaw38_fixed h (fun v h' => v = .bool true ∧ Sep h0 h' R) := by
  apply S_signalboxlaw38_fixed
  unfold B_signalboxlaw38_fixed
  rw [mBind_ap]
  refine (New_s hs).mono ?_
  rintro v h ⟨b, rfl, hs⟩
  (simp only [unP_pointer, mBind_ap])
  refine (Ask_s hs (by decide) ⟨1, false⟩).mono ?_
  rintro v h ⟨rfl, hs⟩
  replace hs : Lk h0 R b [⟨1, false⟩] [] h := hs
  rw [show (askR [] [] ⟨1, false⟩).1 = (true, 0) by kernel_rfl]
  (simp only [un2_tuple, unI_int, unB_bool, Bool.true_and, mBind_ap])
  refine (Ask_s hs (by decide) ⟨2, true⟩).mono ?_
  rintro v h ⟨rfl, hs⟩
  replace hs : Lk h0 R b [⟨1, false⟩] [⟨2, true⟩] h := hs
  rw [show (askR [⟨1, false⟩] [] ⟨2, true⟩).1 = (false, 0) by kernel_rfl]
  (simp only [un2_tuple, unI_int, unB_bool, Bool.not_false, Bool.and_true, mBind_ap])
  refine (Ask_s hs (by decide) ⟨3, false⟩).mono ?_
  rintro v h ⟨rfl, hs⟩
  replace hs : Lk h0 R b [⟨1, false⟩] [⟨2, true⟩, ⟨3, false⟩] h := hs
  rw [show (askR [⟨1, false⟩] [⟨2, true⟩] ⟨3, false⟩).1 = (false, 0) by kernel_rfl]
  (simp only [un2_tuple, unI_int, unB_bool, Bool.not_false, Bool.and_true, mBind_ap])
  refine (Ask_s hs (by decide) ⟨3, true⟩).mono ?_
  rintro v h ⟨rfl, hs⟩
  replace hs : Lk h0 R b [⟨1, false⟩] [⟨2, true⟩, ⟨3, false⟩] h := hs
  rw [show (askR [⟨1, false⟩] [⟨2, true⟩, ⟨3, false⟩] ⟨3, true⟩).1 = (false, 10) by kernel_rfl]
  (simp only [un2_tuple, unI_int, unB_bool, mBind_ap])
  refine (Leave_s hs (by decide) 1).mono ?_
  intro v h hv
  rw [show leaveR [⟨1, false⟩] [⟨2, true⟩, ⟨3, false⟩] 1 = some ([⟨2, true⟩], [⟨3, false⟩], [2]) by kernel_rfl] at hv
  obtain ⟨o, rfl, x, y, hs⟩ := hv
  have hon := hs.rowLen 0 rfl
  have hs : Lk h0 (aRow encZ 1 o [2] :: R) b [⟨2, true⟩] [⟨3, false⟩] h := ⟨x, y, hs.reT 4 [1, 2, 3, 0] rfl (by simp)⟩
  (simp only [un2_tuple, unI_int, unL_slice, mBind_ap])
  refine (Holds_s hs (by decide) 2).mono ?_
  rintro v h ⟨rfl, hs⟩
  rw [show decide (fnd 2 [⟨2, true⟩] 0 ≥ 0) = true by kernel_rfl, show (true && (([(⟨2, true⟩ : P)][(fnd 2 [⟨2, true⟩] 0).toNat]?).map (·.w)).getD false) = true by kernel_rfl]
  (simp only [un2_tuple, unB_bool, Bool.and_true, mBind_ap])
  refine (Leave_s hs (by decide) 2).mono ?_
  intro v h hv
  rw [show leaveR [⟨2, true⟩] [⟨3, false⟩] 2 = some ([⟨3, false⟩], [], [3]) by kernel_rfl] at hv
  obtain ⟨o2, rfl, x, y, hs⟩ := hv
  have hon2 := hs.rowLen 0 rfl
  have hs : Sep h0 h (aRow encZ 1 o [2] :: aRow encZ 1 o2 [3] :: R) := by
    have hs : Sep h0 h (aBlk b [.slice x.p x.n x.c, .slice y.p y.n y.c] :: aRow P.enc 2 x [⟨3, false⟩] :: aRow P.enc 2 y [] :: aRow encZ 1 o [2] :: aRow encZ 1 o2 [3] :: R) := hs.reT 5 [1, 2, 3, 4, 0] rfl (by simp)
    exact hs.drop.drop.drop
  (simp only [un2_tuple, unI_int, unL_slice, mBind_ap])
  refine mIf_pos (by rw [hon]; rfl) ?_
  ((refine Sep.idx hs 0 rfl (by first | omega | (simp only [List.length_set, List.length_map, List.length_replicate, List.length_append, List.length_cons, List.length_nil, List.length_reverse, List.length_range]; omega) | (simp; omega)) (by first | omega | (simp only [List.length_set, List.length_map, List.length_replicate, List.length_append, List.length_cons, List.length_nil, List.length_reverse, List.length_range]; omega) | (simp; omega)) fun aa haa => ?_; try simp only [Int.toNat_natCast] at haa); refine Sep.rldI0 hs 0 rfl (fun _ => rfl) haa (List.getElem?_eq_getElem (by first | omega | (simp only [List.length_set, List.length_map, List.length_replicate, List.length_append, List.length_cons, List.length_nil, List.length_reverse, List.length_range]; omega) | (simp; omega))) rfl ?_; rw [mRet_ap])
  refine mIf_pos (by rw [hon2]; rfl) ?_
  ((refine Sep.idx hs 1 rfl (by first | omega | (simp only [List.length_set, List.length_map, List.length_replicate, List.length_append, List.length_cons, List.length_nil, List.length_reverse, List.length_range]; omega) | (simp; omega)) (by first | omega | (simp only [List.length_set, List.length_map, List.length_replicate, List.length_append, List.length_cons, List.length_nil, List.length_reverse, List.length_range]; omega) | (simp; omega)) fun aa_1 haa_1 => ?_; try simp only [Int.toNat_natCast] at haa_1); refine Sep.rldI0 hs 1 rfl (fun _ => rfl) haa_1 (List.getElem?_eq_getElem (by first | omega | (simp only [List.length_set, List.length_map, List.length_replicate, List.length_append, List.length_cons, List.length_nil, List.length_reverse, List.length_range]; omega) | (simp; omega))) rfl ?_; rw [mRet_ap])
  exact ⟨rfl, hs.drop.drop⟩
theorem RwlockNone_ok {who : Int} {w : Bool} (_hw : -9223372036854775808 ≤ who ∧ who ≤ 9223372036854775807) : N_signalboxlaw38_RwlockNone who w h0 (WFin h0) := by
  have hs := Sep.init h0
  apply S_signalboxlaw38_RwlockNone
  unfold B_signalboxlaw38_RwlockNone
  rw [mBind_ap]
  refine (wfixed_s hs).mono ?_
  rintro v h ⟨rfl, hs⟩
  simp only [unB_bool]
  refine mIf_neg (by simp) ?_
  rw [mBind_ap]
  refine (Ask_nil _ _ _).mono ?_
  rintro v h' ⟨rfl, rfl⟩
  (simp only [un2_tuple, unI_int, unB_bool, Bool.not_false, Bool.true_and, mBind_ap])
  refine (Leave_nil _ _).mono ?_
  rintro v h' ⟨rfl, rfl⟩
  (simp only [un2_tuple, unI_int, unL_slice, mBind_ap])
  refine (Holds_nil _ _).mono ?_
  rintro v h' ⟨rfl, rfl⟩
  (simp only [un2_tuple, unB_bool, Bool.not_false, Bool.and_true, mBind_ap])
  refine mIf_pos rfl ?_
  rw [mBind_ap]
  refine (Holders_nil _).mono ?_
  rintro v h' ⟨rfl, rfl⟩
  (simp only [unL_slice, mBind_ap])
  refine (Waiting_nil _).mono ?_
  rintro v h' ⟨rfl, rfl⟩
  (simp only [unL_slice]; rw [mRet_ap])
  exact ⟨rfl, hs.under⟩
end
end Go.Proofs.Ytbpnpmknamghkaa
