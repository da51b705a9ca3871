/- Aging lines: the calls of nobody's line, what is fixed, and plain rows. Conditions: none. -/
import Derived.Test.YtbpnpmknamghkaaAgQ
import Derived.Test.YtbpnpmknamghkaaSbW
namespace Go.Proofs.Ytbpnpmknamghkaa
open Go Go.Sb
set_option linter.unusedSimpArgs false
set_option linter.unusedVariables false
section
variable {h0 h : Hp} {L R : List As} {b : Nat} {x : Sl} {l : List G} {who step : Int}
theorem find_nil (hs : Sep h0 h R) (who : Int) : N_aging_Line_find none who h (fun v h' => v = .int .i64 (-1) ∧ Sep h0 h' R) := by
  apply S_aging_Line_find
  unfold B_aging_Line_find
  ((refine Sep.new hs fun nb h hs => ?_; try simp only [List.toList_toArray] at hs); simp only [Option.isNone_none, mIf_true])
  exact ⟨rfl, hs.drop⟩
theorem Priority_nil (hs : Sep h0 h R) (who : Int) : N_aging_Line_Priority none who h (fun v h' => v = .tuple #[.int .i64 0, .bool false] ∧ Sep h0 h' R) := by
  apply S_aging_Line_Priority
  unfold B_aging_Line_Priority
  rw [mBind_ap]
  refine (find_nil hs who).mono ?_
  rintro v h ⟨rfl, hs⟩
  (simp only [unI_int]; rw [decide_eq_true (by omega), mIf_true])
  exact ⟨rfl, hs⟩
theorem Bound_nil (hs : Sep h0 h R) (who : Int) : N_aging_Line_Bound none who h (fun v h' => v = .tuple #[.int .i64 0, .bool false] ∧ Sep h0 h' R) := by
  apply S_aging_Line_Bound
  unfold B_aging_Line_Bound
  rw [mBind_ap]
  refine (Priority_nil hs who).mono ?_
  rintro v h ⟨rfl, hs⟩
  (simp only [un2_tuple, unB_bool, Bool.not_false, mIf_true, unI_int])
  exact ⟨rfl, hs⟩
theorem Leave_nil (hs : Sep h0 h R) (who : Int) : N_aging_Line_Leave none who h (fun v h' => v = .bool false ∧ Sep h0 h' R) := by
  apply S_aging_Line_Leave
  unfold B_aging_Line_Leave
  rw [mBind_ap]
  refine (find_nil hs who).mono ?_
  rintro v h ⟨rfl, hs⟩
  (simp only [unI_int]; rw [decide_eq_true (by omega), mIf_true])
  exact ⟨rfl, hs⟩
theorem Join_nil (h : Hp) (who base : Int) : N_aging_Line_Join none who base h (fun v h' => v = .int .i64 1 ∧ h' = h) := by
  apply S_aging_Line_Join
  unfold B_aging_Line_Join
  exact mIf_pos rfl ⟨rfl, rfl⟩
theorem All_nil (h : Hp) : N_aging_Line_All none h (fun v h' => v = .slice none 0 0 ∧ h' = h) := by
  apply S_aging_Line_All
  unfold B_aging_Line_All
  exact mIf_neg rfl ⟨rfl, rfl⟩
theorem Turn_nil (h : Hp) : N_aging_Line_Turn none h (fun v h' => v = .tuple #[.int .i64 0, .bool false] ∧ h' = h) := by
  apply S_aging_Line_Turn
  unfold B_aging_Line_Turn
  rw [mBind_ap]
  refine mIf_pos rfl ?_
  (rw [mRet_ap]; simp only [mIf_true])
  exact ⟨rfl, rfl⟩
theorem gok0 {who base wt : Int} (h : 0 ≤ base ∧ base ≤ 63 ∧ 0 ≤ wt ∧ wt ≤ 100000) : (⟨who, base, wt⟩ : G).ok := h
theorem gok1 {p : G} (h : p.ok) : ∀ q ∈ [p], q.ok := by simpa using h
theorem gok2 {p p' : G} (h : p.ok) (h' : p'.ok) : ∀ q ∈ [p, p'], q.ok := by simpa using ⟨h, h'⟩
theorem afixed_s (hs : Sep h0 h R) : N_signalboxlaw51_fixed h (fun v h' => v = .bool true ∧ Sep h0 h' R) := by
  apply S_signalboxlaw51_fixed
  unfold B_signalboxlaw51_fixed
  rw [mBind_ap]
  refine (New_s (step := 1) hs (by decide)).mono ?_
  rintro v h ⟨b, rfl, hs⟩
  (simp only [unP_pointer, mBind_ap])
  refine (Join_s hs (by decide) 7 0).mono ?_
  rintro v h ⟨rfl, hs⟩
  replace hs : Ln h0 R b 1 [⟨7, 0, 0⟩] h := hs
  rw [show (joinR [] 7 0).1 = 0 by kernel_rfl]
  (simp only [unI_int, mBind_ap])
  refine (Join_s hs (by decide) 8 2).mono ?_
  rintro v h ⟨rfl, hs⟩
  replace hs : Ln h0 R b 1 [⟨7, 0, 0⟩, ⟨8, 2, 0⟩] h := hs
  rw [show (joinR [⟨7, 0, 0⟩] 8 2).1 = 0 by kernel_rfl]
  (simp only [unI_int, mBind_ap])
  refine (Turn_s hs (by decide) (by decide) (gok2 (gok0 (by decide)) (gok0 (by decide))) (by decide)).mono ?_
  rintro v h ⟨rfl, hs⟩
  rw [show (List.eraseIdx [(⟨7, 0, 0⟩ : G), ⟨8, 2, 0⟩] (bst 1 [⟨7, 0, 0⟩, ⟨8, 2, 0⟩] [(⟨7, 0, 0⟩ : G), ⟨8, 2, 0⟩].length 0 0)).map bump = [⟨7, 0, 1⟩] by kernel_rfl] at hs
  rw [show (gd [⟨7, 0, 0⟩, ⟨8, 2, 0⟩] (bst 1 [⟨7, 0, 0⟩, ⟨8, 2, 0⟩] [(⟨7, 0, 0⟩ : G), ⟨8, 2, 0⟩].length 0 0)).who = 8 by kernel_rfl]
  (simp only [un2_tuple, unB_bool, Bool.and_true, unI_int, mBind_ap])
  refine (Priority_s hs (by decide) (by decide) (gok1 (gok0 (by decide))) 7).mono ?_
  rintro v h ⟨rfl, hs⟩
  rw [if_pos (by decide), show pri 1 (gd [⟨7, 0, 1⟩] (fnd 7 [⟨7, 0, 1⟩] 0).toNat) = 1 by kernel_rfl]
  (simp only [un2_tuple, unB_bool, Bool.and_true, unI_int, mBind_ap])
  refine (Bound_s hs (by decide) (by decide) (gok1 (gok0 (by decide))) 7).mono ?_
  rintro v h ⟨rfl, hs⟩
  rw [if_pos (by decide), show max 0 (64 - pri 1 (gd [⟨7, 0, 1⟩] (fnd 7 [⟨7, 0, 1⟩] 0).toNat)) * 1 + (([(⟨7, 0, 1⟩ : G)].length : Nat) : Int) = 64 by kernel_rfl]
  (simp only [un2_tuple, unB_bool, Bool.and_true, unI_int, mBind_ap])
  refine mIf_pos rfl ?_
  rw [mBind_ap]
  refine (Join_s hs (by decide) 7 1).mono ?_
  rintro v h ⟨rfl, hs⟩
  replace hs : Ln h0 R b 1 [⟨7, 0, 1⟩] h := hs
  rw [show (joinR [⟨7, 0, 1⟩] 7 1).1 = 10 by kernel_rfl]
  (simp only [unI_int]; rw [mRet_ap])
  refine mIf_pos rfl ?_
  rw [mBind_ap]
  refine (Join_s hs (by decide) 9 64).mono ?_
  rintro v h ⟨rfl, hs⟩
  replace hs : Ln h0 R b 1 [⟨7, 0, 1⟩] h := hs
  rw [show (joinR [⟨7, 0, 1⟩] 9 64).1 = 5 by kernel_rfl]
  (simp only [unI_int]; rw [mRet_ap])
  refine mIf_pos rfl ?_
  rw [mBind_ap]
  refine (Leave_s hs (by decide) 7).mono ?_
  rintro v h ⟨rfl, hs⟩
  replace hs : Ln h0 R b 1 [] h := hs
  rw [show decide (fnd 7 [⟨7, 0, 1⟩] 0 ≥ 0) = true by kernel_rfl]
  (simp only [unB_bool]; rw [mRet_ap]; simp only [mIf_true, mBind_ap])
  refine (Leave_s hs (by decide) 7).mono ?_
  rintro v h ⟨rfl, hs⟩
  replace hs : Ln h0 R b 1 [] h := hs
  rw [show decide (fnd 7 [] 0 ≥ 0) = false by kernel_rfl]
  (simp only [unB_bool, Bool.not_false]; rw [mRet_ap]; simp only [mIf_true, mBind_ap])
  refine (New_bad _ (.inl (by decide))).mono ?_
  rintro v h' ⟨rfl, rfl⟩
  (simp only [unP_pointer, Option.isNone_none]; rw [mRet_ap])
  obtain ⟨x, hs⟩ := hs
  exact ⟨rfl, hs.drop.drop⟩
theorem flat_one (l : List G) : ∀ v ∈ l.flatMap G.enc, v.oneCell' = true := by
  intro v hv
  obtain ⟨x, _, hx⟩ := List.mem_flatMap.1 hv
  exact G.one x v hx
theorem refdel {Q : Value → Hp → Prop} (hs : Sep h0 h L) (k : Nat) {s : Sl} {l : List G} (hk : L[k]? = some (aRow G.enc 3 s l)) {i : Nat} (hi : i < l.length) (hn : l.length ≤ 1000) {K : Sl → M Value}
    (hK : ∀ s' h', Sep h0 h' (aRow G.enc 3 s' (l.eraseIdx i) :: L) → K s' h' Q) :
    (mSlc s 3 0 (i : Int) (s.c : Int) fun x74 => mSlc s 3 ((i : Int) + 1) (s.n : Int) (s.c : Int) fun x79 => mNew #[] 57 fun x71 => mApp 57 3 24 #[.int .i64 (0 : Int), .int .i64 (0 : Int), .int .i64 (0 : Int)] ⟨(some x71), 0, 0⟩ x74 fun x75 => mApp 57 3 24 #[.int .i64 (0 : Int), .int .i64 (0 : Int), .int .i64 (0 : Int)] x75 x79 K) h Q := by
  have hcap := hs.rowCap k hk
  have hln := hs.rowLen k hk
  refine vslc (sz := 3) (by omega) (by omega) (by omega) (by omega) fun x74 hv1 hn1 hc1 => ?_
  refine vslc (sz := 3) (by omega) (by omega) (by omega) (by omega) fun x79 hv2 hn2 hc2 => ?_
  refine hs.new fun nb h hs => ?_
  have hs := Blk.row (enc := G.enc) (sz := 3) (xs := []) (n := 0) hs 0 rfl rfl rfl
  simp only [List.set_cons_zero] at hs
  rw [show ((0 : Int)).toNat = 0 from rfl] at hv1 hn1
  have hc1 := hs.vcells (enc := G.enc) (sz := 3) (s := s) (xs := l) (k + 1) (x := x74) (m := x74.n) (by simpa using hk) (fun _ => rfl) hv1 (Nat.le_refl _) (by omega)
  rw [List.drop_zero, show x74.n = i by omega] at hc1
  refine hs.app_ 0 (l.take i) rfl (fun _ => rfl) (by rw [show x74.n = i by omega]; exact hc1) (by rw [List.length_take]; omega) (flat_one _) rfl (by omega) (by simp; omega) fun s1 h hn3 hs => ?_
  simp only [List.set_cons_zero, List.nil_append] at hs
  have hc2 := hs.vcells (enc := G.enc) (sz := 3) (s := s) (xs := l) (k + 1) (x := x79) (m := x79.n) (by simpa using hk) (fun _ => rfl) hv2 (Nat.le_refl _) (by omega)
  rw [show ((i : Int) + 1).toNat = i + 1 by omega, List.take_of_length_le (by rw [List.length_drop]; omega)] at hc2
  refine hs.app_ 0 (l.drop (i + 1)) rfl (fun _ => rfl) hc2 (by rw [List.length_drop]; omega) (flat_one _) rfl (by omega) (by simp; omega) fun s2 h hn4 hs => ?_
  simp only [List.set_cons_zero] at hs
  rw [← List.eraseIdx_eq_take_drop_succ] at hs
  exact hK s2 h hs
end
end Go.Proofs.Ytbpnpmknamghkaa
