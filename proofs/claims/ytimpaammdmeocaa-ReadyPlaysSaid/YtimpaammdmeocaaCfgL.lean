/- Configurations: what an operation may be, by the program and by the plain text. Conditions: none. -/
import Derived.Test.YtimpaammdmeocaaCfgA
import Derived.Test.YtimpaammdmeocaaCfgM
import Derived.Test.YtimpaammdmeocaaSbW
namespace Go.Proofs.Ytimpaammdmeocaa
open Go Go.Sb
set_option linter.unusedSimpArgs false
set_option linter.unusedVariables false
set_option linter.unusedVariables false
section
variable {h0 h : Hp} {R : List As}
theorem kind16 {k : Int} (h1 : 0 ≤ k) (h2 : k < 16) : k = 0 ∨ k = 1 ∨ k = 2 ∨ k = 3 ∨ k = 4 ∨ k = 5 ∨ k = 6 ∨ k = 7 ∨ k = 8 ∨ k = 9 ∨ k = 10 ∨ k = 11 ∨ k = 12 ∨ k = 13 ∨ k = 14 ∨ k = 15 := by omega
theorem pNumbers_s (k : Int) (hs : Sep h0 h R) : N_prog_Numbers k h (fun v h' => v = .int .i64 (numsOf k) ∧ Sep h0 h' R) := by
  apply S_prog_Numbers
  unfold B_prog_Numbers
  rw [mBind_ap]
  apply S_prog_kinds
  unfold B_prog_kinds
  refine Sep.new hs fun b h hs => ?_
  rw [mRet_ap]
  simp only [unL_slice]
  refine mIf_intro (fun hc => ?_) (fun hc => ?_)
  · have : numsOf k = -1 := by
      simp at hc
      unfold numsOf
      rw [if_neg (by omega), if_neg (by omega), if_pos (by omega)]
    rw [mRet_ap, this]
    exact ⟨rfl, hs.drop⟩
  · simp at hc
    refine mIdx_of (by omega) (by simp; omega) ?_
    rw [add_mk, add_mk]
    rcases kind16 hc.1 hc.2 with e | e | e | e | e | e | e | e | e | e | e | e | e | e | e | e <;> subst e <;> exact hs.ldI 0 rfl rfl ⟨rfl, hs.drop⟩
def spA (k bx gr ct ce : Int) : Int × Int :=
  if k = 1 then (1, 1000) else if k = 2 then (0, 255) else if k = 5 ∨ k = 6 then (0, IntKind.i64.wrap (ce - 1)) else if k = 7 ∨ k = 8 then (1, 4096) else
  if k = 9 ∨ k = 10 then (0, IntKind.i64.wrap (bx - 1)) else if k = 11 ∨ k = 12 ∨ k = 13 then (0, IntKind.i64.wrap (gr - 1)) else
  if k = 14 ∨ k = 15 then (0, IntKind.i64.wrap (ct - 1)) else (0, 0)
def spB (k : Int) : Int × Int := if k = 9 ∨ k = 11 ∨ k = 12 ∨ k = 13 then (0, 255) else (0, 0)
abbrev SpQ (h0 : Hp) (R : List As) (a b : Int × Int) : Value → Hp → Prop := fun v h' => v = .tuple #[.agg #[.int .i64 a.1, .int .i64 a.2], .agg #[.int .i64 b.1, .int .i64 b.2]] ∧ Sep h0 h' R
theorem sp1_s (n : Int) (hs : Sep h0 h R) : N_prog_Room_spans_1 n h (fun v h' => v = .agg #[.int .i64 0, .int .i64 (IntKind.i64.wrap (n - 1))] ∧ Sep h0 h' R) := by
  apply S_prog_Room_spans_1
  unfold B_prog_Room_spans_1
  ((refine Sep.new hs fun nb h hs => ?_; try simp only [List.toList_toArray] at hs); (refine Sep.st hs 0 rfl rfl rfl fun h hs => ?_; simp only [List.set_cons_zero, List.set_cons_succ] at hs); (refine Sep.st hs 0 rfl rfl rfl fun h hs => ?_; simp only [List.set_cons_zero, List.set_cons_succ] at hs); refine Sep.ldI hs 0 rfl rfl ?_; refine Sep.ldI hs 0 rfl rfl ?_)
  exact ⟨rfl, hs.drop⟩
theorem eqF {a b : Int} (h : (a == b) = false) : ¬ a = b := by simpa using h
theorem eqT {a b : Int} (h : (a == b) = true) : a = b := by simpa using h
theorem sp22 {bx gr ct ce k : Int} {r a b v : Nat} (hk : ¬ (k = 1 ∨ k = 2 ∨ k = 5 ∨ k = 6 ∨ k = 7 ∨ k = 8 ∨ k = 9 ∨ k = 10 ∨ k = 11 ∨ k = 12 ∨ k = 13)) (hs : Sep h0 h (aBlk r [.int .i64 bx, .int .i64 gr, .int .i64 ct, .int .i64 ce] :: aBlk a [.int .i64 0, .int .i64 0] :: aBlk b [.int .i64 0, .int .i64 0] :: aBlk v [.int .i64 0, .int .i64 255] :: R)) :
    K_prog_Room_spans_22 ⟨r, 0, none⟩ ⟨a, 0, none⟩ ⟨b, 0, none⟩ k h (SpQ h0 R (spA k bx gr ct ce) (spB k)) := by
  apply S_prog_Room_spans_22
  unfold B_prog_Room_spans_22
  refine mIf_intro (fun h1 => ?_) (fun h1 => ?_)
  · obtain rfl := eqT h1
    refine mIf_pos rfl ?_
    repeat' (first | with_reducible refine mAnd_intro ?_ ?_ | (first | (((with_reducible refine gd_mLdI ?_); refine Sep.ldI hs 0 rfl rfl ?_)) | ((simp only [add_mk, Nat.zero_add, mBind_ap])) | ((simp only [unA_agg, unC_cons, unE_nil, unI_int])) | (((with_reducible refine gd_mSt ?_); (refine Sep.st hs 1 rfl rfl rfl fun h hs => ?_; simp only [List.set_cons_zero, List.set_cons_succ] at hs))) | (((with_reducible refine gd_mLdI ?_); refine Sep.ldI hs 1 rfl rfl ?_)) | (((with_reducible refine gd_mLdI ?_); refine Sep.ldI hs 2 rfl rfl ?_)) | (((with_reducible refine gd_mSt ?_); (refine Sep.st hs 2 rfl rfl rfl fun h hs => ?_; simp only [List.set_cons_zero, List.set_cons_succ] at hs)))) | (refine (sp1_s _ hs).mono ?_; rintro v h ⟨rfl, hs⟩))
    all_goals exact ⟨rfl, hs.drop.drop.drop.drop⟩
  · refine mIf_intro (fun h2 => ?_) (fun h2 => ?_)
    · obtain rfl := eqT h2
      repeat' (first | with_reducible refine mAnd_intro ?_ ?_ | (first | (((with_reducible refine gd_mLdI ?_); refine Sep.ldI hs 0 rfl rfl ?_)) | ((simp only [add_mk, Nat.zero_add, mBind_ap])) | ((simp only [unA_agg, unC_cons, unE_nil, unI_int])) | (((with_reducible refine gd_mSt ?_); (refine Sep.st hs 1 rfl rfl rfl fun h hs => ?_; simp only [List.set_cons_zero, List.set_cons_succ] at hs))) | (((with_reducible refine gd_mLdI ?_); refine Sep.ldI hs 1 rfl rfl ?_)) | (((with_reducible refine gd_mLdI ?_); refine Sep.ldI hs 2 rfl rfl ?_)) | (((with_reducible refine gd_mSt ?_); (refine Sep.st hs 2 rfl rfl rfl fun h hs => ?_; simp only [List.set_cons_zero, List.set_cons_succ] at hs)))) | (refine (sp1_s _ hs).mono ?_; rintro v h ⟨rfl, hs⟩))
      all_goals exact ⟨rfl, hs.drop.drop.drop.drop⟩
    · have h1 := eqF h1
      have h2 := eqF h2
      have e1 : spA k bx gr ct ce = (0, 0) := by unfold spA; repeat' (first | rw [if_neg (by omega)])
      have e2 : spB k = (0, 0) := by unfold spB; rw [if_neg (by omega)]
      rw [e1, e2]
      repeat' (first | with_reducible refine mAnd_intro ?_ ?_ | (first | (((with_reducible refine gd_mLdI ?_); refine Sep.ldI hs 1 rfl rfl ?_)) | (((with_reducible refine gd_mLdI ?_); refine Sep.ldI hs 2 rfl rfl ?_)) | (((with_reducible refine gd_mSt ?_); (refine Sep.st hs 1 rfl rfl rfl fun h hs => ?_; simp only [List.set_cons_zero, List.set_cons_succ] at hs))) | (((with_reducible refine gd_mSt ?_); (refine Sep.st hs 2 rfl rfl rfl fun h hs => ?_; simp only [List.set_cons_zero, List.set_cons_succ] at hs)))))
      all_goals exact ⟨rfl, hs.drop.drop.drop.drop⟩
theorem neB {a b : Int} (h : ¬ a = b) : (a == b) = false := by simpa using h
theorem sp14 {bx gr ct ce k : Int} {r a b v : Nat} (hk : ¬ (k = 1 ∨ k = 2 ∨ k = 5 ∨ k = 6 ∨ k = 7 ∨ k = 8)) (hs : Sep h0 h (aBlk r [.int .i64 bx, .int .i64 gr, .int .i64 ct, .int .i64 ce] :: aBlk a [.int .i64 0, .int .i64 0] :: aBlk b [.int .i64 0, .int .i64 0] :: aBlk v [.int .i64 0, .int .i64 255] :: R)) :
    K_prog_Room_spans_14 ⟨r, 0, none⟩ ⟨a, 0, none⟩ ⟨b, 0, none⟩ ⟨v, 0, none⟩ k h (SpQ h0 R (spA k bx gr ct ce) (spB k)) := by
  apply S_prog_Room_spans_14
  unfold B_prog_Room_spans_14
  by_cases h9 : k = 9 ∨ k = 10 ∨ k = 11 ∨ k = 12 ∨ k = 13
  · rcases h9 with e | e | e | e | e <;> subst e
    all_goals repeat' (first | with_reducible refine mAnd_intro ?_ ?_ | (first | ((simp only [add_mk, Nat.zero_add])) | (((with_reducible refine gd_mLdI ?_); refine Sep.ldI hs 0 rfl rfl ?_)) | ((simp only [mBind_ap])) | ((simp only [unA_agg, unC_cons, unE_nil, unI_int])) | (((with_reducible refine gd_mLdI ?_); refine Sep.ldI hs 3 rfl rfl ?_)) | (((with_reducible refine gd_mSt ?_); (refine Sep.st hs 1 rfl rfl rfl fun h hs => ?_; simp only [List.set_cons_zero, List.set_cons_succ] at hs))) | (((with_reducible refine gd_mSt ?_); (refine Sep.st hs 2 rfl rfl rfl fun h hs => ?_; simp only [List.set_cons_zero, List.set_cons_succ] at hs))) | (((with_reducible refine gd_mLdI ?_); refine Sep.ldI hs 1 rfl rfl ?_)) | (((with_reducible refine gd_mLdI ?_); refine Sep.ldI hs 2 rfl rfl ?_))) | refine mIf_pos rfl ?_ | refine mIf_neg rfl ?_ | (refine (sp1_s _ hs).mono ?_; rintro v h ⟨rfl, hs⟩))
    all_goals exact ⟨rfl, hs.drop.drop.drop.drop⟩
  · have hk' : ¬ (k = 1 ∨ k = 2 ∨ k = 5 ∨ k = 6 ∨ k = 7 ∨ k = 8 ∨ k = 9 ∨ k = 10 ∨ k = 11 ∨ k = 12 ∨ k = 13) := by omega
    repeat' (first | refine mIf_neg (neB (by omega)) ?_)
    exact sp22 hk' hs
theorem spans_s (bx gr ct ce k : Int) (hs : Sep h0 h R) : N_prog_Room_spans bx gr ct ce k h (SpQ h0 R (spA k bx gr ct ce) (spB k)) := by
  apply S_prog_Room_spans
  unfold B_prog_Room_spans
  refine Sep.new hs fun r h hs => ?_
  refine Sep.new hs fun a h hs => ?_
  refine Sep.new hs fun b h hs => ?_
  refine Sep.new hs fun v h hs => ?_
  have hs := hs.reT 4 [3, 2, 1, 0] rfl (by simp)
  have hs : Sep h0 h (aBlk r [.int .i64 bx, .int .i64 gr, .int .i64 ct, .int .i64 ce] :: aBlk a [.int .i64 0, .int .i64 0] :: aBlk b [.int .i64 0, .int .i64 0] :: aBlk v [.int .i64 0, .int .i64 0] :: R) := hs
  refine hs.st 3 rfl rfl rfl fun h hs => ?_
  simp only [List.set_cons_zero, List.set_cons_succ, add_mk, Nat.zero_add] at hs ⊢
  refine hs.st 3 rfl rfl rfl fun h hs => ?_
  simp only [List.set_cons_zero, List.set_cons_succ] at hs
  by_cases h9 : k = 1 ∨ k = 2 ∨ k = 5 ∨ k = 6 ∨ k = 7 ∨ k = 8
  · rcases h9 with e | e | e | e | e | e <;> subst e
    all_goals repeat' (first | with_reducible refine mAnd_intro ?_ ?_ | (first | (((with_reducible refine gd_mSt ?_); (refine Sep.st hs 1 rfl rfl rfl fun h hs => ?_; simp only [List.set_cons_zero, List.set_cons_succ] at hs))) | (((with_reducible refine gd_mLdI ?_); refine Sep.ldI hs 1 rfl rfl ?_)) | (((with_reducible refine gd_mLdI ?_); refine Sep.ldI hs 2 rfl rfl ?_)) | (((with_reducible refine gd_mSt ?_); (refine Sep.st hs 2 rfl rfl rfl fun h hs => ?_; simp only [List.set_cons_zero, List.set_cons_succ] at hs))) | (((with_reducible refine gd_mLdI ?_); refine Sep.ldI hs 0 rfl rfl ?_)) | ((simp only [mBind_ap])) | ((simp only [unA_agg, unC_cons, unE_nil, unI_int]))) | refine mIf_pos rfl ?_ | refine mIf_neg rfl ?_ | (refine (sp1_s _ hs).mono ?_; rintro v h ⟨rfl, hs⟩))
    all_goals exact ⟨rfl, hs.drop.drop.drop.drop⟩
  · repeat' (first | refine mIf_neg (neB (by omega)) ?_)
    exact sp14 h9 hs
theorem has_s (a b n : Int) (hs : Sep h0 h R) : N_prog_span_has a b n h (fun v h' => v = .bool (inB n a b) ∧ Sep h0 h' R) := by
  apply S_prog_span_has
  unfold B_prog_span_has inB
  ((refine Sep.new hs fun nb h hs => ?_; try simp only [List.toList_toArray] at hs); refine Sep.ldI hs 0 rfl rfl ?_; simp only [add_mk, Nat.zero_add, mBind_ap])
  refine mIf_intro (fun hc => ?_) (fun hc => ?_)
  · (refine Sep.ldI hs 0 rfl rfl ?_; rw [mRet_ap])
    rw [hc]
    exact ⟨rfl, hs.drop⟩
  · (rw [mRet_ap])
    rw [hc]
    exact ⟨rfl, hs.drop⟩
theorem opE_sp (o : POp) (bx gr ct ce : Int) (h : ¬ numsOf o.k < 0) : opE o bx gr ct ce = if inB o.a (spA o.k bx gr ct ce).1 (spA o.k bx gr ct ce).2 && inB o.b (spB o.k).1 (spB o.k).2 then 0 else 5 := by
  unfold opE
  rw [if_neg h]
  have hk : 1 ≤ o.k ∧ o.k < 16 := by
    unfold numsOf at h
    split at h
    · omega
    · split at h
      · omega
      · split at h
        · omega
        · omega
  have z : ∀ n : Int, (n == 0) = inB n 0 0 := by
    intro n; unfold inB; rw [Bool.eq_iff_iff]; simp; omega
  have e : opA o bx gr ct ce = inB o.a (spA o.k bx gr ct ce).1 (spA o.k bx gr ct ce).2 ∧ opB o = inB o.b (spB o.k).1 (spB o.k).2 := by
    unfold opA opB spA spB
    rw [z, z]
    rcases kind16 (by omega) hk.2 with e | e | e | e | e | e | e | e | e | e | e | e | e | e | e | e <;> rw [e] at hk ⊢ <;> first | omega | exact ⟨rfl, rfl⟩
  rw [e.1, e.2]
theorem pOp_s (o : POp) (bx gr ct ce : Int) (hs : Sep h0 h R) : N_prog_Op o.k o.a o.b bx gr ct ce h (fun v h' => v = .int .i64 (opE o bx gr ct ce) ∧ Sep h0 h' R) := by
  apply S_prog_Op
  unfold B_prog_Op
  refine Sep.new hs fun x h hs => ?_
  refine Sep.new hs fun y h hs => ?_
  simp only [List.toList_toArray] at hs
  (refine Sep.ldI hs 1 rfl rfl ?_; simp only [add_mk, Nat.zero_add, mBind_ap])
  refine (pNumbers_s o.k hs).mono ?_
  rintro v h ⟨rfl, hs⟩
  (simp only [unI_int])
  refine mIf_intro (fun hc => ?_) (fun hc => ?_)
  · rw [mRet_ap]
    have : opE o bx gr ct ce = 1 := by unfold opE; rw [if_pos (by simpa using hc)]
    rw [this]
    exact ⟨rfl, hs.drop.drop⟩
  · rw [opE_sp o bx gr ct ce (by simpa using hc)]
    (refine Sep.ldI hs 0 rfl rfl ?_; refine Sep.ldI hs 0 rfl rfl ?_; refine Sep.ldI hs 0 rfl rfl ?_; refine Sep.ldI hs 0 rfl rfl ?_; refine Sep.ldI hs 1 rfl rfl ?_; simp only [mBind_ap])
    refine (spans_s _ _ _ _ _ hs).mono ?_
    rintro v h ⟨rfl, hs⟩
    (simp only [unT_tuple, unC_cons, unE_nil, unA_agg, unI_int]; (refine Sep.new hs fun nb h hs => ?_; try simp only [List.toList_toArray] at hs); (refine Sep.new hs fun nb_1 h hs => ?_; try simp only [List.toList_toArray] at hs); (refine Sep.st hs 1 rfl rfl rfl fun h hs => ?_; simp only [List.set_cons_zero, List.set_cons_succ] at hs); (refine Sep.st hs 1 rfl rfl rfl fun h hs => ?_; simp only [List.set_cons_zero, List.set_cons_succ] at hs); (refine Sep.st hs 0 rfl rfl rfl fun h hs => ?_; simp only [List.set_cons_zero, List.set_cons_succ] at hs); (refine Sep.st hs 0 rfl rfl rfl fun h hs => ?_; simp only [List.set_cons_zero, List.set_cons_succ] at hs); refine Sep.ldI hs 1 rfl rfl ?_; refine Sep.ldI hs 1 rfl rfl ?_; refine Sep.ldI hs 3 rfl rfl ?_; simp only [add_mk, Nat.zero_add, mBind_ap])
    refine (has_s _ _ _ hs).mono ?_
    rintro v h ⟨rfl, hs⟩
    (simp only [unB_bool, mBind_ap])
    refine mIf_intro (fun h1 => ?_) (fun h1 => ?_)
    · (rw [mRet_ap]; simp only [mIf_true])
      rw [show inB o.a (spA o.k bx gr ct ce).1 (spA o.k bx gr ct ce).2 = false by simpa using h1]
      exact ⟨rfl, hs.drop.drop.drop.drop⟩
    · (refine Sep.ldI hs 0 rfl rfl ?_; refine Sep.ldI hs 0 rfl rfl ?_; refine Sep.ldI hs 3 rfl rfl ?_; simp only [mBind_ap])
      refine (has_s _ _ _ hs).mono ?_
      rintro v h ⟨rfl, hs⟩
      (simp only [unB_bool]; rw [mRet_ap])
      rw [show inB o.a (spA o.k bx gr ct ce).1 (spA o.k bx gr ct ce).2 = true by simpa using h1, Bool.true_and]
      refine mIf_intro (fun h2 => ?_) (fun h2 => ?_)
      · rw [show inB o.b (spB o.k).1 (spB o.k).2 = false by simpa using h2]
        exact ⟨rfl, hs.drop.drop.drop.drop⟩
      · rw [show inB o.b (spB o.k).1 (spB o.k).2 = true by simpa using h2]
        exact ⟨rfl, hs.drop.drop.drop.drop⟩
end
end Go.Proofs.Ytimpaammdmeocaa
