/- Configurations: what a program may be, by the plain text. Conditions: none. -/
import Derived.Test.YtimpaammdmeocaaCfgL
import Derived.Test.YtimpaammdmeocaaSbW
namespace Go.Proofs.Ytimpaammdmeocaa
open Go Go.Sb
set_option linter.unusedSimpArgs false
set_option linter.unusedVariables false
set_option linter.unusedVariables false
section
variable {h0 h : Hp} {R : List As}
theorem rNumbers_s (k : Int) : N_signalboxref06_Numbers k h (fun v h' => v = .int .i64 (numsOf k) ∧ h' = h) := by
  apply S_signalboxref06_Numbers
  unfold B_signalboxref06_Numbers
  have gen : ¬ (k = 3 ∨ k = 4 ∨ k = 9 ∨ k = 11 ∨ k = 12 ∨ k = 13) → numsOf k = if k < 1 ∨ k > 15 then -1 else 1 := by
    intro hk
    unfold numsOf
    rw [if_neg (by omega), if_neg (by omega)]
  have five : ¬ (k = 3 ∨ k = 4) → K_signalboxref06_Numbers_5 k k h (fun v h' => v = .int .i64 (numsOf k) ∧ h' = h) := by
    intro hk
    apply S_signalboxref06_Numbers_5
    unfold B_signalboxref06_Numbers_5
    by_cases h9 : k = 9 ∨ k = 11 ∨ k = 12 ∨ k = 13
    · rcases h9 with e | e | e | e <;> subst e
      all_goals repeat' (first | refine mIf_pos rfl ?_ | refine mIf_neg rfl ?_)
      all_goals exact ⟨rfl, rfl⟩
    · repeat' (first | refine mIf_neg (neB (by omega)) ?_)
      rw [gen (by omega)]
      refine mIf_intro (fun hc => ?_) (fun hc => ?_)
      · rw [if_pos (by simpa using hc)]; exact ⟨rfl, rfl⟩
      · rw [if_neg (by simpa using hc)]; exact ⟨rfl, rfl⟩
  by_cases h3 : k = 3 ∨ k = 4
  · rcases h3 with e | e <;> subst e
    all_goals repeat' (first | refine mIf_pos rfl ?_ | refine mIf_neg rfl ?_)
    all_goals exact ⟨rfl, rfl⟩
  · repeat' (first | refine mIf_neg (neB (by omega)) ?_)
    exact five h3
theorem rin_s (n a b : Int) : N_signalboxref06_in n a b h (fun v h' => v = .bool (inB n a b) ∧ h' = h) := by
  apply S_signalboxref06_in
  unfold B_signalboxref06_in
  exact ⟨rfl, rfl⟩
theorem opE_go (o : POp) (bx gr ct ce : Int) (h : ¬ numsOf o.k < 0) {a b : Bool} (ha : a = opA o bx gr ct ce) (hb : b = opB o) {Q : Value → Hp → Prop} {g : Hp} (hQ : Q (.int .i64 (opE o bx gr ct ce)) g) : mIf ((!a) || (!b)) (mRet (.int .i64 5)) (mRet (.int .i64 0)) g Q := by
  have e : opE o bx gr ct ce = if a && b then 0 else 5 := by unfold opE; rw [if_neg h, ha, hb]
  rw [e] at hQ
  cases a <;> cases b <;> exact hQ
theorem rOp_s (o : POp) (bx gr ct ce : Int) (hs : Sep h0 h R) : N_signalboxref06_Op o.k o.a o.b bx gr ct ce h (fun v h' => v = .int .i64 (opE o bx gr ct ce) ∧ Sep h0 h' R) := by
  apply S_signalboxref06_Op
  unfold B_signalboxref06_Op
  refine Sep.new hs fun x h hs => ?_
  simp only [List.toList_toArray] at hs
  (refine Sep.ldI hs 0 rfl rfl ?_; simp only [add_mk, Nat.zero_add, mBind_ap])
  refine (rNumbers_s o.k).mono ?_
  rintro v h ⟨rfl, rfl⟩
  simp only [unI_int]
  refine mIf_intro (fun hc => ?_) (fun hc => ?_)
  · have : opE o bx gr ct ce = 1 := by unfold opE; rw [if_pos (by simpa using hc)]
    rw [this]
    exact ⟨rfl, hs.drop⟩
  have hnum : ¬ numsOf o.k < 0 := by simpa using hc
  have hk : 1 ≤ o.k ∧ o.k < 16 := by
    unfold numsOf at hnum
    split at hnum
    · omega
    · split at hnum
      · omega
      · split at hnum
        · omega
        · omega
  have eA : ∀ k a b, o = ⟨k, a, b⟩ → opA ⟨k, a, b⟩ bx gr ct ce = opA o bx gr ct ce := fun k a b e => by rw [e]
  obtain ⟨k, a, b⟩ := o
  simp only at hk hs hnum
  clear hc eA
  rcases kind16 (by omega) hk.2 with e | e | e | e | e | e | e | e | e | e | e | e | e | e | e | e <;> subst e
  · omega
  all_goals
    repeat' (first | (first | (((with_reducible refine gd_mLdI ?_); refine Sep.ldI hs 0 rfl rfl ?_)) | ((simp only [mBind_ap])) | ((simp only [unB_bool])) | ((simp only [add_mk, Nat.zero_add])) | ((simp only [add_mk, Nat.zero_add, Bool.not_false, Bool.true_or, mIf_true]))) | refine mIf_pos rfl ?_ | refine mIf_neg rfl ?_ | (refine (rin_s _ _ _).mono ?_; rintro v h ⟨rfl, rfl⟩) | (refine mQ_intro _ (rin_s _ _ _) ?_) | apply S_signalboxref06_Op_14 | apply S_signalboxref06_Op_15 | apply S_signalboxref06_Op_18 | apply S_signalboxref06_Op_25 | apply S_signalboxref06_Op_28 | unfold B_signalboxref06_Op_14 | unfold B_signalboxref06_Op_15 | unfold B_signalboxref06_Op_18 | unfold B_signalboxref06_Op_25 | unfold B_signalboxref06_Op_28)
  all_goals exact opE_go ⟨_, a, b⟩ bx gr ct ce hnum rfl rfl ⟨rfl, hs.drop⟩
end
end Go.Proofs.Ytimpaammdmeocaa
