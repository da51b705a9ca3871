/- Job: the laws JobNone and JobParts. Conditions: none. -/
import Derived.Test.YtjifoicncenfpaaJobL
import Derived.Test.YtjifoicncenfpaaSbW
namespace Go.Proofs.Ytjifoicncenfpaa
open Go Go.Sb
set_option linter.unusedSimpArgs false
set_option linter.unusedVariables false

abbrev JFin (h0 : Hp) : Value → Hp → Prop := fun v h' => v = .bool true ∧ Under h0.size h0 h'
def t17 (x : Nat) : CTask := ⟨0, 0, 0, 0, 0, 2, ⟨some ⟨x, 0, none⟩, 2, 2⟩⟩
def o17 : List COp := [⟨1, 5, 0⟩, ⟨7, 1, 0⟩]
section
variable {h0 h : Hp} {R : List As}
theorem fixed17_s (hs : Sep h0 h R) : N_signalboxlaw17_fixed h (fun v h' => v = .bool true ∧ Sep h0 h' R) := by
  apply S_signalboxlaw17_fixed
  unfold B_signalboxlaw17_fixed
  (refine Sep.new hs fun nb h hs => ?_; try simp only [List.toList_toArray] at hs)
  have hs := Blk.row (enc := COp.enc) (sz := 3) (xs := o17) hs 0 rfl rfl (n := 2) rfl
  simp only [List.set_cons_zero] at hs
  have hp := hs.rowE 0 rfl (fun _ => rfl) (by omega)
  have hs0 := hs
  clear hs
  have hs := Sep.init h
  have fin : ∀ {h' : Hp} {L : List As}, Sep h h' L → Sep h0 h' R := fun {h'} {L} hs' => by
    have := hs0.more hs'.under
    exact this.drop
  clear hs0
  (simp only [mBind_ap])
  refine (New_s hs (t17 nb)).mono ?_
  rintro v h1 ⟨b, rfl, hs⟩
  (simp only [unP_pointer, mBind_ap])
  refine (Begin_s (ops := o17) hs hp (fun _ => ⟨Int.le_refl _, by simp [o17, newJ]⟩) 5).mono ?_
  rintro v h2 ⟨rfl, hs⟩
  rw [show (beginJ o17 (newJ (t17 nb)) 5).2 = ⟨t17 nb, 0, 5, 0, 0, 2, false, false, false⟩ by kernel_rfl] at hs
  rw [show (beginJ o17 (newJ (t17 nb)) 5).1 = 0 by kernel_rfl]
  (simp only [unI_int, mBind_ap])
  refine (Burn_s hs 3).mono ?_
  rintro v h3 ⟨rfl, hs⟩
  rw [show burnJ ⟨t17 nb, 0, 5, 0, 0, 2, false, false, false⟩ 3 = ⟨t17 nb, 0, 2, 0, 0, 2, false, false, false⟩ by kernel_rfl] at hs
  rw [show burnN ⟨t17 nb, 0, 5, 0, 0, 2, false, false, false⟩ 3 = 3 by kernel_rfl]
  (simp only [unI_int, mBind_ap])
  refine (Withhold_s hs).mono ?_
  rintro v h4 ⟨rfl, hs⟩
  rw [show (withJ ⟨t17 nb, 0, 2, 0, 0, 2, false, false, false⟩).2 = ⟨t17 nb, 0, 2, 0, 0, 2, true, false, false⟩ by kernel_rfl] at hs
  rw [show (withJ ⟨t17 nb, 0, 2, 0, 0, 2, false, false, false⟩).1 = true by kernel_rfl]
  (simp only [unB_bool, Bool.and_true, mBind_ap])
  refine (Burn_s hs 9).mono ?_
  rintro v h5 ⟨rfl, hs⟩
  rw [show burnJ ⟨t17 nb, 0, 2, 0, 0, 2, true, false, false⟩ 9 = ⟨t17 nb, 1, 0, 0, 0, 0, true, false, false⟩ by kernel_rfl] at hs
  rw [show burnN ⟨t17 nb, 0, 2, 0, 0, 2, true, false, false⟩ 9 = 2 by kernel_rfl]
  (simp only [unI_int, mBind_ap])
  refine (Left_s hs).mono ?_
  rintro v h' ⟨rfl, rfl⟩
  (simp only [un2_tuple, unB_bool, Bool.and_true, unI_int, mBind_ap])
  refine (Begin_s (ops := o17) hs hp (fun _ => ⟨Int.le_of_lt Int.zero_lt_one, by simp [o17]⟩) 1).mono ?_
  rintro v h6 ⟨rfl, hs⟩
  rw [show (beginJ o17 ⟨t17 nb, 1, 0, 0, 0, 0, true, false, false⟩ 1).2 = ⟨t17 nb, 1, 1, 0, 0, 0, true, true, false⟩ by kernel_rfl] at hs
  rw [show (beginJ o17 ⟨t17 nb, 1, 0, 0, 0, 0, true, false, false⟩ 1).1 = 11 by kernel_rfl]
  (simp only [unI_int, mBind_ap])
  refine (Burn_s hs 1).mono ?_
  rintro v h7 ⟨rfl, hs⟩
  rw [show burnJ ⟨t17 nb, 1, 1, 0, 0, 0, true, true, false⟩ 1 = ⟨t17 nb, 2, 0, 0, 0, 0, true, true, true⟩ by kernel_rfl] at hs
  rw [show burnN ⟨t17 nb, 1, 1, 0, 0, 0, true, true, false⟩ 1 = 1 by kernel_rfl]
  (simp only [unI_int, mBind_ap])
  refine mIf_pos rfl ?_
  (simp only [mBind_ap])
  refine (Fault_s hs).mono ?_
  rintro v h' ⟨rfl, rfl⟩
  (simp only [unB_bool]; rw [mRet_ap]; simp only [Bool.true_and])
  refine mIf_pos rfl ?_
  (simp only [mBind_ap])
  refine (Over_s hs).mono ?_
  rintro v h' ⟨rfl, rfl⟩
  (simp only [unB_bool]; rw [mRet_ap]; simp only [mIf_true, mBind_ap])
  refine (New_s hs ⟨0, 0, 0, 0, 0, 0, ⟨none, 0, 0⟩⟩).mono ?_
  rintro v h8 ⟨b2, rfl, hs⟩
  (simp only [unP_pointer, mBind_ap])
  refine (Over_s hs).mono ?_
  rintro v h' ⟨rfl, rfl⟩
  (simp only [unB_bool]; rw [mRet_ap])
  exact ⟨rfl, fin hs⟩
theorem JobNone_ok {n : Int} (_hn : -9223372036854775808 ≤ n ∧ n ≤ 9223372036854775807) : N_signalboxlaw17_JobNone n h0 (JFin h0) := by
  have over : ∀ h, N_job_Job_Over none h (fun v h' => v = .bool true ∧ h' = h) := fun h => by
    apply S_job_Job_Over
    unfold B_job_Job_Over
    simp
  have op : ∀ {h}, Sep h0 h [] → N_job_Job_Op none h (fun v h' => v = .tuple #[.agg #[.int .i64 0, .int .i64 0, .int .i64 0], .bool false] ∧ Sep h0 h' []) := fun {h} hs => by
    apply S_job_Job_Op
    unfold B_job_Job_Op
    ((refine Sep.new hs fun nb h hs => ?_; try simp only [List.toList_toArray] at hs); simp only [add_mk, Nat.zero_add, mBind_ap])
    refine (over _).mono ?_
    rintro v h' ⟨rfl, rfl⟩
    (simp only [unB_bool, mIf_true, mBind_ap]; rw [mRet_ap]; simp only [mIf_true]; (refine Sep.st hs 0 rfl rfl rfl fun h hs => ?_; simp only [List.set_cons_zero, List.set_cons_succ] at hs); (refine Sep.st hs 0 rfl rfl rfl fun h hs => ?_; simp only [List.set_cons_zero, List.set_cons_succ] at hs); (refine Sep.st hs 0 rfl rfl rfl fun h hs => ?_; simp only [List.set_cons_zero, List.set_cons_succ] at hs); refine Sep.ldI hs 0 rfl rfl ?_; refine Sep.ldI hs 0 rfl rfl ?_; refine Sep.ldI hs 0 rfl rfl ?_)
    exact ⟨rfl, hs.drop⟩
  apply S_signalboxlaw17_JobNone
  unfold B_signalboxlaw17_JobNone
  rw [mBind_ap]
  refine (fixed17_s (Sep.init h0)).mono ?_
  rintro v h ⟨rfl, hs⟩
  (simp only [unB_bool, Bool.not_true, mIf_false, mBind_ap])
  refine (op hs).mono ?_
  rintro v h ⟨rfl, hs⟩
  (simp only [unT_tuple, unC_cons, unE_nil, unB_bool, Bool.not_false, Bool.and_true, unA_agg, unI_int]; (refine Sep.new hs fun nb h hs => ?_; try simp only [List.toList_toArray] at hs); (refine Sep.st hs 0 rfl rfl rfl fun h hs => ?_; simp only [List.set_cons_zero, List.set_cons_succ] at hs); (refine Sep.st hs 0 rfl rfl rfl fun h hs => ?_; simp only [List.set_cons_zero, List.set_cons_succ] at hs); (refine Sep.st hs 0 rfl rfl rfl fun h hs => ?_; simp only [List.set_cons_zero, List.set_cons_succ] at hs); simp only [mBind_ap])
  have hs := hs.drop
  refine Nf.mono (Q := fun v h' => v = .tuple #[.int .i64 0, .bool false] ∧ h' = h) ?_ ?_
  · apply S_job_Job_Left
    unfold B_job_Job_Left
    simp
  rintro v h' ⟨rfl, rfl⟩
  (simp only [un2_tuple, unB_bool, Bool.not_false, Bool.and_true, unI_int, mBind_ap])
  refine (over _).mono ?_
  rintro v h' ⟨rfl, rfl⟩
  (simp only [unB_bool, mIf_true, mBind_ap])
  refine Nf.mono (Q := fun v h' => v = .int .i64 1 ∧ Sep h0 h' []) ?_ ?_
  · apply S_job_Job_Begin
    unfold B_job_Job_Begin
    (simp only [mBind_ap])
    refine (op hs).mono ?_
    rintro v h ⟨rfl, hs⟩
    (simp only [unT_tuple, unC_cons, unE_nil, unB_bool, Bool.not_false, mIf_true, unA_agg, unI_int]; (refine Sep.new hs fun nb_1 h hs => ?_; try simp only [List.toList_toArray] at hs); (refine Sep.st hs 0 rfl rfl rfl fun h hs => ?_; simp only [List.set_cons_zero, List.set_cons_succ] at hs); (refine Sep.st hs 0 rfl rfl rfl fun h hs => ?_; simp only [List.set_cons_zero, List.set_cons_succ] at hs); (refine Sep.st hs 0 rfl rfl rfl fun h hs => ?_; simp only [List.set_cons_zero, List.set_cons_succ] at hs))
    exact ⟨rfl, hs.drop⟩
  rintro v h ⟨rfl, hs⟩
  (simp only [unI_int]; rw [mRet_ap])
  refine mIf_pos rfl ?_
  (simp only [mBind_ap])
  have rest : ∀ h, N_job_Job_Rest none h (fun v h' => v = .int .i64 0 ∧ h' = h) := fun h => by
    apply S_job_Job_Rest
    unfold B_job_Job_Rest
    simp
  refine Nf.mono (Q := fun v h' => v = .int .i64 0 ∧ h' = h) ?_ ?_
  · apply S_job_Job_Burn
    unfold B_job_Job_Burn
    rw [mBind_ap]
    refine (rest _).mono ?_
    rintro v h' ⟨rfl, rfl⟩
    (simp only [unI_int])
    refine mIf_pos ?_ ⟨rfl, rfl⟩
    simp only [beq_iff_eq]
    split <;> split at * <;> omega
  rintro v h' ⟨rfl, rfl⟩
  (simp only [unI_int, mBind_ap])
  refine (rest _).mono ?_
  rintro v h' ⟨rfl, rfl⟩
  (simp only [unI_int, mBind_ap])
  refine Nf.mono (Q := fun v h'' => v = .int .i64 0 ∧ h'' = h') ?_ ?_
  · apply S_job_Job_Pushed
    unfold B_job_Job_Pushed
    simp
  rintro v h' ⟨rfl, rfl⟩
  (simp only [unI_int, mBind_ap])
  refine Nf.mono (Q := fun v h'' => v = .int .i64 0 ∧ h'' = h') ?_ ?_
  · apply S_job_Job_At
    unfold B_job_Job_At
    simp
  rintro v h' ⟨rfl, rfl⟩
  (simp only [unI_int]; rw [mRet_ap])
  refine mIf_pos rfl ?_
  (simp only [mBind_ap])
  refine Nf.mono (Q := fun v h'' => v = .bool false ∧ h'' = h') ?_ ?_
  · apply S_job_Job_Open
    unfold B_job_Job_Open
    simp
  rintro v h' ⟨rfl, rfl⟩
  (simp only [unB_bool, Bool.not_false]; rw [mRet_ap]; simp only [mIf_true, mBind_ap])
  refine Nf.mono (Q := fun v h'' => v = .bool false ∧ h'' = h') ?_ ?_
  · apply S_job_Job_Fault
    unfold B_job_Job_Fault
    simp
  rintro v h' ⟨rfl, rfl⟩
  (simp only [unB_bool, Bool.not_false]; rw [mRet_ap]; simp only [mIf_true, mBind_ap])
  refine Nf.mono (Q := fun v h'' => v = .bool false ∧ h'' = h') ?_ ?_
  · apply S_job_Job_Withhold
    unfold B_job_Job_Withhold
    rw [mBind_ap]
    refine (over _).mono ?_
    rintro v h' ⟨rfl, rfl⟩
    simp
  rintro v h' ⟨rfl, rfl⟩
  (simp only [unB_bool, Bool.not_false]; rw [mRet_ap])
  exact ⟨rfl, hs.under⟩
end
/-- cycles that go by, without the machine's bounds -/
def burnP (j : Jb) (n : Int) : Jb := if min (max n 0) j.rest = 0 then j else burn2 { j with rest := j.rest - min (max n 0) j.rest, left := if j.armed then max (j.left - min (max n 0) j.rest) 0 else j.left }
structure JBd (j : Jb) : Prop where
  rest : 0 ≤ j.rest ∧ j.rest ≤ 9223372036854775807
  left : 0 ≤ j.left ∧ j.left ≤ 9223372036854775807
theorem burnN_eq (j : Jb) (n : Int) : burnN j n = min (max n 0) j.rest := by
  unfold burnN; split <;> split at * <;> omega
theorem burnJ_eq {j : Jb} (hb : JBd j) (n : Int) : burnJ j n = burnP j n := by
  obtain ⟨r1, r2⟩ := hb.rest
  obtain ⟨l1, l2⟩ := hb.left
  unfold burnJ burnP
  rw [burnN_eq]
  by_cases hm : min (max n 0) j.rest = 0
  · rw [if_pos hm, if_pos (by simpa using hm)]
  · rw [if_neg hm, if_neg (by simpa using hm)]
    congr 1
    unfold burn1
    rw [wrap64 _ (by omega), wrap64 _ (by omega)]
    congr 1
    split
    · split <;> omega
    · rfl
theorem burn2_bd {j : Jb} (hb : JBd j) : JBd (burn2 j) := by
  unfold burn2
  split
  · exact ⟨hb.rest, hb.left⟩
  · exact hb
theorem burnP_bd {j : Jb} (hb : JBd j) (n : Int) : JBd (burnP j n) := by
  unfold burnP
  obtain ⟨r1, r2⟩ := hb.rest
  obtain ⟨l1, l2⟩ := hb.left
  split
  · exact hb
  · refine burn2_bd ⟨by simp only; omega, ?_⟩
    simp only
    split <;> omega
theorem burn2_rest (j : Jb) : (burn2 j).rest = j.rest := by unfold burn2; split <;> rfl
theorem burnP_zero {j : Jb} (h : j.rest = 0) (n : Int) : burnP j n = j := by
  unfold burnP
  rw [if_pos (by omega)]
theorem burnP_pos {j : Jb} {n m : Int} (h : min (max n 0) j.rest = m) (hm : m ≠ 0) : burnP j n = burn2 { j with rest := j.rest - m, left := if j.armed then max (j.left - m) 0 else j.left } := by
  unfold burnP
  rw [h, if_neg hm]
theorem burnP_parts {j : Jb} (hb : JBd j) {a b : Int} (ha : 0 ≤ a) (hb' : 0 ≤ b) : burnP (burnP j a) b = burnP j (a + b) ∧ min (max a 0) j.rest + min (max b 0) (burnP j a).rest = min (max (a + b) 0) j.rest := by
  obtain ⟨r1, r2⟩ := hb.rest
  obtain ⟨l1, l2⟩ := hb.left
  by_cases h0 : j.rest = 0
  · have e : ∀ n, burnP j n = j := fun n => by unfold burnP; rw [if_pos (by omega)]
    rw [e, e, e]
    exact ⟨rfl, by omega⟩
  by_cases ha0 : a = 0
  · have e : burnP j a = j := by unfold burnP; rw [if_pos (by omega)]
    rw [e, ha0]
    exact ⟨by simp, by omega⟩
  by_cases hle : j.rest ≤ a
  · have e1 : (burnP j a).rest = 0 := by
      rw [burnP_pos (m := j.rest) (by omega) h0, burn2_rest]
      simp only; omega
    rw [burnP_zero e1, e1]
    refine ⟨?_, by omega⟩
    rw [burnP_pos (n := a) (m := j.rest) (by omega) h0, burnP_pos (n := a + b) (m := j.rest) (by omega) h0]
  · have e1 : burnP j a = { j with rest := j.rest - a, left := if j.armed then max (j.left - a) 0 else j.left } := by
      rw [burnP_pos (m := a) (by omega) ha0]
      unfold burn2
      rw [if_neg (by simp; omega)]
    rw [e1]
    refine ⟨?_, by simp only; omega⟩
    by_cases hb0 : b = 0
    · rw [hb0, Int.add_zero, e1]
      unfold burnP
      rw [if_pos (by simp only; omega)]
    · have hm : min (max b 0) (j.rest - a) ≠ 0 := by omega
      rw [burnP_pos (j := { j with rest := j.rest - a, left := if j.armed then max (j.left - a) 0 else j.left }) (m := min (max b 0) (j.rest - a)) rfl hm, burnP_pos (n := a + b) (m := a + min (max b 0) (j.rest - a)) (by omega) (by omega)]
      congr 1
      simp only
      congr 1
      · omega
      · split <;> omega
section parts
variable {h0 : Hp} {t : CTask} {ops : List COp} {cost a b : Int} {w : Bool}
theorem begin_bd {j : Jb} (hb : JBd j) (ops : List COp) {cost : Int} (hc : cost ≤ 9223372036854775807) : JBd (beginJ ops j cost).2 := by
  have h1 : JBd (begin1 j cost) := ⟨by unfold begin1; simp only; split <;> omega, hb.left⟩
  unfold beginJ
  split
  · unfold doJ
    split
    · exact ⟨h1.rest, h1.left⟩
    split
    · exact ⟨h1.rest, h1.left⟩
    split
    · unfold pushJ
      split
      · exact ⟨by simp only; omega, h1.left⟩
      · exact ⟨h1.rest, h1.left⟩
    split
    · exact ⟨h1.rest, h1.left⟩
    · exact h1
  · exact hb
theorem with_bd {j : Jb} (hb : JBd j) : JBd (withJ j).2 := by
  unfold withJ; split
  · exact hb
  · exact ⟨hb.rest, hb.left⟩
theorem new_bd (ht : t.float ≤ 9223372036854775807) : JBd (newJ t) := by
  refine ⟨by unfold newJ; simp only; omega, ?_⟩
  unfold newJ; simp only; split <;> omega
theorem begin_t (ops : List COp) (j : Jb) (cost : Int) : (beginJ ops j cost).2.t = j.t := by
  unfold beginJ; split
  · unfold doJ; split
    · rfl
    split
    · rfl
    split
    · unfold pushJ; split <;> rfl
    split <;> rfl
  · rfl
theorem jp6 {x y : Nat} {h : Hp} {j : Jb} (hp : RdE h0.size h0 COp.enc 3 j.t.program ops) (hb : JBd j) (hat : j.over = false → 0 ≤ j.at_ ∧ j.at_ < ops.length) (hc : 0 ≤ cost ∧ cost ≤ 65535) (ha : 0 ≤ a ∧ a ≤ 65535) (hbb : 0 ≤ b ∧ b ≤ 65535)
    (hs : Sep h0 h [aBlk x j.enc, aBlk y j.enc]) : K_signalboxlaw17_JobParts_6 cost a b w (some ⟨x, 0, none⟩) (some ⟨y, 0, none⟩) h (JFin h0) := by
  apply S_signalboxlaw17_JobParts_6
  unfold B_signalboxlaw17_JobParts_6
  rw [wrap64 cost (by omega), wrap64 a (by omega), wrap64 b (by omega), wrap64 (a + b) (by omega), mBind_ap]
  refine (Begin_s hs hp hat cost).mono ?_
  rintro v h ⟨rfl, hs⟩
  (simp only [unI_int, mBind_ap])
  refine (Begin_s hs.swap hp hat cost).mono ?_
  rintro v h ⟨rfl, hs⟩
  have hs := hs.swap
  (simp only [unI_int, mBind_ap])
  refine mIf_neg (by simp) ?_
  have hb1 := begin_bd hb ops (cost := cost) (by omega)
  generalize (beginJ ops j cost).2 = j1 at *
  have fin : ∀ (h : Hp) (j : Jb), JBd j → Sep h0 h [aBlk x j.enc, aBlk y j.enc] → (mBind (N_job_Job_Burn (some ⟨x, 0, none⟩) a) fun r50 =>
    unI .i64 r50 fun (x50 : Int) =>
    mBind (N_job_Job_Burn (some ⟨x, 0, none⟩) b) fun r55 =>
    unI .i64 r55 fun (x55 : Int) =>
    mBind (N_job_Job_Burn (some ⟨y, 0, none⟩) (a + b)) fun r63 =>
    unI .i64 r63 fun (x63 : Int) =>
    mBind (N_job_Job_Left (some ⟨x, 0, none⟩)) fun r66 =>
    un2 (unI .i64) unB r66 fun (x66_0 : Int) (x66_1 : Bool) =>
    mBind (N_job_Job_Left (some ⟨y, 0, none⟩)) fun r71 =>
    un2 (unI .i64) unB r71 fun (x71_0 : Int) (x71_1 : Bool) =>
    mBind (mIf ((IntKind.i64.wrap (x50 + x55)) == x63) (mBind (N_job_Job_Rest (some ⟨x, 0, none⟩)) fun r79 =>
      unI .i64 r79 fun (x79 : Int) =>
      mBind (N_job_Job_Rest (some ⟨y, 0, none⟩)) fun r81 =>
      unI .i64 r81 fun (x81 : Int) =>
      mRet (x79 == x81)) (mRet false)) fun (b29 : Bool) =>
    mBind (mIf b29 (mBind (N_job_Job_At (some ⟨x, 0, none⟩)) fun r86 =>
      unI .i64 r86 fun (x86 : Int) =>
      mBind (N_job_Job_At (some ⟨y, 0, none⟩)) fun r88 =>
      unI .i64 r88 fun (x88 : Int) =>
      mRet (x86 == x88)) (mRet false)) fun (b32 : Bool) =>
    mBind (mIf b32 (mBind (N_job_Job_Over (some ⟨x, 0, none⟩)) fun r93 =>
      unB r93 fun (x93 : Bool) =>
      mBind (N_job_Job_Over (some ⟨y, 0, none⟩)) fun r95 =>
      unB r95 fun (x95 : Bool) =>
      mRet (x93 == x95)) (mRet false)) fun (b35 : Bool) =>
    mRet (Value.bool ((b35 && (x66_0 == x71_0)) && (x66_1 == x71_1)))) h (JFin h0) := by
    intro h j hb hs
    obtain ⟨e1, e2⟩ := burnP_parts hb ha.1 hbb.1
    have hba := burnP_bd hb a
    have r1 := hb.rest
    have r2 := hba.rest
    rw [mBind_ap]
    refine (Burn_s hs a).mono ?_
    rintro v h ⟨rfl, hs⟩
    rw [burnJ_eq hb] at hs
    (simp only [unI_int, mBind_ap])
    refine (Burn_s hs b).mono ?_
    rintro v h ⟨rfl, hs⟩
    rw [burnJ_eq hba, e1] at hs
    (simp only [unI_int, mBind_ap])
    refine (Burn_s hs.swap (a + b)).mono ?_
    rintro v h ⟨rfl, hs⟩
    rw [burnJ_eq hb] at hs
    (simp only [unI_int, mBind_ap])
    refine (Left_s hs.swap).mono ?_
    rintro v h' ⟨rfl, rfl⟩
    (simp only [un2_tuple, unB_bool, unI_int, mBind_ap])
    refine (Left_s hs).mono ?_
    rintro v h' ⟨rfl, rfl⟩
    (simp only [un2_tuple, unB_bool, unI_int, mBind_ap])
    rw [burnN_eq, burnN_eq, burnN_eq, wrap64 _ (by omega)]
    refine mIf_pos (by rw [e2]; simp) ?_
    (simp only [mBind_ap])
    refine (Rest_s hs.swap).mono ?_
    rintro v h' ⟨rfl, rfl⟩
    (simp only [unI_int, mBind_ap])
    refine (Rest_s hs).mono ?_
    rintro v h' ⟨rfl, rfl⟩
    (simp only [unI_int]; rw [mRet_ap])
    refine mIf_pos (by simp) ?_
    (simp only [mBind_ap])
    refine (At_s hs.swap).mono ?_
    rintro v h' ⟨rfl, rfl⟩
    (simp only [unI_int, mBind_ap])
    refine (At_s hs).mono ?_
    rintro v h' ⟨rfl, rfl⟩
    (simp only [unI_int]; rw [mRet_ap])
    refine mIf_pos (by simp) ?_
    (simp only [mBind_ap])
    refine (Over_s hs.swap).mono ?_
    rintro v h' ⟨rfl, rfl⟩
    (simp only [unB_bool, mBind_ap])
    refine (Over_s hs).mono ?_
    rintro v h' ⟨rfl, rfl⟩
    exact ⟨by simp, hs.under⟩
  cases w with
  | false =>
    (simp only [mIf_false, mBind_ap]; rw [mRet_ap]; rw [mRet_ap]; simp only [mIf_false, mBind_ap])
    exact fin h j1 hb1 hs
  | true =>
    (simp only [mIf_true, mBind_ap])
    refine (Withhold_s hs).mono ?_
    rintro v h ⟨rfl, hs⟩
    (simp only [unB_bool, mBind_ap])
    refine (Withhold_s hs.swap).mono ?_
    rintro v h ⟨rfl, hs⟩
    have hs := hs.swap
    simp only [unB_bool, mRet_ap, beq_self_eq_true, Bool.not_true, mIf_false]
    exact fin h _ (with_bd hb1) hs
theorem JobParts_ok (ht : t.ok h0) (hc : 0 ≤ cost ∧ cost ≤ 65535) (ha : 0 ≤ a ∧ a ≤ 65535) (hbb : 0 ≤ b ∧ b ≤ 65535) : N_signalboxlaw17_JobParts t.priority t.threshold t.period t.deadline t.frame t.float t.program cost a b w h0 (JFin h0) := by
  obtain ⟨_, _, _, _, _, hfl, hlen, ops, hp, _⟩ := ht
  have hpn := hp.n
  have hat : (newJ t).over = false → 0 ≤ (newJ t).at_ ∧ (newJ t).at_ < ops.length := by
    unfold newJ
    simp only
    intro h
    have : ¬ (t.program.n : Int) = 0 := by simpa using h
    omega
  have hb := new_bd hfl.2
  apply S_signalboxlaw17_JobParts
  unfold B_signalboxlaw17_JobParts
  have hs := Sep.init h0
  ((refine Sep.new hs fun nb h hs => ?_; try simp only [List.toList_toArray] at hs); simp only [add_mk, Nat.zero_add, mBind_ap])
  refine (fixed17_s hs).mono ?_
  rintro v h ⟨rfl, hs⟩
  (simp only [unB_bool, Bool.not_true, mIf_false]; refine Sep.ldI hs 0 rfl rfl ?_; refine Sep.ldI hs 0 rfl rfl ?_; refine Sep.ldI hs 0 rfl rfl ?_; refine Sep.ldI hs 0 rfl rfl ?_; refine Sep.ldI hs 0 rfl rfl ?_; refine Sep.ldI hs 0 rfl rfl ?_; refine Sep.ldL hs 0 rfl rfl ?_; simp only [mBind_ap])
  refine (few_s hs t hp ⟨none, 0, 0⟩ (by omega)).mono ?_
  rintro v h ⟨rfl, hs⟩
  (simp only [unB_bool])
  refine mIf_intro (fun _ => ⟨rfl, hs.under⟩) (fun _ => ?_)
  refine ⟨?_, ?_⟩
  · (refine Sep.ldI hs 0 rfl rfl ?_; refine Sep.ldI hs 0 rfl rfl ?_; refine Sep.ldI hs 0 rfl rfl ?_; refine Sep.ldI hs 0 rfl rfl ?_; refine Sep.ldI hs 0 rfl rfl ?_; refine Sep.ldI hs 0 rfl rfl ?_; refine Sep.ldL hs 0 rfl rfl ?_)
    refine ⟨?_, ?_⟩
    · rw [mBind_ap]
      refine (New_s hs t).mono ?_
      rintro v h ⟨x, rfl, hs⟩
      (simp only [unP_pointer]; refine Sep.ldI hs 1 rfl rfl ?_; refine Sep.ldI hs 1 rfl rfl ?_; refine Sep.ldI hs 1 rfl rfl ?_; refine Sep.ldI hs 1 rfl rfl ?_; refine Sep.ldI hs 1 rfl rfl ?_; refine Sep.ldI hs 1 rfl rfl ?_; refine Sep.ldL hs 1 rfl rfl ?_; simp only [mBind_ap])
      refine (New_s hs t).mono ?_
      rintro v h ⟨y, rfl, hs⟩
      (simp only [unP_pointer])
      exact jp6 (j := newJ t) hp hb hat hc ha hbb ((hs.re [1, 0, 2] rfl).front 2 rfl |>.drop)
    · (refine Sep.ldI hs 0 rfl rfl ?_; refine Sep.ldI hs 0 rfl rfl ?_; refine Sep.ldI hs 0 rfl rfl ?_; refine Sep.ldI hs 0 rfl rfl ?_; refine Sep.ldI hs 0 rfl rfl ?_; refine Sep.ldI hs 0 rfl rfl ?_; refine Sep.ldL hs 0 rfl rfl ?_; simp only [mBind_ap])
      refine (New_s hs t).mono ?_
      rintro v h ⟨x, rfl, hs⟩
      (simp only [unP_pointer, mBind_ap])
      refine (New_s hs t).mono ?_
      rintro v h ⟨y, rfl, hs⟩
      (simp only [unP_pointer])
      exact jp6 (j := newJ t) hp hb hat hc ha hbb ((hs.re [1, 0, 2] rfl).front 2 rfl |>.drop)
  · (refine Sep.ldI hs 0 rfl rfl ?_; refine Sep.ldI hs 0 rfl rfl ?_; refine Sep.ldI hs 0 rfl rfl ?_; refine Sep.ldI hs 0 rfl rfl ?_; refine Sep.ldI hs 0 rfl rfl ?_; refine Sep.ldI hs 0 rfl rfl ?_; refine Sep.ldL hs 0 rfl rfl ?_; refine Sep.ldI hs 0 rfl rfl ?_; refine Sep.ldI hs 0 rfl rfl ?_; refine Sep.ldI hs 0 rfl rfl ?_; refine Sep.ldI hs 0 rfl rfl ?_; refine Sep.ldI hs 0 rfl rfl ?_; refine Sep.ldI hs 0 rfl rfl ?_; refine Sep.ldL hs 0 rfl rfl ?_; simp only [mBind_ap])
    refine (New_s hs t).mono ?_
    rintro v h ⟨x, rfl, hs⟩
    (simp only [unP_pointer, mBind_ap])
    refine (New_s hs t).mono ?_
    rintro v h ⟨y, rfl, hs⟩
    (simp only [unP_pointer])
    exact jp6 (j := newJ t) hp hb hat hc ha hbb ((hs.re [1, 0, 2] rfl).front 2 rfl |>.drop)
end parts
end Go.Proofs.Ytjifoicncenfpaa
