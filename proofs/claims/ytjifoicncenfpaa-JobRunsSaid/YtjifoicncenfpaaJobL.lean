/- Job: what each call answers, over what is owned. Conditions: none. -/
import Derived.Test.YtjifoicncenfpaaJobM
import Derived.Test.YtjifoicncenfpaaJobA
import Derived.Test.YtjifoicncenfpaaSbW
namespace Go.Proofs.Ytjifoicncenfpaa
open Go Go.Sb
set_option linter.unusedSimpArgs false
set_option linter.unusedVariables false

structure Jb where
  t : CTask
  at_ : Int
  rest : Int
  regions : Int
  pushed : Int
  left : Int
  armed : Bool
  fault : Bool
  over : Bool
def Jb.enc (j : Jb) : List Value := [.int .i64 j.t.priority, .int .i64 j.t.threshold, .int .i64 j.t.period, .int .i64 j.t.deadline, .int .i64 j.t.frame, .int .i64 j.t.float, .slice j.t.program.p j.t.program.n j.t.program.c,
  .int .i64 j.at_, .int .i64 j.rest, .int .i64 j.regions, .int .i64 j.pushed, .int .i64 j.left, .bool j.armed, .bool j.fault, .bool j.over]
def newJ (t : CTask) : Jb := ⟨t, 0, 0, 0, 0, if (0 : Int) > t.float then 0 else t.float, false, false, (t.program.n : Int) == 0⟩
section
variable {h0 h : Hp} {R : List As} {b : Nat} {j : Jb}
theorem New_s (hs : Sep h0 h R) (t : CTask) : N_job_New t.priority t.threshold t.period t.deadline t.frame t.float t.program h (fun v h' => ∃ b, v = .pointer (some ⟨b, 0, none⟩) ∧ Sep h0 h' (aBlk b (newJ t).enc :: R)) := by
  apply S_job_New
  unfold B_job_New
  ((refine Sep.new hs fun nb h hs => ?_; try simp only [List.toList_toArray] at hs); refine Sep.ldI hs 0 rfl rfl ?_; refine Sep.ldI hs 0 rfl rfl ?_; refine Sep.ldI hs 0 rfl rfl ?_; refine Sep.ldI hs 0 rfl rfl ?_; refine Sep.ldI hs 0 rfl rfl ?_; refine Sep.ldI hs 0 rfl rfl ?_; refine Sep.ldL hs 0 rfl rfl ?_; refine Sep.ldI hs 0 rfl rfl ?_; refine Sep.ldL hs 0 rfl rfl ?_; (refine Sep.new hs fun nb_1 h hs => ?_; try simp only [List.toList_toArray] at hs))
  exact ⟨nb_1, rfl, hs.swap.drop⟩
theorem Over_s (hs : Sep h0 h (aBlk b j.enc :: R)) : N_job_Job_Over (some ⟨b, 0, none⟩) h (fun v h' => v = .bool j.over ∧ h' = h) := by
  apply S_job_Job_Over
  unfold B_job_Job_Over
  (simp only [Option.isNone_some, mNil_some, add_mk, Nat.zero_add, mIf_false, mBind_ap]; refine Sep.ldB hs 0 rfl rfl ?_; rw [mRet_ap])
  exact ⟨rfl, rfl⟩
theorem Rest_s (hs : Sep h0 h (aBlk b j.enc :: R)) : N_job_Job_Rest (some ⟨b, 0, none⟩) h (fun v h' => v = .int .i64 j.rest ∧ h' = h) := by
  apply S_job_Job_Rest
  unfold B_job_Job_Rest
  (simp only [Option.isNone_some, mNil_some, add_mk, Nat.zero_add, mIf_false]; refine Sep.ldI hs 0 rfl rfl ?_)
  exact ⟨rfl, rfl⟩
theorem At_s (hs : Sep h0 h (aBlk b j.enc :: R)) : N_job_Job_At (some ⟨b, 0, none⟩) h (fun v h' => v = .int .i64 j.at_ ∧ h' = h) := by
  apply S_job_Job_At
  unfold B_job_Job_At
  (simp only [Option.isNone_some, mNil_some, add_mk, Nat.zero_add, mIf_false]; refine Sep.ldI hs 0 rfl rfl ?_)
  exact ⟨rfl, rfl⟩
theorem Fault_s (hs : Sep h0 h (aBlk b j.enc :: R)) : N_job_Job_Fault (some ⟨b, 0, none⟩) h (fun v h' => v = .bool j.fault ∧ h' = h) := by
  apply S_job_Job_Fault
  unfold B_job_Job_Fault
  (simp only [Option.isNone_some, Bool.not_false, mNil_some, add_mk, Nat.zero_add, mIf_true, mBind_ap]; refine Sep.ldB hs 0 rfl rfl ?_; rw [mRet_ap])
  exact ⟨rfl, rfl⟩
theorem Open_s (hs : Sep h0 h (aBlk b j.enc :: R)) : N_job_Job_Open (some ⟨b, 0, none⟩) h (fun v h' => v = .bool (decide (j.regions > 0)) ∧ h' = h) := by
  apply S_job_Job_Open
  unfold B_job_Job_Open
  (simp only [Option.isNone_some, Bool.not_false, mNil_some, add_mk, Nat.zero_add, mIf_true, mBind_ap]; refine Sep.ldI hs 0 rfl rfl ?_; rw [mRet_ap])
  exact ⟨rfl, rfl⟩
theorem Left_s (hs : Sep h0 h (aBlk b j.enc :: R)) : N_job_Job_Left (some ⟨b, 0, none⟩) h (fun v h' => v = .tuple #[.int .i64 j.left, .bool j.armed] ∧ h' = h) := by
  apply S_job_Job_Left
  unfold B_job_Job_Left
  (simp only [Option.isNone_some, mNil_some, add_mk, Nat.zero_add, mIf_false]; refine Sep.ldI hs 0 rfl rfl ?_; refine Sep.ldB hs 0 rfl rfl ?_)
  exact ⟨rfl, rfl⟩
def withJ (j : Jb) : Bool × Jb := if j.over || (j.left == 0) then (false, j) else (true, { j with armed := true })
theorem Withhold_s (hs : Sep h0 h (aBlk b j.enc :: R)) : N_job_Job_Withhold (some ⟨b, 0, none⟩) h (fun v h' => v = .bool (withJ j).1 ∧ Sep h0 h' (aBlk b (withJ j).2.enc :: R)) := by
  apply S_job_Job_Withhold
  unfold B_job_Job_Withhold
  (simp only [mNil_some, add_mk, Nat.zero_add, mBind_ap])
  refine (Over_s hs).mono ?_
  rintro v h' ⟨rfl, rfl⟩
  unfold withJ
  obtain ⟨t, at_, rest, regions, pushed, left, armed, fault, over⟩ := j
  dsimp only
  cases over with
  | true =>
    (simp only [Bool.true_or, unB_bool, mIf_true, mBind_ap]; rw [mRet_ap]; simp only [mIf_true])
    exact ⟨rfl, hs⟩
  | false =>
    (simp only [Bool.false_or, unB_bool, mIf_false, mBind_ap]; refine Sep.ldI hs 0 rfl rfl ?_; rw [mRet_ap]; simp only)
    refine mIf_intro (fun hc => ?_) (fun hc => ?_)
    · rw [hc]
      exact ⟨rfl, hs⟩
    · rw [hc]
      ((refine Sep.st hs 0 rfl rfl rfl fun h hs => ?_; simp only [List.set_cons_zero, List.set_cons_succ] at hs))
      simp only [Bool.false_eq_true, if_false]
      exact ⟨rfl, hs⟩
def burnN (j : Jb) (n : Int) : Int := if j.rest < (if (0 : Int) > n then 0 else n) then j.rest else (if (0 : Int) > n then 0 else n)
def burn1 (j : Jb) (m : Int) : Jb := { j with rest := IntKind.i64.wrap (j.rest - m), left := if j.armed then (if (0 : Int) > IntKind.i64.wrap (j.left - m) then 0 else IntKind.i64.wrap (j.left - m)) else j.left }
def burn2 (j : Jb) : Jb := if j.rest == 0 then { j with at_ := IntKind.i64.wrap (j.at_ + 1), over := j.fault || (IntKind.i64.wrap (j.at_ + 1) == (j.t.program.n : Int)) } else j
def burnJ (j : Jb) (n : Int) : Jb := if burnN j n == 0 then j else burn2 (burn1 j (burnN j n))
theorem Burn_s (hs : Sep h0 h (aBlk b j.enc :: R)) (n : Int) : N_job_Job_Burn (some ⟨b, 0, none⟩) n h (fun v h' => v = .int .i64 (burnN j n) ∧ Sep h0 h' (aBlk b (burnJ j n).enc :: R)) := by
  apply S_job_Job_Burn
  unfold B_job_Job_Burn
  rw [mBind_ap]
  refine (Rest_s hs).mono ?_
  rintro v h' ⟨rfl, rfl⟩
  rw [unI_int]
  unfold burnJ
  have hm : burnN j n = (if j.rest < (if (0 : Int) > n then 0 else n) then j.rest else (if (0 : Int) > n then 0 else n)) := rfl
  rw [← hm]
  have k7 : ∀ (h : Hp) (j' : Jb) (m : Int), Sep h0 h (aBlk b j'.enc :: R) → K_job_Job_Burn_7 (some ⟨b, 0, none⟩) m h (fun v h' => v = .int .i64 m ∧ Sep h0 h' (aBlk b (burn2 j').enc :: R)) := by
    intro h j' m hs
    obtain ⟨t, at_, rest, regions, pushed, left, armed, fault, over⟩ := j'
    apply S_job_Job_Burn_7
    unfold B_job_Job_Burn_7 burn2
    (simp only [mNil_some, add_mk, Nat.zero_add]; refine Sep.ldI hs 0 rfl rfl ?_; simp only)
    refine mIf_intro (fun hc => ?_) (fun hc => ?_)
    · rw [hc]
      simp only [if_true]
      (refine Sep.ldI hs 0 rfl rfl ?_; (refine Sep.st hs 0 rfl rfl rfl fun h hs => ?_; simp only [List.set_cons_zero, List.set_cons_succ] at hs); refine Sep.ldB hs 0 rfl rfl ?_; simp only [mBind_ap])
      cases fault with
      | true =>
        (simp only [Bool.true_or, mIf_true]; rw [mRet_ap]; (refine Sep.st hs 0 rfl rfl rfl fun h hs => ?_; simp only [List.set_cons_zero, List.set_cons_succ] at hs))
        exact ⟨rfl, hs⟩
      | false =>
        (simp only [Bool.false_or, mIf_false]; refine Sep.ldI hs 0 rfl rfl ?_; refine Sep.ldL hs 0 rfl rfl ?_; rw [mRet_ap]; (refine Sep.st hs 0 rfl rfl rfl fun h hs => ?_; simp only [List.set_cons_zero, List.set_cons_succ] at hs))
        exact ⟨rfl, hs⟩
    · rw [hc]
      simp only [Bool.false_eq_true, if_false]
      exact ⟨rfl, hs⟩
  generalize burnN j n = m
  obtain ⟨t, at_, rest, regions, pushed, left, armed, fault, over⟩ := j
  refine mIf_intro (fun hc => ?_) (fun hc => ?_)
  · rw [hc, if_pos rfl]
    have : m = 0 := by simpa using hc
    exact ⟨by rw [this], hs⟩
  · rw [hc]
    simp only [Bool.false_eq_true, if_false]
    (simp only [mNil_some, add_mk, Nat.zero_add]; refine Sep.ldI hs 0 rfl rfl ?_; (refine Sep.st hs 0 rfl rfl rfl fun h hs => ?_; simp only [List.set_cons_zero, List.set_cons_succ] at hs); refine Sep.ldB hs 0 rfl rfl ?_; simp only)
    cases armed with
    | true =>
      (simp only [mIf_true]; refine Sep.ldI hs 0 rfl rfl ?_; (refine Sep.st hs 0 rfl rfl rfl fun h hs => ?_; simp only [List.set_cons_zero, List.set_cons_succ] at hs))
      refine k7 h (burn1 ⟨t, at_, rest, regions, pushed, left, true, fault, over⟩ m) m ?_
      unfold burn1
      simp only [if_true]
      exact hs
    | false =>
      (simp only [mIf_false])
      refine k7 h (burn1 ⟨t, at_, rest, regions, pushed, left, false, fault, over⟩ m) m ?_
      unfold burn1
      simp only [Bool.false_eq_true, if_false]
      exact hs
/-- the operation that begins -/
def opJ (ops : List COp) (j : Jb) : COp := if j.over || decide (j.rest > 0) then ⟨0, 0, 0⟩ else ops.getD j.at_.toNat ⟨0, 0, 0⟩
def opOk (j : Jb) : Bool := !(j.over || decide (j.rest > 0))
theorem Op_s {ops : List COp} (hs : Sep h0 h (aBlk b j.enc :: R)) (hp : RdE h0.size h0 COp.enc 3 j.t.program ops) (hat : j.over = false → 0 ≤ j.at_ ∧ j.at_ < ops.length) :
    N_job_Job_Op (some ⟨b, 0, none⟩) h (fun v h' => v = .tuple #[.agg #[.int .i64 (opJ ops j).kind, .int .i64 (opJ ops j).a, .int .i64 (opJ ops j).b], .bool (opOk j)] ∧ Sep h0 h' (aBlk b j.enc :: R)) := by
  have hpn := hp.n
  apply S_job_Job_Op
  unfold B_job_Job_Op
  ((refine Sep.new hs fun nb h hs => ?_; try simp only [List.toList_toArray] at hs); simp only [mNil_some, add_mk, Nat.zero_add, mBind_ap])
  refine (Over_s hs.swap).mono ?_
  rintro v h' ⟨rfl, rfl⟩
  unfold opJ opOk
  cases ho : j.over with
  | true =>
    (simp only [Bool.true_or, Bool.not_true, unB_bool, mIf_true, mBind_ap]; rw [mRet_ap]; simp only [mIf_true]; (refine Sep.st hs 0 rfl rfl rfl fun h hs => ?_; simp only [List.set_cons_zero, List.set_cons_succ] at hs); (refine Sep.st hs 0 rfl rfl rfl fun h hs => ?_; simp only [List.set_cons_zero, List.set_cons_succ] at hs); (refine Sep.st hs 0 rfl rfl rfl fun h hs => ?_; simp only [List.set_cons_zero, List.set_cons_succ] at hs); refine Sep.ldI hs 0 rfl rfl ?_; refine Sep.ldI hs 0 rfl rfl ?_; refine Sep.ldI hs 0 rfl rfl ?_)
    exact ⟨rfl, hs.drop⟩
  | false =>
    (simp only [Bool.false_or, unB_bool, mIf_false, mBind_ap]; refine Sep.ldI hs 1 rfl rfl ?_; rw [mRet_ap])
    refine mIf_dec (fun hc => ?_) (fun hc => ?_)
    · rw [decide_eq_true hc]
      ((refine Sep.st hs 0 rfl rfl rfl fun h hs => ?_; simp only [List.set_cons_zero, List.set_cons_succ] at hs); (refine Sep.st hs 0 rfl rfl rfl fun h hs => ?_; simp only [List.set_cons_zero, List.set_cons_succ] at hs); (refine Sep.st hs 0 rfl rfl rfl fun h hs => ?_; simp only [List.set_cons_zero, List.set_cons_succ] at hs); refine Sep.ldI hs 0 rfl rfl ?_; refine Sep.ldI hs 0 rfl rfl ?_; refine Sep.ldI hs 0 rfl rfl ?_)
      exact ⟨rfl, hs.drop⟩
    · rw [decide_eq_false hc]
      obtain ⟨k, hk⟩ : ∃ k : Nat, j.at_ = k := ⟨j.at_.toNat, by have := hat ho; omega⟩
      have hkl : k < ops.length := by have := hat ho; omega
      have e : ops.getD j.at_.toNat ⟨0, 0, 0⟩ = ops[k] := by
        rw [hk, Int.toNat_natCast, List.getD_eq_getElem?_getD, List.getElem?_eq_getElem hkl]; rfl
      rw [e]
      (refine Sep.ldL hs 1 rfl rfl ?_; refine Sep.ldI hs 1 rfl rfl ?_; simp only [Bool.not_false])
      rw [hk]
      (refine Sep.argEn hs hp (by first | omega | (simp only [List.length_set, List.length_map, List.length_replicate, List.length_append, List.length_cons, List.length_nil, List.length_reverse, List.length_range]; omega) | (simp; omega)) fun aa haa => ?_; refine Arg.ldI0 haa rfl ?_; refine Arg.ldI haa rfl ?_; refine Arg.ldI haa rfl ?_; (refine Sep.st hs 0 rfl rfl rfl fun h hs => ?_; simp only [List.set_cons_zero, List.set_cons_succ] at hs); (refine Sep.st hs 0 rfl rfl rfl fun h hs => ?_; simp only [List.set_cons_zero, List.set_cons_succ] at hs); (refine Sep.st hs 0 rfl rfl rfl fun h hs => ?_; simp only [List.set_cons_zero, List.set_cons_succ] at hs); refine Sep.ldI hs 0 rfl rfl ?_; refine Sep.ldI hs 0 rfl rfl ?_; refine Sep.ldI hs 0 rfl rfl ?_)
      exact ⟨rfl, hs.drop⟩
def begin1 (j : Jb) (cost : Int) : Jb := { j with rest := if (1 : Int) > cost then 1 else cost }
def pushJ (j : Jb) (n : Int) : Int × Jb := if IntKind.i64.wrap (j.pushed + n) > j.t.frame then (11, { j with fault := true, rest := 1 }) else (0, { j with pushed := IntKind.i64.wrap (j.pushed + n) })
theorem push_s (hs : Sep h0 h (aBlk b j.enc :: R)) (n : Int) : N_job_Job_push (some ⟨b, 0, none⟩) n h (fun v h' => v = .int .i64 (pushJ j n).1 ∧ Sep h0 h' (aBlk b (pushJ j n).2.enc :: R)) := by
  apply S_job_Job_push
  unfold B_job_Job_push pushJ
  (simp only [mNil_some, add_mk, Nat.zero_add]; refine Sep.ldI hs 0 rfl rfl ?_; refine Sep.ldI hs 0 rfl rfl ?_)
  refine mIf_dec (fun hc => ?_) (fun hc => ?_)
  · rw [if_pos hc]
    ((refine Sep.st hs 0 rfl rfl rfl fun h hs => ?_; simp only [List.set_cons_zero, List.set_cons_succ] at hs); (refine Sep.st hs 0 rfl rfl rfl fun h hs => ?_; simp only [List.set_cons_zero, List.set_cons_succ] at hs))
    exact ⟨rfl, hs⟩
  · rw [if_neg hc]
    (refine Sep.ldI hs 0 rfl rfl ?_; (refine Sep.st hs 0 rfl rfl rfl fun h hs => ?_; simp only [List.set_cons_zero, List.set_cons_succ] at hs))
    exact ⟨rfl, hs⟩
def doJ (j : Jb) (o : COp) : Int × Jb := if o.kind == 3 then (0, { j with regions := IntKind.i64.wrap (j.regions + 1) }) else
  if o.kind == 4 then (0, { j with regions := if (0 : Int) > IntKind.i64.wrap (j.regions - 1) then 0 else IntKind.i64.wrap (j.regions - 1) }) else
  if o.kind == 7 then pushJ j o.a else
  if o.kind == 8 then (0, { j with pushed := if (0 : Int) > IntKind.i64.wrap (j.pushed - o.a) then 0 else IntKind.i64.wrap (j.pushed - o.a) }) else (0, j)
def beginJ (ops : List COp) (j : Jb) (cost : Int) : Int × Jb := if opOk j then doJ (begin1 j cost) (opJ ops j) else (1, j)
theorem Begin_s {ops : List COp} (hs : Sep h0 h (aBlk b j.enc :: R)) (hp : RdE h0.size h0 COp.enc 3 j.t.program ops) (hat : j.over = false → 0 ≤ j.at_ ∧ j.at_ < ops.length) (cost : Int) :
    N_job_Job_Begin (some ⟨b, 0, none⟩) cost h (fun v h' => v = .int .i64 (beginJ ops j cost).1 ∧ Sep h0 h' (aBlk b (beginJ ops j cost).2.enc :: R)) := by
  apply S_job_Job_Begin
  unfold B_job_Job_Begin
  rw [mBind_ap]
  refine (Op_s hs hp hat).mono ?_
  rintro v h ⟨rfl, hs⟩
  unfold beginJ
  generalize opJ ops j = o
  (simp only [mNil_some, add_mk, Nat.zero_add, unT_tuple, unC_cons, unE_nil, unB_bool, unA_agg, unI_int]; (refine Sep.new hs fun nb h hs => ?_; try simp only [List.toList_toArray] at hs); (refine Sep.st hs 0 rfl rfl rfl fun h hs => ?_; simp only [List.set_cons_zero, List.set_cons_succ] at hs); (refine Sep.st hs 0 rfl rfl rfl fun h hs => ?_; simp only [List.set_cons_zero, List.set_cons_succ] at hs); (refine Sep.st hs 0 rfl rfl rfl fun h hs => ?_; simp only [List.set_cons_zero, List.set_cons_succ] at hs); simp only [add_mk, Nat.zero_add])
  have hs := hs.swap
  cases hok : opOk j with
  | false =>
    (simp only [Bool.not_false, mIf_true])
    exact ⟨rfl, hs.swap.drop⟩
  | true =>
    simp only [if_true]
    unfold doJ
    (simp only [Bool.not_true, mIf_false]; (refine Sep.st hs 0 rfl rfl rfl fun h hs => ?_; simp only [List.set_cons_zero, List.set_cons_succ] at hs); refine Sep.ldI hs 1 rfl rfl ?_)
    refine mIf_intro (fun hc => ?_) (fun hc => ?_)
    · rw [hc]
      simp only [if_true]
      (refine Sep.ldI hs 0 rfl rfl ?_; (refine Sep.st hs 0 rfl rfl rfl fun h hs => ?_; simp only [List.set_cons_zero, List.set_cons_succ] at hs))
      exact ⟨rfl, hs.swap.drop⟩
    rw [hc]
    simp only [Bool.false_eq_true, if_false]
    refine mIf_intro (fun hc => ?_) (fun hc => ?_)
    · rw [hc]
      simp only [if_true]
      (refine Sep.ldI hs 0 rfl rfl ?_; (refine Sep.st hs 0 rfl rfl rfl fun h hs => ?_; simp only [List.set_cons_zero, List.set_cons_succ] at hs))
      exact ⟨rfl, hs.swap.drop⟩
    rw [hc]
    simp only [Bool.false_eq_true, if_false]
    refine mIf_intro (fun hc => ?_) (fun hc => ?_)
    · rw [hc]
      simp only [if_true]
      (refine Sep.ldI hs 1 rfl rfl ?_; simp only [mBind_ap])
      refine (push_s (j := begin1 j cost) hs o.a).mono ?_
      rintro v h ⟨rfl, hs⟩
      exact ⟨rfl, hs.swap.drop⟩
    rw [hc]
    simp only [Bool.false_eq_true, if_false]
    refine mIf_intro (fun hc => ?_) (fun hc => ?_)
    · rw [hc]
      simp only [if_true]
      (refine Sep.ldI hs 0 rfl rfl ?_; refine Sep.ldI hs 1 rfl rfl ?_; (refine Sep.st hs 0 rfl rfl rfl fun h hs => ?_; simp only [List.set_cons_zero, List.set_cons_succ] at hs))
      exact ⟨rfl, hs.swap.drop⟩
    rw [hc]
    exact ⟨rfl, hs.swap.drop⟩
def few (ops : List COp) (n : Int) : Bool := ops.all (fun o => !(decide (o.a < -1073741824) || decide (o.a > 1073741824))) && (decide ((ops.length : Int) ≤ 80) && decide (n ≤ 150))
theorem few_s {ops : List COp} (hs : Sep h0 h R) (t : CTask) (hp : RdE h0.size h0 COp.enc 3 t.program ops) (l : Sl) (hlen : (ops.length : Int) ≤ 9223372036854775807) : N_signalboxlaw17_few t.priority t.threshold t.period t.deadline t.frame t.float t.program l h (fun v h' => v = .bool (few ops l.n) ∧ Sep h0 h' R) := by
  have hpn := hp.n
  apply S_signalboxlaw17_few
  unfold B_signalboxlaw17_few
  ((refine Sep.new hs fun nb h hs => ?_; try simp only [List.toList_toArray] at hs); refine Sep.ldL hs 0 rfl rfl ?_)
  have loop : ∀ (d k : Nat) (h : Hp), k + d = ops.length → (ops.take k).all (fun o => !(decide (o.a < -1073741824) || decide (o.a > 1073741824))) = true → Sep h0 h (aBlk nb t.enc :: R) →
      K_signalboxlaw17_few_2 l ⟨nb, 0, none⟩ t.program (t.program.n : Int) (k : Int) h (fun v h' => v = .bool (few ops l.n) ∧ Sep h0 h' R) := by
    intro d
    induction d with
    | zero =>
      intro k h hk ha hs
      rw [List.take_of_length_le (by omega)] at ha
      apply S_signalboxlaw17_few_2
      unfold B_signalboxlaw17_few_2
      (simp only [add_mk, Nat.zero_add]; rw [decide_eq_false (by omega), mIf_false]; refine Sep.ldL hs 0 rfl rfl ?_)
      refine ⟨?_, hs.drop⟩
      unfold few
      rw [ha, hpn]
      simp
    | succ d ih =>
      intro k h hk ha hs
      have hkl : k < ops.length := by omega
      have htk : ops.take (k + 1) = ops.take k ++ [ops[k]] := List.take_succ_eq_append_getElem hkl
      have hmem : ops[k] ∈ ops := List.getElem_mem hkl
      have bad : (!(decide (ops[k].a < -1073741824) || decide (ops[k].a > 1073741824))) = false → few ops l.n = false := by
        intro hb
        unfold few
        have : ops.all (fun o => !(decide (o.a < -1073741824) || decide (o.a > 1073741824))) = false := by
          rw [List.all_eq_false]
          exact ⟨_, hmem, by rw [hb]; simp⟩
        rw [this]; rfl
      have next : ∀ h, (!(decide (ops[k].a < -1073741824) || decide (ops[k].a > 1073741824))) = true → Sep h0 h (aBlk nb t.enc :: R) → K_signalboxlaw17_few_2 l ⟨nb, 0, none⟩ t.program (t.program.n : Int) (IntKind.i64.wrap ((k : Int) + 1)) h (fun v h' => v = .bool (few ops l.n) ∧ Sep h0 h' R) := by
        intro h hb hs
        have : (k : Int) + 1 ≤ 9223372036854775807 := by omega
        rw [wrap64 _ (by omega), show (k : Int) + 1 = ((k + 1 : Nat) : Int) by omega]
        refine ih (k + 1) h (by omega) ?_ hs
        rw [htk, List.all_append, ha]
        simpa using hb
      apply S_signalboxlaw17_few_2
      unfold B_signalboxlaw17_few_2
      (simp only [add_mk, Nat.zero_add]; rw [decide_eq_true (by omega), mIf_true]; refine Sep.argEn hs hp (by first | omega | (simp only [List.length_set, List.length_map, List.length_replicate, List.length_append, List.length_cons, List.length_nil, List.length_reverse, List.length_range]; omega) | (simp; omega)) fun aa haa => ?_; refine Arg.ldI0 haa rfl ?_; refine Arg.ldI haa rfl ?_; refine Arg.ldI haa rfl ?_; (refine Sep.new hs fun nb_1 h hs => ?_; try simp only [List.toList_toArray] at hs); (refine Sep.st hs 0 rfl rfl rfl fun h hs => ?_; simp only [List.set_cons_zero, List.set_cons_succ] at hs); (refine Sep.st hs 0 rfl rfl rfl fun h hs => ?_; simp only [List.set_cons_zero, List.set_cons_succ] at hs); (refine Sep.st hs 0 rfl rfl rfl fun h hs => ?_; simp only [List.set_cons_zero, List.set_cons_succ] at hs); refine Sep.ldI hs 0 rfl rfl ?_; simp only [add_mk, Nat.zero_add, mBind_ap])
      generalize ops[k] = o at *
      refine mIf_dec (fun hc => ?_) (fun hc => ?_)
      · (rw [mRet_ap]; simp only [mIf_true])
        exact ⟨by rw [bad (by simp; omega)], hs.drop.drop⟩
      · (refine Sep.ldI hs 0 rfl rfl ?_; rw [mRet_ap])
        refine mIf_dec (fun hc2 => ?_) (fun hc2 => ?_)
        · exact ⟨by rw [bad (by simp; omega)], hs.drop.drop⟩
        · exact next h (by simp; omega) hs.drop
  exact loop ops.length 0 h (by omega) (by simp) hs
end
end Go.Proofs.Ytjifoicncenfpaa
