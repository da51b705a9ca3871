/- What is ready: First, Take, Release, New. Conditions: none. -/
import Derived.Test.YtimpaammdmeocaaRdyQ
import Derived.Test.YtimpaammdmeocaaSbW
namespace Go.Proofs.Ytimpaammdmeocaa
open Go Go.Sb
set_option linter.unusedSimpArgs false
set_option linter.unusedVariables false
section
variable {h0 h : Hp} {R : List As} {b : Nat} {ys : List PQ} {C : PCfg} {sm sc se st sl : Sl} {ts : List (PTask × Sl)}
/-- what First tells -/
def FirstV (ys : List PQ) (v : Value) : Prop :=
  ((∀ y ∈ ys, y.q = []) ∧ v = .tuple #[jobV ⟨0, 0, 0⟩, .int .i64 0, .bool false]) ∨
  ∃ i y x q, IsTop ys i y ∧ y.q = x :: q ∧ x.t = (i : Int) ∧ v = .tuple #[jobV x, .int .i64 y.pr, .bool true]
theorem First_s (hs : Sep h0 h (aReady b ys :: R)) : N_ready_Ready_First (some ⟨b, 0, none⟩) h (fun v h' => FirstV ys v ∧ Sep h0 h' (aReady b ys :: R)) := by
  obtain ⟨s, m, f, n, bb, w, hr, hs1⟩ := aReady_iff.1 hs
  apply S_ready_Ready_First
  unfold B_ready_Ready_First
  refine Sep.new hs fun x2 h hs => ?_
  simp only [List.toList_toArray] at hs
  refine mIf_neg rfl ?_
  have hs := hs.swap
  obtain ⟨s, m, f, n, bb, w, hr, hs1⟩ := aReady_iff.1 hs
  simp only [mNil_some, add_mk, Nat.zero_add]
  refine Sep.ldP hs1 0 rfl rfl ?_
  rw [mBind_ap]
  have hb2 : Sep h0 h (aBlk bb (bnd w) :: aBlk b [.slice s.p s.n s.c, .map (some m), .pointer (some ⟨bb, 0, none⟩)] :: aMap m .i64 f n :: aHR encH 3 fH s ys :: aBlk x2 [.int .i64 0, .int .i64 0, .int .i64 0] :: R) := hs1.reT 3 [2, 0, 1] rfl (by simp)
  refine (bTop_s hb2 hr.wlt).mono ?_
  rintro v h' ⟨rfl, rfl⟩
  simp only [unI_int]
  by_cases hz : w = 0
  · subst hz
    refine mIf_pos (by rfl) ?_
    have hs : Sep h0 h' (aBlk x2 [.int .i64 0, .int .i64 0, .int .i64 0] :: aReady b ys :: R) := hs.swap
    ((refine Sep.st hs 0 rfl rfl rfl fun h hs => ?_; simp only [List.set_cons_zero, List.set_cons_succ] at hs); (refine Sep.st hs 0 rfl rfl rfl fun h hs => ?_; simp only [List.set_cons_zero, List.set_cons_succ] at hs); (refine Sep.st hs 0 rfl rfl rfl fun h hs => ?_; simp only [List.set_cons_zero, List.set_cons_succ] at hs); refine Sep.ldI hs 0 rfl rfl ?_; refine Sep.ldI hs 0 rfl rfl ?_; refine Sep.ldI hs 0 rfl rfl ?_)
    refine ⟨.inl ⟨fun y hy => ?_, rfl⟩, hs.drop⟩
    obtain ⟨i, hi⟩ := List.getElem?_of_mem hy
    have h1 := hr.pr i y hi
    by_cases hq : y.q = []
    · exact hq
    · have := (hr.bit y.pr.toNat).2 ⟨i, y, hi, by omega, hq⟩
      simp at this
  · have ht : topN w = (w.log2 : Int) := by unfold topN; rw [if_neg hz]
    rw [ht]
    refine mIf_neg (by first | omega | simp | (simp; omega)) ?_
    obtain ⟨i, y, hi, hp, hq⟩ := (hr.bit _).1 (top_bit hz)
    obtain ⟨hil, hie⟩ := List.getElem?_eq_some_iff.1 hi
    have hpi := hr.pr i y hi
    refine Sep.ldM hs1 0 rfl rfl ?_
    simp only [mNilM_some]
    refine Sep.mapGet hs1 1 rfl ?_
    rw [← hp, hpi.2.2]
    simp only [Option.getD_some, unI_int]
    obtain ⟨s, m, f', n, bb, w', rb, ss, hr', hl, hx, hs2⟩ := rOpen hs hi
    rw [mBind_ap]
    obtain ⟨a, ha, hm⟩ := at_ok (i := i) hs2 2 1 rfl rfl (by omega)
    refine hm.mono ?_
    rintro v h' ⟨rfl, rfl⟩
    simp only [unP_pointer, mNil_some]
    refine hs2.rldP 1 rfl (fun _ => rfl) ha hx rfl ?_
    rw [mBind_ap]
    refine (job_First hs2).mono ?_
    rintro v h ⟨rfl, hs2⟩
    cases hyq : y.q with
    | nil => exact absurd hyq hq
    | cons x q =>
      simp only [jobF, unT_tuple, unC_cons, unA_agg, unE_nil, unI_int, unB_bool]
      have e : ys.set i y = ys := by rw [← hie]; exact List.set_getElem_self hil
      have e2 : ss.set i (y.pr, y.nx, rb) = ss := by
        obtain ⟨q1, q2⟩ := List.getElem?_eq_some_iff.1 hx
        rw [← q2]; exact List.set_getElem_self q1
      have hs3 := rClose (i := i) (y := y) (ss := ss) (rb := rb) hl hil (by rw [e]; exact hr') (by rw [e2]; exact hs2)
      rw [e] at hs3
      have hs := hs3.swap
      ((refine Sep.new hs fun nb h hs => ?_; try simp only [List.toList_toArray] at hs); (refine Sep.st hs 0 rfl rfl rfl fun h hs => ?_; simp only [List.set_cons_zero, List.set_cons_succ] at hs); (refine Sep.st hs 0 rfl rfl rfl fun h hs => ?_; simp only [List.set_cons_zero, List.set_cons_succ] at hs); (refine Sep.st hs 0 rfl rfl rfl fun h hs => ?_; simp only [List.set_cons_zero, List.set_cons_succ] at hs); refine Sep.ldI hs 0 rfl rfl ?_; refine Sep.ldI hs 0 rfl rfl ?_; refine Sep.ldI hs 0 rfl rfl ?_; (refine Sep.st hs 1 rfl rfl rfl fun h hs => ?_; simp only [List.set_cons_zero, List.set_cons_succ] at hs); (refine Sep.st hs 1 rfl rfl rfl fun h hs => ?_; simp only [List.set_cons_zero, List.set_cons_succ] at hs); (refine Sep.st hs 1 rfl rfl rfl fun h hs => ?_; simp only [List.set_cons_zero, List.set_cons_succ] at hs); refine Sep.ldI hs 1 rfl rfl ?_; refine Sep.ldI hs 1 rfl rfl ?_; refine Sep.ldI hs 1 rfl rfl ?_)
      refine ⟨.inr ⟨i, y, x, q, ⟨hi, hq, fun j z hj hz => ?_⟩, hyq, hr.jobs i y hi x (by rw [hyq]; simp), rfl⟩, hs.drop.drop⟩
      have h1 := hr.pr j z hj
      have h2 := (bit_top ((hr.bit z.pr.toNat).2 ⟨j, z, hj, by omega, hz⟩)).2
      omega
theorem First_nil (hs : Sep h0 h R) : N_ready_Ready_First none h (fun v h' => v = .tuple #[jobV ⟨0, 0, 0⟩, .int .i64 0, .bool false] ∧ Sep h0 h' R) := by
  apply S_ready_Ready_First
  unfold B_ready_Ready_First
  ((refine Sep.new hs fun nb h hs => ?_; try simp only [List.toList_toArray] at hs); simp only [Option.isNone_none, add_mk, Nat.zero_add, mIf_true]; (refine Sep.st hs 0 rfl rfl rfl fun h hs => ?_; simp only [List.set_cons_zero, List.set_cons_succ] at hs); (refine Sep.st hs 0 rfl rfl rfl fun h hs => ?_; simp only [List.set_cons_zero, List.set_cons_succ] at hs); (refine Sep.st hs 0 rfl rfl rfl fun h hs => ?_; simp only [List.set_cons_zero, List.set_cons_succ] at hs); refine Sep.ldI hs 0 rfl rfl ?_; refine Sep.ldI hs 0 rfl rfl ?_; refine Sep.ldI hs 0 rfl rfl ?_)
  exact ⟨rfl, hs.drop⟩
/-- what Take tells, and leaves -/
def TakeV (ys : List PQ) (v : Value) (zs : List PQ) : Prop :=
  ((∀ y ∈ ys, y.q = []) ∧ v = .tuple #[jobV ⟨0, 0, 0⟩, .bool false] ∧ zs = ys) ∨
  ∃ i y x q, IsTop ys i y ∧ y.q = x :: q ∧ v = .tuple #[jobV x, .bool true] ∧ zs = ys.set i ⟨y.pr, y.nx, q⟩
theorem Take_s (hs : Sep h0 h (aReady b ys :: R)) : N_ready_Ready_Take (some ⟨b, 0, none⟩) h (fun v h' => ∃ zs, TakeV ys v zs ∧ Sep h0 h' (aReady b zs :: R)) := by
  apply S_ready_Ready_Take
  unfold B_ready_Ready_Take
  refine Sep.new hs fun x2 h hs => ?_
  simp only [List.toList_toArray] at hs
  rw [mBind_ap]
  refine (First_s hs.swap).mono ?_
  rintro v h ⟨hv, hs⟩
  have hs := hs.swap
  rcases hv with ⟨h1, rfl⟩ | ⟨i, y, x, q, ht, hyq, hxt, rfl⟩
  · (simp only [add_mk, Nat.zero_add, mNil_some, unT_tuple, unC_cons, unE_nil, unB_bool, Bool.not_false, mIf_true, unI_int, unA_agg]; (refine Sep.new hs fun nb h hs => ?_; try simp only [List.toList_toArray] at hs); (refine Sep.st hs 0 rfl rfl rfl fun h hs => ?_; simp only [List.set_cons_zero, List.set_cons_succ] at hs); (refine Sep.st hs 0 rfl rfl rfl fun h hs => ?_; simp only [List.set_cons_zero, List.set_cons_succ] at hs); (refine Sep.st hs 0 rfl rfl rfl fun h hs => ?_; simp only [List.set_cons_zero, List.set_cons_succ] at hs); (refine Sep.st hs 1 rfl rfl rfl fun h hs => ?_; simp only [List.set_cons_zero, List.set_cons_succ] at hs); (refine Sep.st hs 1 rfl rfl rfl fun h hs => ?_; simp only [List.set_cons_zero, List.set_cons_succ] at hs); (refine Sep.st hs 1 rfl rfl rfl fun h hs => ?_; simp only [List.set_cons_zero, List.set_cons_succ] at hs); refine Sep.ldI hs 1 rfl rfl ?_; refine Sep.ldI hs 1 rfl rfl ?_; refine Sep.ldI hs 1 rfl rfl ?_)
    exact ⟨ys, .inl ⟨h1, rfl, rfl⟩, hs.drop.drop⟩
  · (simp only [add_mk, Nat.zero_add, mNil_some, unT_tuple, unC_cons, unE_nil, unB_bool, Bool.not_true, mIf_false, unI_int, unA_agg]; (refine Sep.new hs fun nb h hs => ?_; try simp only [List.toList_toArray] at hs); (refine Sep.st hs 0 rfl rfl rfl fun h hs => ?_; simp only [List.set_cons_zero, List.set_cons_succ] at hs); (refine Sep.st hs 0 rfl rfl rfl fun h hs => ?_; simp only [List.set_cons_zero, List.set_cons_succ] at hs); (refine Sep.st hs 0 rfl rfl rfl fun h hs => ?_; simp only [List.set_cons_zero, List.set_cons_succ] at hs); refine Sep.ldI hs 0 rfl rfl ?_; simp only [add_mk, Nat.zero_add, mBind_ap])
    have hs : Sep h0 h (aReady b ys :: aBlk nb [.int .i64 x.t, .int .i64 x.n, .int .i64 x.a] :: aBlk x2 [.int .i64 0, .int .i64 0, .int .i64 0] :: R) := hs.reT 3 [2, 0, 1] rfl (by simp)
    obtain ⟨s, m, f, n, bb, w, rb, ss, hr, hl, hx, hs2⟩ := rOpen hs ht.at_
    have hil := (List.getElem?_eq_some_iff.1 ht.at_).1
    have hpi := hr.pr i y ht.at_
    rw [hxt]
    obtain ⟨a, ha, hm⟩ := at_ok (i := i) hs2 2 1 rfl rfl (by omega)
    refine hm.mono ?_
    rintro v h' ⟨rfl, rfl⟩
    simp only [unP_pointer, mNil_some]
    refine hs2.rldP 1 rfl (fun _ => rfl) ha hx rfl ?_
    rw [mBind_ap]
    refine (job_Take hs2).mono ?_
    rintro v h ⟨rfl, hs2⟩
    rw [hyq] at hs2 ⊢
    simp only [jobTk, unT_tuple, unC_cons, unA_agg, unE_nil, unI_int, List.tail_cons] at hs2 ⊢
    refine hs2.rldP 1 rfl (fun _ => rfl) ha hx rfl ?_
    rw [mBind_ap]
    refine (job_Len hs2).mono ?_
    rintro v h' ⟨rfl, rfl⟩
    simp only [unI_int]
    have hp : y.pr = (y.pr.toNat : Int) := by omega
    have hri := hr.take ht.at_ hyq hp
    have e2 : ss.set i (y.pr, y.nx, rb) = ss := by
      obtain ⟨q1, q2⟩ := List.getElem?_eq_some_iff.1 hx
      rw [← q2]; exact List.set_getElem_self q1
    refine mIf_intro (fun hc => ?_) (fun hc => ?_)
    · have hc : q.length = 0 := by simpa using hc
      rw [if_pos hc] at hri
      refine Sep.ldP hs2 2 rfl rfl ?_
      rw [mBind_ap]
      have hb2 := hs2.reT 6 [4, 0, 1, 2, 3, 5] rfl (by simp)
      rw [hp]
      refine (bDrop_s hb2 hr.wlt (by omega) ((hr.bit _).2 ⟨i, y, ht.at_, hp, ht.ne⟩)).mono ?_
      rintro v h ⟨rfl, hb2⟩
      simp only [unB_bool]
      have hs3 := rClose (i := i) (y := ⟨y.pr, y.nx, q⟩) (ss := ss) (rb := rb) hl hil hri (by rw [e2]; exact hb2.reT 6 [1, 2, 3, 4, 0, 5] rfl (by simp))
      have hs := hs3.reT 3 [1, 2, 0] rfl (by simp)
      have hs : Sep h0 h (aBlk nb [.int .i64 x.t, .int .i64 x.n, .int .i64 x.a] :: aBlk x2 [.int .i64 0, .int .i64 0, .int .i64 0] :: aReady b (ys.set i ⟨y.pr, y.nx, q⟩) :: R) := hs
      (refine Sep.ldI hs 0 rfl rfl ?_; refine Sep.ldI hs 0 rfl rfl ?_; refine Sep.ldI hs 0 rfl rfl ?_; (refine Sep.st hs 1 rfl rfl rfl fun h hs => ?_; simp only [List.set_cons_zero, List.set_cons_succ] at hs); (refine Sep.st hs 1 rfl rfl rfl fun h hs => ?_; simp only [List.set_cons_zero, List.set_cons_succ] at hs); (refine Sep.st hs 1 rfl rfl rfl fun h hs => ?_; simp only [List.set_cons_zero, List.set_cons_succ] at hs); refine Sep.ldI hs 1 rfl rfl ?_; refine Sep.ldI hs 1 rfl rfl ?_; refine Sep.ldI hs 1 rfl rfl ?_)
      exact ⟨_, .inr ⟨i, y, x, q, ht, hyq, rfl, rfl⟩, hs.drop.drop⟩
    · have hc : ¬ q.length = 0 := by simpa using hc
      rw [if_neg hc] at hri
      have hs3 := rClose (i := i) (y := ⟨y.pr, y.nx, q⟩) (ss := ss) (rb := rb) hl hil hri (by rw [e2]; exact hs2)
      have hs := hs3.reT 3 [1, 2, 0] rfl (by simp)
      have hs : Sep h0 h' (aBlk nb [.int .i64 x.t, .int .i64 x.n, .int .i64 x.a] :: aBlk x2 [.int .i64 0, .int .i64 0, .int .i64 0] :: aReady b (ys.set i ⟨y.pr, y.nx, q⟩) :: R) := hs
      (refine Sep.ldI hs 0 rfl rfl ?_; refine Sep.ldI hs 0 rfl rfl ?_; refine Sep.ldI hs 0 rfl rfl ?_; (refine Sep.st hs 1 rfl rfl rfl fun h hs => ?_; simp only [List.set_cons_zero, List.set_cons_succ] at hs); (refine Sep.st hs 1 rfl rfl rfl fun h hs => ?_; simp only [List.set_cons_zero, List.set_cons_succ] at hs); (refine Sep.st hs 1 rfl rfl rfl fun h hs => ?_; simp only [List.set_cons_zero, List.set_cons_succ] at hs); refine Sep.ldI hs 1 rfl rfl ?_; refine Sep.ldI hs 1 rfl rfl ?_; refine Sep.ldI hs 1 rfl rfl ?_)
      exact ⟨_, .inr ⟨i, y, x, q, ht, hyq, rfl, rfl⟩, hs.drop.drop⟩
theorem Take_nil (hs : Sep h0 h R) : N_ready_Ready_Take none h (fun v h' => v = .tuple #[jobV ⟨0, 0, 0⟩, .bool false] ∧ Sep h0 h' R) := by
  apply S_ready_Ready_Take
  unfold B_ready_Ready_Take
  ((refine Sep.new hs fun nb h hs => ?_; try simp only [List.toList_toArray] at hs); simp only [add_mk, Nat.zero_add, mBind_ap])
  refine (First_nil hs).mono ?_
  rintro v h ⟨rfl, hs⟩
  (simp only [unT_tuple, unC_cons, unE_nil, unB_bool, Bool.not_false, mIf_true, unI_int, unA_agg]; (refine Sep.new hs fun nb_1 h hs => ?_; try simp only [List.toList_toArray] at hs); (refine Sep.st hs 0 rfl rfl rfl fun h hs => ?_; simp only [List.set_cons_zero, List.set_cons_succ] at hs); (refine Sep.st hs 0 rfl rfl rfl fun h hs => ?_; simp only [List.set_cons_zero, List.set_cons_succ] at hs); (refine Sep.st hs 0 rfl rfl rfl fun h hs => ?_; simp only [List.set_cons_zero, List.set_cons_succ] at hs); (refine Sep.st hs 1 rfl rfl rfl fun h hs => ?_; simp only [List.set_cons_zero, List.set_cons_succ] at hs); (refine Sep.st hs 1 rfl rfl rfl fun h hs => ?_; simp only [List.set_cons_zero, List.set_cons_succ] at hs); (refine Sep.st hs 1 rfl rfl rfl fun h hs => ?_; simp only [List.set_cons_zero, List.set_cons_succ] at hs); refine Sep.ldI hs 1 rfl rfl ?_; refine Sep.ldI hs 1 rfl rfl ?_; refine Sep.ldI hs 1 rfl rfl ?_)
  exact ⟨rfl, hs.drop.drop⟩
theorem Release_nil (hs : Sep h0 h R) (i t : Int) : N_ready_Ready_Release none i t h (fun v h' => v = .tuple #[jobV ⟨0, 0, 0⟩, .int .i64 1] ∧ Sep h0 h' R) := by
  apply S_ready_Ready_Release
  unfold B_ready_Ready_Release
  ((refine Sep.new hs fun nb h hs => ?_; try simp only [List.toList_toArray] at hs); simp only [Option.isNone_none, add_mk, Nat.zero_add, mIf_true, mBind_ap])
  refine (at_nil i).mono ?_
  rintro v h' ⟨rfl, rfl⟩
  (simp only [unP_pointer]; (refine Sep.st hs 0 rfl rfl rfl fun h hs => ?_; simp only [List.set_cons_zero, List.set_cons_succ] at hs); (refine Sep.st hs 0 rfl rfl rfl fun h hs => ?_; simp only [List.set_cons_zero, List.set_cons_succ] at hs); (refine Sep.st hs 0 rfl rfl rfl fun h hs => ?_; simp only [List.set_cons_zero, List.set_cons_succ] at hs); refine Sep.ldI hs 0 rfl rfl ?_; refine Sep.ldI hs 0 rfl rfl ?_; refine Sep.ldI hs 0 rfl rfl ?_)
  exact ⟨rfl, hs.drop⟩
theorem Release_no (hs : Sep h0 h (aReady b ys :: R)) {i : Int} (hi : i < 0 ∨ (ys.length : Int) ≤ i) (t : Int) : N_ready_Ready_Release (some ⟨b, 0, none⟩) i t h (fun v h' => v = .tuple #[jobV ⟨0, 0, 0⟩, .int .i64 6] ∧ Sep h0 h' (aReady b ys :: R)) := by
  apply S_ready_Ready_Release
  unfold B_ready_Ready_Release
  ((refine Sep.new hs fun nb h hs => ?_; try simp only [List.toList_toArray] at hs); simp only [Option.isNone_some, add_mk, Nat.zero_add, mIf_false, mBind_ap])
  refine (at_no hs.swap hi).mono ?_
  rintro v h' ⟨rfl, rfl⟩
  (simp only [unP_pointer, Option.isNone_none, mIf_true]; (refine Sep.st hs 0 rfl rfl rfl fun h hs => ?_; simp only [List.set_cons_zero, List.set_cons_succ] at hs); (refine Sep.st hs 0 rfl rfl rfl fun h hs => ?_; simp only [List.set_cons_zero, List.set_cons_succ] at hs); (refine Sep.st hs 0 rfl rfl rfl fun h hs => ?_; simp only [List.set_cons_zero, List.set_cons_succ] at hs); refine Sep.ldI hs 0 rfl rfl ?_; refine Sep.ldI hs 0 rfl rfl ?_; refine Sep.ldI hs 0 rfl rfl ?_)
  exact ⟨rfl, hs.drop⟩
/-- a release of a task -/
def relY (y : PQ) (i : Nat) (t : Int) : PQ := ⟨y.pr, IntKind.i64.wrap (y.nx + 1), if y.q.length = 4 then y.q else y.q ++ [⟨i, y.nx, t⟩]⟩
theorem Release9 {i rb bb n m w w' x6 x9 : Nat} {s : Sl} {f : Int → Option Value} {ss : List (Int × Int × Nat)} {z : PQ} {j : PJob} {a : Addr} {e : Int} (hl : ss.length = ys.length) (hil : i < ys.length) (hx : ss[i]? = some (z.pr, z.nx, rb)) (ha : At s a i 3)
    (hw : w < 2 ^ 64) (hp : 0 ≤ z.pr ∧ z.pr < 64) (he : w' = if e = 0 then w ||| 2 ^ z.pr.toNat else w) (hr : RInv (ys.set i z) f w')
    (hs : Sep h0 h (aJobs rb z.q :: aRow encH 3 s ss :: aBlk b [.slice s.p s.n s.c, .map (some m), .pointer (some ⟨bb, 0, none⟩)] :: aMap m .i64 f n :: aBlk bb (bnd w) :: aAll ((List.zipWith fH ss ys).eraseIdx i) :: aBlk x9 [.int .i64 j.t, .int .i64 j.n, .int .i64 j.a] :: aBlk x6 [.int .i64 0, .int .i64 0, .int .i64 0] :: R)) :
    K_ready_Ready_Release_9 (some ⟨b, 0, none⟩) ⟨x6, 0, none⟩ (some a) ⟨x9, 0, none⟩ e h (fun v h' => v = .tuple #[jobV j, .int .i64 e] ∧ Sep h0 h' (aReady b (ys.set i z) :: R)) := by
  have e2 : ss.set i (z.pr, z.nx, rb) = ss := by
    obtain ⟨q1, q2⟩ := List.getElem?_eq_some_iff.1 hx
    rw [← q2]; exact List.set_getElem_self q1
  have fin : ∀ h, Sep h0 h (aJobs rb z.q :: aRow encH 3 s ss :: aBlk b [.slice s.p s.n s.c, .map (some m), .pointer (some ⟨bb, 0, none⟩)] :: aMap m .i64 f n :: aBlk bb (bnd w') :: aAll ((List.zipWith fH ss ys).eraseIdx i) :: aBlk x9 [.int .i64 j.t, .int .i64 j.n, .int .i64 j.a] :: aBlk x6 [.int .i64 0, .int .i64 0, .int .i64 0] :: R) → Sep h0 h (aBlk x9 [.int .i64 j.t, .int .i64 j.n, .int .i64 j.a] :: aBlk x6 [.int .i64 0, .int .i64 0, .int .i64 0] :: aReady b (ys.set i z) :: R) := by
    intro h hs
    have hs3 := rClose (i := i) (y := z) (ss := ss) (rb := rb) hl hil hr (by rw [e2]; exact hs)
    exact hs3.reT 3 [1, 2, 0] rfl (by simp)
  apply S_ready_Ready_Release_9
  unfold B_ready_Ready_Release_9
  refine mIf_intro (fun hc => ?_) (fun hc => ?_)
  · have hc : e = 0 := by simpa using hc
    rw [if_pos hc] at he
    have hb2 := hs.reT 6 [4, 0, 1, 2, 3, 5] rfl (by simp)
    have put : ∀ {Q : Value → Hp → Prop} {K : Value → M Value}, (∀ v h, (∃ z, v = .bool z) → Sep h0 h (aBlk x9 [.int .i64 j.t, .int .i64 j.n, .int .i64 j.a] :: aBlk x6 [.int .i64 0, .int .i64 0, .int .i64 0] :: aReady b (ys.set i z) :: R) → K v h Q) → mBind (N_band_Set_Put (some ⟨bb, 0, none⟩) z.pr) K h Q := by
      intro Q K hK
      rw [mBind_ap]
      rw [show z.pr = (z.pr.toNat : Int) by omega]
      refine (bPut_s hb2 hw (by omega)).mono ?_
      rintro v h ⟨hv, hb2⟩
      rw [← he] at hb2
      exact hK v h hv (fin h (hb2.reT 6 [1, 2, 3, 4, 0, 5] rfl (by simp)))
    simp only [mNil_some, add_mk, Nat.zero_add]
    refine mAnd_intro ?_ ?_
    · refine Sep.ldP hs 2 rfl rfl ?_
      refine hs.rldI0 1 rfl (fun _ => rfl) ha hx rfl ?_
      refine put fun v h hv hs => ?_
      obtain ⟨_, rfl⟩ := hv
      (simp only [unB_bool]; refine Sep.ldI hs 0 rfl rfl ?_; refine Sep.ldI hs 0 rfl rfl ?_; refine Sep.ldI hs 0 rfl rfl ?_; (refine Sep.st hs 1 rfl rfl rfl fun h hs => ?_; simp only [List.set_cons_zero, List.set_cons_succ] at hs); (refine Sep.st hs 1 rfl rfl rfl fun h hs => ?_; simp only [List.set_cons_zero, List.set_cons_succ] at hs); (refine Sep.st hs 1 rfl rfl rfl fun h hs => ?_; simp only [List.set_cons_zero, List.set_cons_succ] at hs); refine Sep.ldI hs 1 rfl rfl ?_; refine Sep.ldI hs 1 rfl rfl ?_; refine Sep.ldI hs 1 rfl rfl ?_)
      exact ⟨rfl, hs.drop.drop⟩
    · refine hs.rldI0 1 rfl (fun _ => rfl) ha hx rfl ?_
      refine Sep.ldP hs 2 rfl rfl ?_
      refine put fun v h hv hs => ?_
      obtain ⟨_, rfl⟩ := hv
      (simp only [unB_bool]; refine Sep.ldI hs 0 rfl rfl ?_; refine Sep.ldI hs 0 rfl rfl ?_; refine Sep.ldI hs 0 rfl rfl ?_; (refine Sep.st hs 1 rfl rfl rfl fun h hs => ?_; simp only [List.set_cons_zero, List.set_cons_succ] at hs); (refine Sep.st hs 1 rfl rfl rfl fun h hs => ?_; simp only [List.set_cons_zero, List.set_cons_succ] at hs); (refine Sep.st hs 1 rfl rfl rfl fun h hs => ?_; simp only [List.set_cons_zero, List.set_cons_succ] at hs); refine Sep.ldI hs 1 rfl rfl ?_; refine Sep.ldI hs 1 rfl rfl ?_; refine Sep.ldI hs 1 rfl rfl ?_)
      exact ⟨rfl, hs.drop.drop⟩
  · have hc : ¬ e = 0 := by simpa using hc
    rw [if_neg hc] at he
    have hs := fin h (by rw [he]; exact hs)
    (refine Sep.ldI hs 0 rfl rfl ?_; refine Sep.ldI hs 0 rfl rfl ?_; refine Sep.ldI hs 0 rfl rfl ?_; (refine Sep.st hs 1 rfl rfl rfl fun h hs => ?_; simp only [List.set_cons_zero, List.set_cons_succ] at hs); (refine Sep.st hs 1 rfl rfl rfl fun h hs => ?_; simp only [List.set_cons_zero, List.set_cons_succ] at hs); (refine Sep.st hs 1 rfl rfl rfl fun h hs => ?_; simp only [List.set_cons_zero, List.set_cons_succ] at hs); refine Sep.ldI hs 1 rfl rfl ?_; refine Sep.ldI hs 1 rfl rfl ?_; refine Sep.ldI hs 1 rfl rfl ?_)
    exact ⟨rfl, hs.drop.drop⟩
theorem Release_s (hs : Sep h0 h (aReady b ys :: R)) {i : Nat} {y : PQ} (hi : ys[i]? = some y) (t : Int) : N_ready_Ready_Release (some ⟨b, 0, none⟩) (i : Int) t h (fun v h' => v = .tuple #[jobV ⟨i, y.nx, t⟩, .int .i64 (if y.q.length = 4 then 7 else 0)] ∧ Sep h0 h' (aReady b (ys.set i (relY y i t)) :: R)) := by
  obtain ⟨hil, hie⟩ := List.getElem?_eq_some_iff.1 hi
  apply S_ready_Ready_Release
  unfold B_ready_Ready_Release
  refine Sep.new hs fun x6 h hs => ?_
  simp only [List.toList_toArray] at hs
  rw [mBind_ap]
  obtain ⟨s, m, f, n, bb, w, rb, ss, hr, hl, hx, hs⟩ := rOpen hs.swap hi
  have hpi := hr.pr i y hi
  obtain ⟨a, ha, hm⟩ := at_ok (i := i) hs 2 1 rfl rfl (by omega)
  refine hm.mono ?_
  rintro v h' ⟨rfl, rfl⟩
  simp only [unP_pointer, mNil_some, Option.isNone_some, mIf_false]
  refine hs.rldI 1 rfl (fun _ => rfl) ha hx rfl ?_
  refine Sep.new hs fun x9 h hs => ?_
  simp only [List.toList_toArray] at hs
  refine Sep.st hs 0 rfl rfl rfl fun h hs => ?_
  simp only [List.set_cons_zero] at hs
  refine Sep.st hs 0 rfl rfl rfl fun h hs => ?_
  simp only [List.set_cons_zero, List.set_cons_succ] at hs
  refine Sep.st hs 0 rfl rfl rfl fun h hs => ?_
  simp only [List.set_cons_zero, List.set_cons_succ] at hs
  refine hs.rldI 2 rfl (fun _ => rfl) ha hx rfl ?_
  refine hs.rst 2 (y.pr, IntKind.i64.wrap (y.nx + 1), rb) rfl (fun _ => rfl) ha hx (by omega) rfl rfl fun h hs => ?_
  simp only [List.set_cons_zero, List.set_cons_succ] at hs
  have hx' : (ss.set i (y.pr, IntKind.i64.wrap (y.nx + 1), rb))[i]? = some (y.pr, IntKind.i64.wrap (y.nx + 1), rb) := List.getElem?_set_self (by omega)
  have hl' : (ss.set i (y.pr, IntKind.i64.wrap (y.nx + 1), rb)).length = ys.length := by rw [List.length_set]; exact hl
  have hzip : (List.zipWith fH (ss.set i (y.pr, IntKind.i64.wrap (y.nx + 1), rb)) ys).eraseIdx i = (List.zipWith fH ss ys).eraseIdx i := by
    refine List.ext_getElem? fun k => ?_
    rw [List.getElem?_eraseIdx, List.getElem?_eraseIdx]
    split
    · rw [List.getElem?_zipWith, List.getElem?_zipWith, List.getElem?_set_ne (by omega)]
    · rw [List.getElem?_zipWith, List.getElem?_zipWith, List.getElem?_set_ne (by omega)]
  rw [← hzip] at hs
  generalize ss.set i (y.pr, IntKind.i64.wrap (y.nx + 1), rb) = ss' at hs hx' hl' hzip
  have hs : Sep h0 h (aJobs rb y.q :: aRow encH 3 s ss' :: aBlk b [.slice s.p s.n s.c, .map (some m), .pointer (some ⟨bb, 0, none⟩)] :: aMap m .i64 f n :: aBlk bb (bnd w) :: aAll ((List.zipWith fH ss' ys).eraseIdx i) :: aBlk x9 [.int .i64 (i : Int), .int .i64 y.nx, .int .i64 t] :: aBlk x6 [.int .i64 0, .int .i64 0, .int .i64 0] :: R) := hs.reT 8 [1, 2, 3, 4, 5, 6, 0, 7] rfl (by simp)
  have put : mBind (N_ring_Ring_ready_Job_Put (some ⟨rb, 0, none⟩) (i : Int) y.nx t) (fun r41 => unI .i64 r41 fun (x41 : Int) => K_ready_Ready_Release_9 (some ⟨b, 0, none⟩) ⟨x6, 0, none⟩ (some a) ⟨x9, 0, none⟩ x41) h (fun v h' => v = .tuple #[jobV ⟨i, y.nx, t⟩, .int .i64 (if y.q.length = 4 then 7 else 0)] ∧ Sep h0 h' (aReady b (ys.set i (relY y i t)) :: R)) := by
    rw [mBind_ap]
    refine (job_Put hs ⟨i, y.nx, t⟩).mono ?_
    rintro v h ⟨rfl, hs⟩
    simp only [unI_int]
    refine Release9 (z := relY y i t) (j := ⟨i, y.nx, t⟩) (w' := if y.q.length = 4 then w else w ||| 2 ^ y.pr.toNat) hl' hil hx' ha hr.wlt ⟨hpi.1, hpi.2.1⟩ ?_ ?_ hs
    · show (if y.q.length = 4 then w else w ||| 2 ^ y.pr.toNat) = if (if y.q.length = 4 then (7 : Int) else 0) = 0 then w ||| 2 ^ y.pr.toNat else w
      by_cases e : y.q.length = 4
      · rw [if_pos e, if_pos e, if_neg (by decide)]
      · rw [if_neg e, if_neg e, if_pos rfl]
    · unfold relY
      by_cases e : y.q.length = 4
      · rw [if_pos e, if_pos e]
        exact hr.num hi _
      · rw [if_neg e, if_neg e]
        exact hr.put hi ⟨i, y.nx, t⟩ rfl _ (by omega)
  refine mAnd_intro ?_ ?_
  · refine hs.rldP 1 rfl (fun _ => rfl) ha hx' rfl ?_
    refine Sep.ldI hs 6 rfl rfl ?_
    refine Sep.ldI hs 6 rfl rfl ?_
    refine Sep.ldI hs 6 rfl rfl ?_
    exact put
  · refine Sep.ldI hs 6 rfl rfl ?_
    refine Sep.ldI hs 6 rfl rfl ?_
    refine Sep.ldI hs 6 rfl rfl ?_
    refine hs.rldP 1 rfl (fun _ => rfl) ha hx' rfl ?_
    exact put
end
end Go.Proofs.Ytimpaammdmeocaa
