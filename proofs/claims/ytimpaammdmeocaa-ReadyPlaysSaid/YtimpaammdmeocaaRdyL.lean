/- The rings of jobs that are ready: what each call answers, over what is owned. Conditions: none. -/
import Derived.Test.YtimpaammdmeocaaSbY
import Derived.Test.YtimpaammdmeocaaRdyM
import Derived.Test.YtimpaammdmeocaaCfgF
import Derived.Test.YtimpaammdmeocaaSbW
namespace Go.Proofs.Ytimpaammdmeocaa
open Go Go.Sb
set_option linter.unusedSimpArgs false
set_option linter.unusedVariables false
/-- a job -/
structure PJob where
  t : Int
  n : Int
  a : Int
deriving DecidableEq
abbrev encJ (x : PJob) : List Value := [.int .i64 x.t, .int .i64 x.n, .int .i64 x.a]
abbrev jobV (x : PJob) : Value := .agg #[.int .i64 x.t, .int .i64 x.n, .int .i64 x.a]
/-- a row that goes round in its cells, from one of them on -/
structure RRep {X : Type} (cells : List X) (fr : Nat) (q : List X) : Prop where
  len : q.length ≤ cells.length
  lo : 0 < cells.length → fr < cells.length
  z : cells.length = 0 → fr = 0
  at_ : ∀ k x, q[k]? = some x → cells[(fr + k) % cells.length]? = some x
theorem RRep.nil {X : Type} (cells : List X) : RRep cells 0 [] := ⟨by simp, id, fun _ => rfl, by simp⟩
theorem mod_ne {N f j k : Nat} (hk : k < N) (hj : j < N) (hne : j ≠ k) : (f + j) % N ≠ (f + k) % N := by
  intro he
  have h1 := Nat.div_add_mod (f + j) N
  have h2 := Nat.div_add_mod (f + k) N
  rw [he] at h1
  rcases Nat.lt_trichotomy ((f + j) / N) ((f + k) / N) with h | h | h
  · have : N * ((f + j) / N + 1) ≤ N * ((f + k) / N) := Nat.mul_le_mul_left _ h
    rw [Nat.mul_add] at this; omega
  · rw [h] at h1; omega
  · have : N * ((f + k) / N + 1) ≤ N * ((f + j) / N) := Nat.mul_le_mul_left _ h
    rw [Nat.mul_add] at this; omega
theorem RRep.put {X : Type} {cells : List X} {fr : Nat} {q : List X} (hr : RRep cells fr q) (hlt : q.length < cells.length) (x : X) : RRep (cells.set ((fr + q.length) % cells.length) x) fr (q ++ [x]) := by
  have hN : 0 < cells.length := by omega
  refine ⟨by simp; omega, by simpa using hr.lo, by simpa using hr.z, fun k y hk => ?_⟩
  rw [List.length_set]
  by_cases e : k = q.length
  · subst e
    simp only [List.getElem?_concat_length, Option.some.injEq] at hk
    subst hk
    rw [List.getElem?_set_self (Nat.mod_lt _ hN)]
  · have hk1 := (List.getElem?_eq_some_iff.1 hk).1
    simp only [List.length_append, List.length_cons, List.length_nil] at hk1
    rw [List.getElem?_append_left (by omega)] at hk
    rw [List.getElem?_set_ne (mod_ne (by omega) (by omega) (by omega))]
    exact hr.at_ k y hk
theorem RRep.take {X : Type} {cells : List X} {fr : Nat} {x : X} {q : List X} (hr : RRep cells fr (x :: q)) (z : X) : RRep (cells.set fr z) ((fr + 1) % cells.length) q := by
  have hl := hr.len
  simp only [List.length_cons] at hl
  have hN : 0 < cells.length := by omega
  have hf := hr.lo hN
  refine ⟨by simp; omega, by rw [List.length_set]; intro _; exact Nat.mod_lt _ hN, by rw [List.length_set]; omega, fun k y hk => ?_⟩
  rw [List.length_set, Nat.mod_add_mod, Nat.add_assoc, Nat.add_comm 1 k]
  have h1 := hr.at_ (k + 1) y (by simpa using hk)
  have hk1 := (List.getElem?_eq_some_iff.1 hk).1
  have hne := mod_ne (N := cells.length) (f := fr) (j := 0) (k := k + 1) (by omega) hN (by omega)
  rw [Nat.add_zero, Nat.mod_eq_of_lt hf] at hne
  rw [List.getElem?_set_ne hne]
  exact h1
theorem RRep.first {X : Type} {cells : List X} {fr : Nat} {x : X} {q : List X} (hr : RRep cells fr (x :: q)) : cells[fr]? = some x := by
  have hl := hr.len
  simp only [List.length_cons] at hl
  have := hr.at_ 0 x rfl
  rwa [Nat.add_zero, Nat.mod_eq_of_lt (hr.lo (by omega))] at this
/-- the ring behind block b, of row q -/
def aJobs (b : Nat) (q : List PJob) : As := aEx fun t : Sl × List PJob × Nat =>
  aStar (aPure (t.2.1.length = 4 ∧ RRep t.2.1 t.2.2 q)) (aStar (aBlk b [.slice t.1.p t.1.n t.1.c, .int .i64 (t.2.2 : Int), .int .i64 (q.length : Int)]) (aRow encJ 3 t.1 t.2.1))
theorem aJobs_iff {h0 h : Hp} {R : List As} {b : Nat} {q : List PJob} : Sep h0 h (aJobs b q :: R) ↔
    ∃ (s : Sl) (cells : List PJob) (fr : Nat), (cells.length = 4 ∧ RRep cells fr q) ∧ Sep h0 h (aBlk b [.slice s.p s.n s.c, .int .i64 (fr : Int), .int .i64 (q.length : Int)] :: aRow encJ 3 s cells :: R) := by
  unfold aJobs
  rw [Sep.ex]
  constructor
  · rintro ⟨⟨s, cells, fr⟩, hs⟩
    rw [Sep.star, Sep.pure, Sep.star] at hs
    exact ⟨s, cells, fr, hs⟩
  · rintro ⟨s, cells, fr, hs⟩
    refine ⟨⟨s, cells, fr⟩, ?_⟩
    rw [Sep.star, Sep.pure, Sep.star]
    exact hs
def jobF : List PJob → Value
  | [] => .tuple #[jobV ⟨0, 0, 0⟩, .bool false]
  | x :: _ => .tuple #[jobV x, .bool true]
def jobTk : List PJob → Value
  | [] => .tuple #[jobV ⟨0, 0, 0⟩, .int .i64 8]
  | x :: _ => .tuple #[jobV x, .int .i64 0]
section
variable {h0 h : Hp} {R : List As} {b : Nat} {q : List PJob}
theorem At.some {s : Sl} {cells : List PJob} {j : Nat} {L : List As} (hs : Sep h0 h L) (k : Nat) (hk : L[k]? = some (aRow encJ 3 s cells)) (hj : j < cells.length) : ∃ a, At s a j 3 := by
  have h1 : mIdx (α := Unit) s (j : Int) 3 (fun a _ _ => At s a j 3) h (fun _ _ => True) := hs.idx k hk (by omega) (by omega) fun a ha => by rw [Int.toNat_natCast] at ha; exact ha
  obtain ⟨_, _, a, _, ha⟩ := h1
  exact ⟨_, ha⟩
theorem job_at {s : Sl} {cells : List PJob} {fr n i : Nat} {L : List As} (hs : Sep h0 h L) (k1 k2 : Nat) (hk1 : L[k1]? = some (aBlk b [.slice s.p s.n s.c, .int .i64 (fr : Int), .int .i64 (n : Int)])) (hk2 : L[k2]? = some (aRow encJ 3 s cells)) (hN : 0 < cells.length) (hf : fr < cells.length) (hl : cells.length ≤ 4096) (hi : i ≤ 4096) :
    ∃ a, At s a ((fr + i) % cells.length) 3 ∧ N_ring_Ring_ready_Job_at (some ⟨b, 0, none⟩) (i : Int) h (fun v h' => v = .pointer (some a) ∧ h' = h) := by
  have hln := hs.rowLen k2 hk2
  have hmod := Nat.mod_lt (fr + i) hN
  obtain ⟨a, ha⟩ := At.some hs k2 hk2 hmod
  refine ⟨a, ha, ?_⟩
  apply S_ring_Ring_ready_Job_at
  unfold B_ring_Ring_ready_Job_at
  simp only [mNil_some, add_mk, Nat.zero_add]
  refine Sep.ldL hs k1 hk1 rfl ?_
  refine Sep.ldI hs k1 hk1 rfl ?_
  refine Sep.ldL hs k1 hk1 rfl ?_
  refine ⟨by omega, ?_⟩
  rw [wrap64 _ (by omega), Int.tmod_eq_emod_of_nonneg (by omega), hln, show (fr : Int) + (i : Int) = ((fr + i : Nat) : Int) by omega, ← Int.natCast_emod]
  refine hs.idx k2 hk2 (by omega) (by omega) fun a' ha' => ?_
  rw [Int.toNat_natCast] at ha'
  obtain ⟨p, e1, e2⟩ := ha
  obtain ⟨p', e1', e2'⟩ := ha'
  rw [e1] at e1'
  cases e1'
  rw [e2, e2']
  exact ⟨rfl, rfl⟩
theorem job_Len (hs : Sep h0 h (aJobs b q :: R)) : N_ring_Ring_ready_Job_Len (some ⟨b, 0, none⟩) h (fun v h' => v = .int .i64 (q.length : Int) ∧ h' = h) := by
  obtain ⟨s, cells, fr, hp, hs⟩ := aJobs_iff.1 hs
  apply S_ring_Ring_ready_Job_Len
  unfold B_ring_Ring_ready_Job_Len
  (simp only [Option.isNone_some, mNil_some, add_mk, Nat.zero_add, mIf_false]; refine Sep.ldI hs 0 rfl rfl ?_)
  exact ⟨rfl, rfl⟩
theorem job_Put (hs : Sep h0 h (aJobs b q :: R)) (x : PJob) : N_ring_Ring_ready_Job_Put (some ⟨b, 0, none⟩) x.t x.n x.a h (fun v h' => v = .int .i64 (if q.length = 4 then 7 else 0) ∧ Sep h0 h' (aJobs b (if q.length = 4 then q else q ++ [x]) :: R)) := by
  obtain ⟨s, cells, fr, ⟨hp, hr⟩, hs⟩ := aJobs_iff.1 hs
  have hln := hs.rowLen 1 rfl
  have hql := hr.len
  apply S_ring_Ring_ready_Job_Put
  unfold B_ring_Ring_ready_Job_Put
  ((refine Sep.new hs fun nb h hs => ?_; try simp only [List.toList_toArray] at hs); simp only [Option.isNone_some, add_mk, Nat.zero_add, mNil_some, mIf_false]; refine Sep.ldI hs 1 rfl rfl ?_; refine Sep.ldL hs 1 rfl rfl ?_)
  refine mIf_intro (fun hc => ?_) (fun hc => ?_)
  · have hc : (q.length : Int) = s.n := by simpa using hc
    rw [if_pos (by omega), if_pos (by omega)]
    exact ⟨rfl, aJobs_iff.2 ⟨s, cells, fr, ⟨hp, hr⟩, hs.drop⟩⟩
  · have hc : ¬ (q.length : Int) = s.n := by simpa using hc
    rw [if_neg (by omega), if_neg (by omega)]
    have hlt : q.length < cells.length := by omega
    (refine Sep.ldI hs 1 rfl rfl ?_)
    obtain ⟨a, ha, hm⟩ := job_at (i := q.length) hs 1 2 rfl rfl (by omega) (hr.lo (by omega)) (by omega) (by omega)
    refine mQ_intro _ hm ?_
    have hmod := Nat.mod_lt (fr + q.length) (by omega : 0 < cells.length)
    (simp only [unP_pointer, mNil_some]; refine Sep.ldI hs 0 rfl rfl ?_; refine Sep.ldI hs 0 rfl rfl ?_; refine Sep.ldI hs 0 rfl rfl ?_)
    refine hs.rst0 2 ⟨x.t, (cells[(fr + q.length) % cells.length]).n, (cells[(fr + q.length) % cells.length]).a⟩ rfl (fun _ => rfl) ha (List.getElem?_eq_getElem hmod) (by omega) rfl rfl fun h hs => ?_
    simp only [List.set_cons_zero, List.set_cons_succ] at hs
    refine hs.rst 2 ⟨x.t, x.n, (cells[(fr + q.length) % cells.length]).a⟩ rfl (fun _ => rfl) ha (List.getElem?_set_self hmod) (by omega) rfl rfl fun h hs => ?_
    simp only [List.set_cons_zero, List.set_cons_succ, List.set_set] at hs
    refine hs.rst 2 x rfl (fun _ => rfl) ha (List.getElem?_set_self hmod) (by omega) rfl rfl fun h hs => ?_
    simp only [List.set_cons_zero, List.set_cons_succ, List.set_set] at hs
    (refine Sep.ldI hs 1 rfl rfl ?_; (refine Sep.st hs 1 rfl rfl rfl fun h hs => ?_; simp only [List.set_cons_zero, List.set_cons_succ] at hs))
    rw [wrap64 _ (by omega), show (q.length : Int) + 1 = ((q ++ [x]).length : Int) by simp] at hs
    exact ⟨rfl, aJobs_iff.2 ⟨s, _, fr, ⟨by rw [List.length_set]; exact hp, hr.put hlt x⟩, hs.drop⟩⟩
theorem job_First (hs : Sep h0 h (aJobs b q :: R)) : N_ring_Ring_ready_Job_First (some ⟨b, 0, none⟩) h (fun v h' => v = jobF q ∧ Sep h0 h' (aJobs b q :: R)) := by
  apply S_ring_Ring_ready_Job_First
  unfold B_ring_Ring_ready_Job_First
  ((refine Sep.new hs fun nb h hs => ?_; try simp only [List.toList_toArray] at hs); simp only [add_mk, Nat.zero_add, mBind_ap])
  have hs : Sep h0 h (aJobs b q :: aBlk nb [.int .i64 0, .int .i64 0, .int .i64 0] :: R) := hs.swap
  refine (job_Len hs).mono ?_
  rintro v h' ⟨rfl, rfl⟩
  simp only [unI_int]
  cases q with
  | nil =>
    refine mIf_pos rfl ?_
    (refine Sep.ldI hs 1 rfl rfl ?_; refine Sep.ldI hs 1 rfl rfl ?_; refine Sep.ldI hs 1 rfl rfl ?_; (refine Sep.st hs 1 rfl rfl rfl fun h hs => ?_; simp only [List.set_cons_zero, List.set_cons_succ] at hs); (refine Sep.st hs 1 rfl rfl rfl fun h hs => ?_; simp only [List.set_cons_zero, List.set_cons_succ] at hs); (refine Sep.st hs 1 rfl rfl rfl fun h hs => ?_; simp only [List.set_cons_zero, List.set_cons_succ] at hs); refine Sep.ldI hs 1 rfl rfl ?_; refine Sep.ldI hs 1 rfl rfl ?_; refine Sep.ldI hs 1 rfl rfl ?_)
    exact ⟨rfl, hs.swap.drop⟩
  | cons x q =>
    obtain ⟨s, cells, fr, ⟨hp, hr⟩, hs⟩ := aJobs_iff.1 hs
    have hql := hr.len
    simp only [List.length_cons] at hql
    refine mIf_neg (by simp; omega) ?_
    rw [mBind_ap]
    obtain ⟨a, ha, hm⟩ := job_at (i := 0) hs 0 1 rfl rfl (by omega) (hr.lo (by omega)) (by omega) (by omega)
    refine hm.mono ?_
    rintro v h' ⟨rfl, rfl⟩
    rw [Nat.add_zero, Nat.mod_eq_of_lt (hr.lo (by omega))] at ha
    simp only [unP_pointer, mNil_some]
    refine hs.rldI0 1 rfl (fun _ => rfl) ha hr.first rfl ?_
    refine hs.rldI 1 rfl (fun _ => rfl) ha hr.first rfl ?_
    refine hs.rldI 1 rfl (fun _ => rfl) ha hr.first rfl ?_
    ((refine Sep.st hs 2 rfl rfl rfl fun h hs => ?_; simp only [List.set_cons_zero, List.set_cons_succ] at hs); (refine Sep.st hs 2 rfl rfl rfl fun h hs => ?_; simp only [List.set_cons_zero, List.set_cons_succ] at hs); (refine Sep.st hs 2 rfl rfl rfl fun h hs => ?_; simp only [List.set_cons_zero, List.set_cons_succ] at hs); refine Sep.ldI hs 2 rfl rfl ?_; refine Sep.ldI hs 2 rfl rfl ?_; refine Sep.ldI hs 2 rfl rfl ?_)
    exact ⟨rfl, aJobs_iff.2 ⟨s, cells, fr, ⟨hp, hr⟩, (hs.reT 3 [2, 0, 1] rfl (by simp)).drop⟩⟩
theorem job_Take (hs : Sep h0 h (aJobs b q :: R)) : N_ring_Ring_ready_Job_Take (some ⟨b, 0, none⟩) h (fun v h' => v = jobTk q ∧ Sep h0 h' (aJobs b q.tail :: R)) := by
  apply S_ring_Ring_ready_Job_Take
  unfold B_ring_Ring_ready_Job_Take
  ((refine Sep.new hs fun nb h hs => ?_; try simp only [List.toList_toArray] at hs); (refine Sep.new hs fun nb_1 h hs => ?_; try simp only [List.toList_toArray] at hs); simp only [add_mk, Nat.zero_add, mNil_some, mBind_ap])
  have hs : Sep h0 h (aJobs b q :: aBlk nb_1 [.int .i64 0, .int .i64 0, .int .i64 0] :: aBlk nb [.int .i64 0, .int .i64 0, .int .i64 0] :: R) := hs.reT 3 [2, 0, 1] rfl (by simp)
  refine (job_First hs).mono ?_
  rintro v h' ⟨rfl, hs⟩
  cases q with
  | nil =>
    simp only [jobF]
    (simp only [unT_tuple, unC_cons, unE_nil, unB_bool, Bool.not_false, mIf_true, unA_agg, unI_int]; (refine Sep.new hs fun nb_2 h hs => ?_; try simp only [List.toList_toArray] at hs); (refine Sep.st hs 0 rfl rfl rfl fun h hs => ?_; simp only [List.set_cons_zero, List.set_cons_succ] at hs); (refine Sep.st hs 0 rfl rfl rfl fun h hs => ?_; simp only [List.set_cons_zero, List.set_cons_succ] at hs); (refine Sep.st hs 0 rfl rfl rfl fun h hs => ?_; simp only [List.set_cons_zero, List.set_cons_succ] at hs); refine Sep.ldI hs 2 rfl rfl ?_; refine Sep.ldI hs 2 rfl rfl ?_; refine Sep.ldI hs 2 rfl rfl ?_; (refine Sep.st hs 3 rfl rfl rfl fun h hs => ?_; simp only [List.set_cons_zero, List.set_cons_succ] at hs); (refine Sep.st hs 3 rfl rfl rfl fun h hs => ?_; simp only [List.set_cons_zero, List.set_cons_succ] at hs); (refine Sep.st hs 3 rfl rfl rfl fun h hs => ?_; simp only [List.set_cons_zero, List.set_cons_succ] at hs); refine Sep.ldI hs 3 rfl rfl ?_; refine Sep.ldI hs 3 rfl rfl ?_; refine Sep.ldI hs 3 rfl rfl ?_)
    exact ⟨rfl, (hs.drop.reT 3 [1, 2, 0] rfl (by simp)).drop.drop⟩
  | cons x q =>
    simp only [jobF]
    (simp only [unT_tuple, unC_cons, unE_nil, unB_bool, Bool.not_true, mIf_false, unA_agg, unI_int]; (refine Sep.new hs fun nb_2 h hs => ?_; try simp only [List.toList_toArray] at hs); (refine Sep.st hs 0 rfl rfl rfl fun h hs => ?_; simp only [List.set_cons_zero, List.set_cons_succ] at hs); (refine Sep.st hs 0 rfl rfl rfl fun h hs => ?_; simp only [List.set_cons_zero, List.set_cons_succ] at hs); (refine Sep.st hs 0 rfl rfl rfl fun h hs => ?_; simp only [List.set_cons_zero, List.set_cons_succ] at hs); simp only [add_mk, Nat.zero_add])
    obtain ⟨s, cells, fr, ⟨hp, hr⟩, hs⟩ := aJobs_iff.1 hs.swap
    have hln := hs.rowLen 1 rfl
    have hql := hr.len
    simp only [List.length_cons] at hql
    have hlo := hr.lo (by omega)
    obtain ⟨a, ha, hm⟩ := job_at (i := 0) hs 0 1 rfl rfl (by omega) hlo (by omega) (by omega)
    refine mQ_intro _ hm ?_
    rw [Nat.add_zero, Nat.mod_eq_of_lt hlo] at ha
    (simp only [unP_pointer, mNil_some]; refine Sep.ldI hs 3 rfl rfl ?_; refine Sep.ldI hs 3 rfl rfl ?_; refine Sep.ldI hs 3 rfl rfl ?_)
    refine hs.rst0 1 ⟨0, x.n, x.a⟩ rfl (fun _ => rfl) ha hr.first (by omega) rfl rfl fun h hs => ?_
    simp only [List.set_cons_zero, List.set_cons_succ] at hs
    refine hs.rst 1 ⟨0, 0, x.a⟩ rfl (fun _ => rfl) ha (List.getElem?_set_self hlo) (by omega) rfl rfl fun h hs => ?_
    simp only [List.set_cons_zero, List.set_cons_succ, List.set_set] at hs
    refine hs.rst 1 ⟨0, 0, 0⟩ rfl (fun _ => rfl) ha (List.getElem?_set_self hlo) (by omega) rfl rfl fun h hs => ?_
    simp only [List.set_cons_zero, List.set_cons_succ, List.set_set] at hs
    (refine Sep.ldI hs 0 rfl rfl ?_; refine Sep.ldL hs 0 rfl rfl ?_)
    refine ⟨by omega, ?_⟩
    ((refine Sep.st hs 0 rfl rfl rfl fun h hs => ?_; simp only [List.set_cons_zero, List.set_cons_succ] at hs); refine Sep.ldI hs 0 rfl rfl ?_; (refine Sep.st hs 0 rfl rfl rfl fun h hs => ?_; simp only [List.set_cons_zero, List.set_cons_succ] at hs); refine Sep.ldI hs 2 rfl rfl ?_; refine Sep.ldI hs 2 rfl rfl ?_; refine Sep.ldI hs 2 rfl rfl ?_; (refine Sep.st hs 4 rfl rfl rfl fun h hs => ?_; simp only [List.set_cons_zero, List.set_cons_succ] at hs); (refine Sep.st hs 4 rfl rfl rfl fun h hs => ?_; simp only [List.set_cons_zero, List.set_cons_succ] at hs); (refine Sep.st hs 4 rfl rfl rfl fun h hs => ?_; simp only [List.set_cons_zero, List.set_cons_succ] at hs); refine Sep.ldI hs 4 rfl rfl ?_; refine Sep.ldI hs 4 rfl rfl ?_; refine Sep.ldI hs 4 rfl rfl ?_)
    have e1 : Int.tmod (IntKind.i64.wrap ((fr : Int) + 1)) (s.n : Int) = (((fr + 1) % cells.length : Nat) : Int) := by
      rw [wrap64 _ (by omega), Int.tmod_eq_emod_of_nonneg (by omega), hln, show (fr : Int) + 1 = ((fr + 1 : Nat) : Int) by omega, ← Int.natCast_emod]
    have e2 : IntKind.i64.wrap (((x :: q).length : Int) - 1) = (q.length : Int) := by
      rw [List.length_cons, wrap64 _ (by omega)]; omega
    rw [e1, e2] at hs
    exact ⟨rfl, aJobs_iff.2 ⟨s, _, _, ⟨by rw [List.length_set]; exact hp, hr.take ⟨0, 0, 0⟩⟩, (hs.reT 5 [2, 3, 4, 0, 1] rfl (by simp)).drop.drop.drop⟩⟩
theorem job_New (hs : Sep h0 h R) : N_ring_New_ready_Job 4 h (fun v h' => ∃ b, v = .pointer (some ⟨b, 0, none⟩) ∧ Sep h0 h' (aJobs b [] :: R)) := by
  apply S_ring_New_ready_Job
  unfold B_ring_New_ready_Job
  refine mIf_neg (by rfl) ?_
  refine hs.make encJ 3 ⟨0, 0, 0⟩ rfl (by omega) (by omega) (by omega) fun s h hn hs => ?_
  ((refine Sep.new hs fun nb h hs => ?_; try simp only [List.toList_toArray] at hs))
  exact ⟨nb, rfl, aJobs_iff.2 ⟨s, _, 0, ⟨by simp, .nil _⟩, hs⟩⟩
theorem job_All3 (hq : q.length ≤ 4) {s : Sl} {cells : List PJob} {fr : Nat} (hp : cells.length = 4) (hr : RRep cells fr q) : ∀ (d k : Nat) (o : Sl) (h : Hp), k + d = q.length → Sep h0 h (aRow encJ 3 o (q.take k) :: aBlk b [.slice s.p s.n s.c, .int .i64 (fr : Int), .int .i64 (q.length : Int)] :: aRow encJ 3 s cells :: R) →
    K_ring_Ring_ready_Job_All_3 (some ⟨b, 0, none⟩) o (q.length : Int) (k : Int) h (fun v h' => ∃ o : Sl, v = .slice o.p o.n o.c ∧ Sep h0 h' (aRow encJ 3 o q :: aJobs b q :: R))
  | 0, k, o, h, hk, hs => by
    apply S_ring_Ring_ready_Job_All_3
    unfold B_ring_Ring_ready_Job_All_3
    refine mIf_neg (by simp; omega) ?_
    rw [List.take_of_length_le (by omega)] at hs
    exact ⟨o, rfl, Sep.swap (aJobs_iff.2 ⟨s, cells, fr, ⟨hp, hr⟩, hs.reT 3 [1, 2, 0] rfl (by simp)⟩)⟩
  | d + 1, k, o, h, hk, hs => by
    have ih := job_All3 (s := s) hq hp hr d (k + 1)
    apply S_ring_Ring_ready_Job_All_3
    unfold B_ring_Ring_ready_Job_All_3
    refine mIf_pos (by simp; omega) ?_
    rw [mBind_ap]
    have hkq : k < q.length := by omega
    have hx := hr.at_ k _ (List.getElem?_eq_getElem hkq)
    obtain ⟨a, ha, hm⟩ := job_at (i := k) hs 1 2 rfl rfl (by omega) (hr.lo (by omega)) (by omega) (by omega)
    refine hm.mono ?_
    rintro v h' ⟨rfl, rfl⟩
    simp only [unP_pointer, mNil_some]
    refine hs.rldI0 2 rfl (fun _ => rfl) ha hx rfl ?_
    refine hs.rldI 2 rfl (fun _ => rfl) ha hx rfl ?_
    refine hs.rldI 2 rfl (fun _ => rfl) ha hx rfl ?_
    refine Sep.new hs fun nb h hs => ?_
    simp only [List.toList_toArray] at hs
    refine Sep.app1 hs 1 0 q[k] rfl rfl (fun _ => rfl) (by simp [Value.oneCell']) rfl (by omega) (by simp; omega) fun o' h hn hs => ?_
    simp only [List.set_cons_zero, List.set_cons_succ] at hs
    have hs := hs.drop
    rw [List.take_append_getElem hkq] at hs
    rw [wrapS _ (by omega)]
    exact ih o' h (by omega) hs
theorem job_All (hs : Sep h0 h (aJobs b q :: R)) : N_ring_Ring_ready_Job_All (some ⟨b, 0, none⟩) h (fun v h' => ∃ o : Sl, v = .slice o.p o.n o.c ∧ Sep h0 h' (aRow encJ 3 o q :: aJobs b q :: R)) := by
  apply S_ring_Ring_ready_Job_All
  unfold B_ring_Ring_ready_Job_All
  rw [mBind_ap]
  refine (job_Len hs).mono ?_
  rintro v h' ⟨rfl, rfl⟩
  simp only [unI_int]
  obtain ⟨s, cells, fr, ⟨hp, hr⟩, hs⟩ := aJobs_iff.1 hs
  have := hr.len
  exact job_All3 (by omega) hp hr q.length 0 _ _ (by omega) (hs.nilRow encJ 3)
end
end Go.Proofs.Ytimpaammdmeocaa
