/- Configurations as bytes: the cursor. Conditions: none. -/
import Derived.Test.YtimpaammdmeocaaCodeS
import Derived.Test.YtimpaammdmeocaaSbW
namespace Go.Proofs.Ytimpaammdmeocaa
open Go Go.Sb
set_option linter.unusedSimpArgs false
set_option linter.unusedVariables false
set_option linter.unusedVariables false
section plain
theorem rd_rng : ∀ (f i acc : Nat) (l : List Int) (m k : Nat), rdF f i acc l = some (m, k) → m ≤ 2147483647
  | 0, _, _, _, _, _, h => by cases h
  | f + 1, i, acc, [], m, k, h => by cases h
  | f + 1, i, acc, c :: l, m, k, h => by
    simp only [rdF] at h
    split at h
    · split at h
      · rename_i hh; cases h; exact hh.2
      · cases h
    · exact rd_rng f _ _ l m k h
theorem num_rng (s : Cur) : okN (cNum s).1 := by
  unfold cNum
  split
  · exact ⟨by simp only []; omega, by simp only []; omega⟩
  · cases hr : readO s.1 with
    | none => exact ⟨by simp only []; omega, by simp only []; omega⟩
    | some p =>
      obtain ⟨n, k⟩ := p
      have := rd_rng 5 0 0 s.1 n k hr
      exact ⟨by simp only []; omega, by simp only []; omega⟩
theorem num_len (s : Cur) : (cNum s).2.1.length ≤ s.1.length := by
  unfold cNum
  split
  · exact Nat.le_refl _
  · cases hr : readO s.1 with
    | none => exact Nat.le_refl _
    | some p => obtain ⟨n, k⟩ := p; simp
theorem many_rng (s : Cur) : 0 ≤ (cMany s).1 ∧ (cMany s).1.toNat ≤ s.1.length := by
  have h1 := num_rng s
  have h2 := num_len s
  unfold okN at h1
  unfold cMany
  split
  · exact ⟨Int.le_refl _, by simp⟩
  · rename_i hc
    simp at hc
    exact ⟨h1.1, by omega⟩
theorem many_len (s : Cur) : (cMany s).2.1.length ≤ s.1.length := by
  have h2 := num_len s
  unfold cMany
  split
  · exact h2
  · exact h2
theorem nums_len : ∀ (k : Nat) (s : Cur), (cNums k s).2.1.length ≤ s.1.length ∧ (cNums k s).1.length = k ∧ ∀ n ∈ (cNums k s).1, okN n
  | 0, s => ⟨Nat.le_refl _, rfl, by simp [cNums]⟩
  | k + 1, s => by
    obtain ⟨h1, h2, h3⟩ := nums_len k (cNum s).2
    have h4 := num_len s
    refine ⟨Nat.le_trans h1 h4, by simp [cNums, h2], fun n hn => ?_⟩
    rcases List.mem_cons.1 hn with rfl | hn
    · exact num_rng s
    · exact h3 n hn
theorem list_len (s : Cur) : (cList s).2.1.length ≤ s.1.length ∧ (cList s).1.length ≤ s.1.length ∧ ∀ n ∈ (cList s).1, okN n := by
  obtain ⟨h1, h2, h3⟩ := nums_len (cMany s).1.toNat (cMany s).2
  exact ⟨Nat.le_trans h1 (many_len s), by have := (many_rng s).2; unfold cList; omega, h3⟩
theorem op_len (s : Cur) : (cOp s).2.1.length ≤ s.1.length := Nat.le_trans (num_len _) (Nat.le_trans (num_len _) (num_len _))
theorem ops_len : ∀ (k : Nat) (s : Cur), (cOps k s).2.1.length ≤ s.1.length ∧ (cOps k s).1.length = k
  | 0, s => ⟨Nat.le_refl _, rfl⟩
  | k + 1, s => by
    obtain ⟨h1, h2⟩ := ops_len k (cOp s).2
    exact ⟨Nat.le_trans h1 (op_len s), by simp [cOps, h2]⟩
theorem task_len (s : Cur) : (cTask s).2.1.length ≤ s.1.length := by
  unfold cTask
  exact Nat.le_trans (ops_len _ _).1 (Nat.le_trans (many_len _) (nums_len 6 s).1)
theorem tasks_len : ∀ (k : Nat) (s : Cur), (cTasks k s).2.1.length ≤ s.1.length ∧ (cTasks k s).1.length = k
  | 0, s => ⟨Nat.le_refl _, rfl⟩
  | k + 1, s => by
    obtain ⟨h1, h2⟩ := tasks_len k (cTask s).2
    exact ⟨Nat.le_trans h1 (task_len s), by simp [cTasks, h2]⟩
end plain
section
variable {h0 h : Hp} {R L : List As} {r : Nat} {s : Cur}
/-- the cursor's place -/
def CurAt (h0 : Hp) (r : Nat) (s : Cur) (h : Hp) (L : List As) : Prop := ∃ b : Sl, RdI h0.size h0 .u8 b s.1 ∧ b.n ≤ b.c ∧ Sep h0 h (aBlk r [.slice b.p b.n b.c, .bool s.2] :: L)
theorem number_s (hs : CurAt h0 r s h L) : N_code_cursor_number (some ⟨r, 0, none⟩) h (fun v h' => v = .int .i64 (cNum s).1 ∧ CurAt h0 r (cNum s).2 h' L) := by
  obtain ⟨l, od⟩ := s
  obtain ⟨b, hr, hc, hs⟩ := hs
  simp only at hr hs
  have hn := hr.n
  apply S_code_cursor_number
  unfold B_code_cursor_number
  (simp only [mNil_some, add_mk, Nat.zero_add]; refine Sep.ldL hs 0 rfl rfl ?_; simp only [mBind_ap])
  refine (Read_s (hr.under hs.under) hc).mono ?_
  rintro v h ⟨n, k, ok, rfl, hok, rfl⟩
  simp only [un3_tuple, unI_int, unB_bool]
  (refine Sep.ldB hs 0 rfl rfl ?_; (refine Sep.st hs 0 rfl rfl rfl fun h hs => ?_; simp only [List.set_cons_zero, List.set_cons_succ] at hs); refine Sep.ldB hs 0 rfl rfl ?_)
  unfold cNum
  cases od with
  | true =>
    refine mIf_pos (by simp) ?_
    simp only [Bool.true_or] at hs
    exact ⟨rfl, b, hr, hc, hs⟩
  | false =>
    cases hq : readO l with
    | none =>
      rw [hq] at hok
      have hok : ok = false := hok
      subst hok
      refine mIf_pos (by simp) ?_
      exact ⟨rfl, b, hr, hc, hs⟩
    | some p =>
      obtain ⟨m, j⟩ := p
      rw [hq] at hok
      obtain ⟨rfl, rfl, rfl⟩ := hok
      refine mIf_neg (by simp) ?_
      simp only [Bool.not_true, Bool.or_self] at hs
      (refine Sep.ldL hs 0 rfl rfl ?_; simp only)
      obtain ⟨e1, e2, e3⟩ := enc_read (rdI_B hr) hq
      have hj : j ≤ l.length := by
        have := congrArg List.length e3
        rw [List.length_append] at this
        omega
      refine hr.slc hc (by omega) (by omega) (by omega) rfl fun x hx hxc => ?_
      ((refine Sep.st hs 0 rfl rfl rfl fun h hs => ?_; simp only [List.set_cons_zero, List.set_cons_succ] at hs))
      refine ⟨rfl, x, ?_, hxc, hs⟩
      simp only [Int.toNat_natCast] at hx
      rw [hn, List.take_of_length_le (Nat.le_refl _)] at hx
      exact hx
theorem many_s (hs : CurAt h0 r s h L) : N_code_cursor_many (some ⟨r, 0, none⟩) h (fun v h' => v = .int .i64 (cMany s).1 ∧ CurAt h0 r (cMany s).2 h' L) := by
  apply S_code_cursor_many
  unfold B_code_cursor_many
  rw [mBind_ap]
  refine (number_s hs).mono ?_
  rintro v h ⟨rfl, hs⟩
  unfold cMany
  generalize cNum s = q at hs ⊢
  obtain ⟨z, l, od⟩ := q
  obtain ⟨b, hr, hc, hs⟩ := hs
  simp only at hr hs ⊢
  have hn := hr.n
  rw [← hn]
  cases od with
  | true =>
    (simp only [mNil_some, add_mk, Nat.zero_add, Bool.true_or, unI_int]; refine Sep.ldB hs 0 rfl rfl ?_; simp only [mIf_true, mBind_ap]; rw [mRet_ap]; (refine Sep.st hs 0 rfl rfl rfl fun h hs => ?_; simp only [List.set_cons_zero, List.set_cons_succ] at hs); refine Sep.ldB hs 0 rfl rfl ?_; simp only [mIf_true])
    exact ⟨rfl, b, hr, hc, hs⟩
  | false =>
    (simp only [mNil_some, add_mk, Nat.zero_add, Bool.false_or, unI_int]; refine Sep.ldB hs 0 rfl rfl ?_; simp only [mIf_false, mBind_ap]; refine Sep.ldL hs 0 rfl rfl ?_; rw [mRet_ap]; (refine Sep.st hs 0 rfl rfl rfl fun h hs => ?_; simp only [List.set_cons_zero, List.set_cons_succ] at hs); refine Sep.ldB hs 0 rfl rfl ?_)
    by_cases hg : z > (b.n : Int)
    · rw [decide_eq_true hg] at hs ⊢
      (simp only [mIf_true])
      exact ⟨rfl, b, hr, hc, hs⟩
    · rw [decide_eq_false hg] at hs ⊢
      (simp only [mIf_false])
      exact ⟨rfl, b, hr, hc, hs⟩
theorem clist3 : ∀ (d j n : Nat) (xs : List Int) (s : Cur) (o : Sl) (h : Hp), j + d = n → n ≤ 2000000 → xs.length + d ≤ 2000000 → CurAt h0 r s h (aRow encI 1 o xs :: L) →
    K_code_cursor_list_3 (some ⟨r, 0, none⟩) o (n : Int) (j : Int) h (fun v h' => ∃ o : Sl, v = .slice o.p o.n o.c ∧ CurAt h0 r (cNums d s).2 h' (aRow encI 1 o (xs ++ (cNums d s).1) :: L))
  | 0, j, n, xs, s, o, h, hj, hn, hl, hs => by
    apply S_code_cursor_list_3
    unfold B_code_cursor_list_3
    refine mIf_neg (by simp; omega) ?_
    exact ⟨o, rfl, by simpa [cNums] using hs⟩
  | d + 1, j, n, xs, s, o, h, hj, hn, hl, hs => by
    apply S_code_cursor_list_3
    unfold B_code_cursor_list_3
    refine mIf_pos (by simp; omega) ?_
    rw [mBind_ap]
    refine (number_s hs).mono ?_
    rintro v h ⟨rfl, b, hr, hc, hs⟩
    simp only [unI_int]
    refine Sep.new hs fun q h hs => ?_
    refine hs.app1 2 0 (cNum s).1 rfl rfl (fun _ => rfl) (by intro v hv; simp at hv; subst hv; rfl) rfl (by omega) (by omega) fun o' h hn' hs => ?_
    simp only [List.set_cons_succ, List.set_cons_zero] at hs
    rw [wrapS j (by omega)]
    refine (clist3 d (j + 1) n _ (cNum s).2 o' h (by omega) hn (by simp; omega) ⟨b, hr, hc, hs.drop⟩).mono ?_
    rintro v h ⟨o, rfl, hs⟩
    exact ⟨o, rfl, by simpa [cNums] using hs⟩
theorem clist_s (hl : s.1.length ≤ 1000000) (hs : CurAt h0 r s h L) : N_code_cursor_list (some ⟨r, 0, none⟩) h (fun v h' => ∃ o : Sl, v = .slice o.p o.n o.c ∧ CurAt h0 r (cList s).2 h' (aRow encI 1 o (cList s).1 :: L)) := by
  apply S_code_cursor_list
  unfold B_code_cursor_list
  rw [mBind_ap]
  refine (many_s hs).mono ?_
  rintro v h ⟨rfl, b, hr, hc, hs⟩
  simp only [unI_int]
  obtain ⟨m1, m2⟩ := many_rng s
  have e : (cMany s).1 = (((cMany s).1.toNat : Nat) : Int) := by omega
  rw [e]
  have := clist3 (L := L) (cMany s).1.toNat 0 (cMany s).1.toNat [] (cMany s).2 ⟨none, 0, 0⟩ h (Nat.zero_add _) (by omega) (by simp; omega) ⟨b, hr, hc, (hs.nilRow encI 1).swap⟩
  unfold cList
  simpa using this
/-! ### a task -/
theorem ctask7 {T : PTask} {t : Nat} : ∀ (d j n : Nat) (acc : List POp) (s : Cur) (o : Sl) (h : Hp), j + d = n → n ≤ 1000000 → acc.length + d ≤ 1000000 → CurAt h0 r s h (aBlk t (tskC T o) :: aRow encO 3 o acc :: L) →
    K_code_cursor_task_7 (some ⟨r, 0, none⟩) ⟨t, 0, none⟩ (n : Int) (j : Int) h (fun v h' => ∃ o : Sl, v = .agg (tskC T o).toArray ∧ CurAt h0 r (cOps d s).2 h' (aRow encO 3 o (acc ++ (cOps d s).1) :: L))
  | 0, j, n, acc, s, o, h, hj, hn, hl, hs => by
    obtain ⟨b, hr, hc, hs⟩ := hs
    apply S_code_cursor_task_7
    unfold B_code_cursor_task_7
    refine mIf_neg (by simp; omega) ?_
    (refine Sep.ldI hs 1 rfl rfl ?_; refine Sep.ldI hs 1 rfl rfl ?_; refine Sep.ldI hs 1 rfl rfl ?_; refine Sep.ldI hs 1 rfl rfl ?_; refine Sep.ldI hs 1 rfl rfl ?_; refine Sep.ldI hs 1 rfl rfl ?_; refine Sep.ldL hs 1 rfl rfl ?_; (refine Sep.st hs 1 rfl rfl rfl fun h hs => ?_; simp only [List.set_cons_zero, List.set_cons_succ] at hs); (refine Sep.st hs 1 rfl rfl rfl fun h hs => ?_; simp only [List.set_cons_zero, List.set_cons_succ] at hs); (refine Sep.st hs 1 rfl rfl rfl fun h hs => ?_; simp only [List.set_cons_zero, List.set_cons_succ] at hs); (refine Sep.st hs 1 rfl rfl rfl fun h hs => ?_; simp only [List.set_cons_zero, List.set_cons_succ] at hs); (refine Sep.st hs 1 rfl rfl rfl fun h hs => ?_; simp only [List.set_cons_zero, List.set_cons_succ] at hs); (refine Sep.st hs 1 rfl rfl rfl fun h hs => ?_; simp only [List.set_cons_zero, List.set_cons_succ] at hs); (refine Sep.st hs 1 rfl rfl rfl fun h hs => ?_; simp only [List.set_cons_zero, List.set_cons_succ] at hs); refine Sep.ldI hs 1 rfl rfl ?_; refine Sep.ldI hs 1 rfl rfl ?_; refine Sep.ldI hs 1 rfl rfl ?_; refine Sep.ldI hs 1 rfl rfl ?_; refine Sep.ldI hs 1 rfl rfl ?_; refine Sep.ldI hs 1 rfl rfl ?_; refine Sep.ldL hs 1 rfl rfl ?_)
    refine ⟨o, rfl, b, hr, hc, ?_⟩
    have := (hs.reT 3 [1, 0, 2] rfl (by simp)).drop
    simpa [cOps] using this
  | d + 1, j, n, acc, s, o, h, hj, hn, hl, hs => by
    apply S_code_cursor_task_7
    unfold B_code_cursor_task_7
    refine mIf_pos (by simp; omega) ?_
    rw [mBind_ap]
    refine (number_s hs).mono ?_
    rintro v h ⟨rfl, b, hr, hc, hs⟩
    simp only [unI_int]
    ((refine Sep.new hs fun nb h hs => ?_; try simp only [List.toList_toArray] at hs); (refine Sep.st hs 0 rfl rfl rfl fun h hs => ?_; simp only [List.set_cons_zero, List.set_cons_succ] at hs); (refine Sep.st hs 0 rfl rfl rfl fun h hs => ?_; simp only [List.set_cons_zero, List.set_cons_succ] at hs); (refine Sep.st hs 0 rfl rfl rfl fun h hs => ?_; simp only [List.set_cons_zero, List.set_cons_succ] at hs); simp only [add_mk, Nat.zero_add, mBind_ap])
    have hs := hs.swap
    refine (number_s ⟨b, hr, hc, hs⟩).mono ?_
    rintro v h ⟨rfl, hs⟩
    simp only [unI_int]
    rw [mBind_ap]
    refine (number_s hs).mono ?_
    rintro v h ⟨rfl, b, hr, hc, hs⟩
    simp only [unI_int]
    ((refine Sep.st hs 1 rfl rfl rfl fun h hs => ?_; simp only [List.set_cons_zero, List.set_cons_succ] at hs); (refine Sep.st hs 1 rfl rfl rfl fun h hs => ?_; simp only [List.set_cons_zero, List.set_cons_succ] at hs); refine Sep.ldL hs 2 rfl rfl ?_; refine Sep.ldI hs 1 rfl rfl ?_; refine Sep.ldI hs 1 rfl rfl ?_; refine Sep.ldI hs 1 rfl rfl ?_; (refine Sep.new hs fun nb_1 h hs => ?_; try simp only [List.toList_toArray] at hs); simp only)
    refine hs.app1 4 0 (cOp s).1 rfl rfl (fun _ => rfl) (by intro v hv; simp at hv; rcases hv with rfl | rfl | rfl <;> rfl) rfl (by omega) (by omega) fun o' h hn' hs => ?_
    simp only [List.set_cons_succ, List.set_cons_zero] at hs
    ((refine Sep.st hs 3 rfl rfl rfl fun h hs => ?_; simp only [List.set_cons_zero, List.set_cons_succ] at hs))
    rw [wrapS j (by omega)]
    have hs := (hs.reT 5 [0, 2, 1, 3, 4] rfl (by simp)).drop.drop
    refine (ctask7 (T := T) (t := t) d (j + 1) n _ (cOp s).2 o' h (by omega) hn (by simp; omega) ⟨b, hr, hc, hs⟩).mono ?_
    rintro v h ⟨o, rfl, hs⟩
    exact ⟨o, rfl, by simpa [cOps] using hs⟩
def ptrs (t : Nat) (n : Nat) : List Value := (List.range n).map fun i => .pointer (some ⟨t, i, none⟩)
theorem pad_set (xs : List Int) (d : Nat) (z : Int) (tl : List Value) : (((xs ++ List.replicate (d + 1) 0).map (Value.int .i64 ·)) ++ tl).set xs.length (.int .i64 z) = ((xs ++ [z]) ++ List.replicate d 0).map (Value.int .i64 ·) ++ tl := by
  simp [List.replicate_succ, List.set_append]
theorem ctask2 {t p : Nat} {Q : Value → Hp → Prop} {s0 : Cur} {tl : List Value}
    (next : ∀ h, CurAt h0 r (cNums 6 s0).2 h (aBlk t ((cNums 6 s0).1.map (Value.int .i64 ·) ++ tl) :: L) → (mBind (N_code_cursor_many (some ⟨r, 0, none⟩)) fun r24 => unI .i64 r24 fun (x24 : Int) => K_code_cursor_task_7 (some ⟨r, 0, none⟩) ⟨t, 0, none⟩ x24 (0 : Int)) h Q) :
    ∀ (d k : Nat) (xs : List Int) (s : Cur) (h : Hp), k + d = 6 → xs.length = k → (xs ++ (cNums d s).1, (cNums d s).2) = cNums 6 s0 → CurAt h0 r s h (aBlk p (ptrs t 6) :: aBlk t ((xs ++ List.replicate d 0).map (Value.int .i64 ·) ++ tl) :: L) →
    K_code_cursor_task_2 (some ⟨r, 0, none⟩) ⟨t, 0, none⟩ ⟨some ⟨p, 0, none⟩, 6, 6⟩ 6 (k : Int) h Q
  | 0, k, xs, s, h, hk, hx, he, hs => by
    obtain ⟨b, hr, hc, hs⟩ := hs
    apply S_code_cursor_task_2
    unfold B_code_cursor_task_2
    refine mIf_neg (by simp; omega) ?_
    have e1 : (cNums 6 s0).1 = xs := by rw [← he]; simp [cNums]
    have e2 : (cNums 6 s0).2 = s := by rw [← he]; simp [cNums]
    refine next h ?_
    rw [e1, e2]
    refine ⟨b, hr, hc, ?_⟩
    have := (hs.reT 3 [1, 0, 2] rfl (by simp)).drop
    simpa using this
  | d + 1, k, xs, s, h, hk, hx, he, hs => by
    apply S_code_cursor_task_2
    unfold B_code_cursor_task_2
    refine mIf_pos (by simp; omega) ?_
    refine mIdx_of (by omega) (by omega) ?_
    rw [Int.toNat_natCast, Nat.mul_one, add_mk, Nat.zero_add]
    obtain ⟨b, hr, hc, hs'⟩ := hs
    refine hs'.ldP 1 rfl (n := some ⟨t, k, none⟩) (by unfold ptrs; rw [List.getElem?_map, List.getElem?_range (by omega)]; rfl) ?_
    rw [mBind_ap]
    refine (number_s ⟨b, hr, hc, hs'⟩).mono ?_
    rintro v h ⟨rfl, b, hr, hc, hs⟩
    simp only [unI_int, mNil_some]
    refine hs.st 2 rfl (by rw [List.getElem?_append_left (by simp; omega)]; simp; omega) rfl fun h hs => ?_
    simp only [List.set_cons_succ, List.set_cons_zero] at hs
    rw [← hx, pad_set] at hs
    rw [wrapS k (by omega)]
    refine ctask2 next d (k + 1) (xs ++ [(cNum s).1]) (cNum s).2 h (by omega) (by simp; omega) ?_ ⟨b, hr, hc, hs⟩
    rw [← he]
    simp [cNums]
theorem ctask_cur (hl : s.1.length ≤ 1000000) (hs : CurAt h0 r s h L) : N_code_cursor_task (some ⟨r, 0, none⟩) h (fun v h' => ∃ o : Sl, v = .agg (tskC (cTask s).1 o).toArray ∧ CurAt h0 r (cTask s).2 h' (aRow encO 3 o (cTask s).1.ops :: L)) := by
  obtain ⟨b, hr, hc, hs⟩ := hs
  apply S_code_cursor_task
  unfold B_code_cursor_task
  refine Sep.new hs fun t h hs => ?_
  refine Sep.new hs fun p h hs => ?_
  simp only [List.toList_toArray, add_mk, Nat.zero_add] at hs ⊢
  have hs : Sep h0 h (aBlk p (ptrs t 6) :: aBlk t (([] ++ List.replicate 6 (0 : Int)).map (Value.int .i64 ·) ++ [Value.slice none 0 0]) :: aBlk r [.slice b.p b.n b.c, .bool s.2] :: L) := hs
  refine ctask2 (s0 := s) (tl := [Value.slice none 0 0]) (fun h hs => ?_) 6 0 [] s h rfl rfl (by simp) ⟨b, hr, hc, hs.reT 3 [2, 0, 1] rfl (by simp)⟩
  rw [mBind_ap]
  refine (many_s hs).mono ?_
  rintro v h ⟨rfl, b, hr, hc, hs⟩
  simp only [unI_int]
  obtain ⟨l1, l2, _⟩ := nums_len 6 s
  obtain ⟨m1, m2⟩ := many_rng (cNums 6 s).2
  have e : (cMany (cNums 6 s).2).1 = (((cMany (cNums 6 s).2).1.toNat : Nat) : Int) := by omega
  rw [e]
  rw [six l2] at hs
  have := ctask7 (L := L) (t := t) (T := ⟨(cNums 6 s).1.getD 0 0, (cNums 6 s).1.getD 1 0, (cNums 6 s).1.getD 2 0, (cNums 6 s).1.getD 3 0, (cNums 6 s).1.getD 4 0, (cNums 6 s).1.getD 5 0, (cTask s).1.ops⟩) (cMany (cNums 6 s).2).1.toNat 0 (cMany (cNums 6 s).2).1.toNat [] (cMany (cNums 6 s).2).2 ⟨none, 0, 0⟩ h (Nat.zero_add _) (by omega) (by simp; omega) ⟨b, hr, hc, ((hs.nilRow encO 3).reT 3 [1, 2, 0] rfl (by simp))⟩
  refine this.mono ?_
  rintro v h ⟨o, rfl, hs⟩
  refine ⟨o, rfl, ?_⟩
  rw [List.nil_append] at hs
  exact hs
end
end Go.Proofs.Ytimpaammdmeocaa
