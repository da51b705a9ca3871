/- Configurations: what may be, by the program and by the plain text. Conditions: none. -/
import Derived.Test.YtimpaammdmeocaaCfgT
import Derived.Test.YtimpaammdmeocaaSbW
namespace Go.Proofs.Ytimpaammdmeocaa
open Go Go.Sb
set_option linter.unusedSimpArgs false
set_option linter.unusedVariables false
set_option linter.unusedVariables false
section
variable {h0 h : Hp} {R L : List As} {C : PCfg} {sm sc se st sl : Sl} {ts : List (PTask × Sl)}
theorem crd_map_take (hc : CRd h0 C sm sc se st sl ts) (k : Nat) : (ts.take k).map (·.1) = C.tasks.take k := by rw [← hc.tasks, List.map_take]
theorem crd_drop (hc : CRd h0 C sm sc se st sl ts) {k : Nat} (hk : k < ts.length) : C.tasks.drop k = (ts[k]'hk).1 :: C.tasks.drop (k + 1) := by
  rw [← hc.tasks, List.drop_eq_getElem_cons (by simpa using hk), List.getElem_map]
theorem pCheck13 (hc : CRd h0 C sm sc se st sl ts) (hl : ts.length ≤ 8) (hcl : C.ceils.length ≤ 4) {c : Nat} : ∀ (d k : Nat) (h : Hp), k + d = ts.length → Sep h0 h (aBlk c (cfgC C sm sc se st sl) :: R) →
    K_conf_Check_13 ⟨c, 0, none⟩ st (st.n : Int) (k : Int) h (fun v h' => v = .int .i64 (tasksE C k (C.tasks.drop k)) ∧ Sep h0 h' R)
  | 0, k, h, hk, hs => by
    have hn := hc.rows.n
    apply S_conf_Check_13
    unfold B_conf_Check_13
    refine mIf_neg (by simp; omega) ?_
    rw [List.drop_of_length_le (by have := hc.len; omega)]
    exact ⟨rfl, hs.drop⟩
  | d + 1, k, h, hk, hs => by
    have ih := pCheck13 hc hl hcl (c := c) d (k + 1)
    have hn := hc.rows.n
    have hkl : k < ts.length := by omega
    obtain ⟨n1, n2, n3, n4, n5, n6⟩ := hc.len
    have hops := hc.ops _ (List.getElem_mem hkl)
    have hw := wrapS k (by omega)
    rw [crd_drop hc hkl]
    apply S_conf_Check_13
    unfold B_conf_Check_13
    refine mIf_pos (by simp; omega) ?_
    refine hc.rows.ix hs hkl fun a ha => ?_
    generalize ts[k] = p at ha hops ⊢
    have fin : ∀ h x (z : Sl), RdE h0.size h0 encT 7 z (ts.take k) → Sep h0 h (aBlk x (tskC p.1 p.2) :: aBlk c (cfgC C sm sc se st sl) :: R) →
        N_conf_task C.sets C.ways C.hit C.miss sm C.groups sc se st sl p.1.pr p.1.th p.1.pe p.1.de p.1.fr p.1.fl p.2 z h (fun v h' => v = .int .i64 (taskE C p.1 (C.tasks.take k)) ∧ Sep h0 h' (aBlk c (cfgC C sm sc se st sl) :: R)) := by
      intro h x z hz hs
      have := ctask_s (C := C) (t := p.1) (o := p.2) (st := st) (sl := sl) hc.ceils (by omega) hops.1 hz (by simp; omega) n1 n2 n3 hs
      rw [crd_map_take hc k] at this
      exact this.mono fun v h ⟨e, hs⟩ => ⟨e, hs.drop⟩
    have last : ∀ h, Sep h0 h (aBlk c (cfgC C sm sc se st sl) :: R) → (mIf (taskE C p.1 (C.tasks.take k) != 0) (mRet (.int .i64 (taskE C p.1 (C.tasks.take k))) : M Value) (K_conf_Check_13 ⟨c, 0, none⟩ st (st.n : Int) (IntKind.i64.wrap ((k : Int) + 1)))) h (fun v h' => v = .int .i64 (tasksE C k (p.1 :: C.tasks.drop (k + 1))) ∧ Sep h0 h' R) := by
      intro h hs
      unfold tasksE
      refine mIf_intro (fun h1 => ?_) (fun h1 => ?_)
      · rw [if_pos (by simpa using h1)]
        exact ⟨rfl, hs.drop⟩
      · rw [if_neg (by simpa using h1), hw]
        exact ih h (by omega) hs
    (refine Arg.ldI0 ha rfl ?_; refine Arg.ldI ha rfl ?_; refine Arg.ldI ha rfl ?_; refine Arg.ldI ha rfl ?_; refine Arg.ldI ha rfl ?_; refine Arg.ldI ha rfl ?_; refine Arg.ldL ha rfl ?_; (refine Sep.new hs fun nb h hs => ?_; try simp only [List.toList_toArray] at hs); (refine Sep.st hs 0 rfl rfl rfl fun h hs => ?_; simp only [List.set_cons_zero, List.set_cons_succ] at hs); (refine Sep.st hs 0 rfl rfl rfl fun h hs => ?_; simp only [List.set_cons_zero, List.set_cons_succ] at hs); (refine Sep.st hs 0 rfl rfl rfl fun h hs => ?_; simp only [List.set_cons_zero, List.set_cons_succ] at hs); (refine Sep.st hs 0 rfl rfl rfl fun h hs => ?_; simp only [List.set_cons_zero, List.set_cons_succ] at hs); (refine Sep.st hs 0 rfl rfl rfl fun h hs => ?_; simp only [List.set_cons_zero, List.set_cons_succ] at hs); (refine Sep.st hs 0 rfl rfl rfl fun h hs => ?_; simp only [List.set_cons_zero, List.set_cons_succ] at hs); (refine Sep.st hs 0 rfl rfl rfl fun h hs => ?_; simp only [List.set_cons_zero, List.set_cons_succ] at hs); simp only [add_mk, Nat.zero_add])
    repeat' (first | with_reducible refine mAnd_intro ?_ ?_ | (first | (((with_reducible refine gd_mLdI ?_); refine Sep.ldI hs 1 rfl rfl ?_)) | (((with_reducible refine gd_mLdL ?_); refine Sep.ldL hs 1 rfl rfl ?_)) | (((with_reducible refine gd_mLdI ?_); refine Sep.ldI hs 0 rfl rfl ?_)) | (((with_reducible refine gd_mLdL ?_); refine Sep.ldL hs 0 rfl rfl ?_)) | ((simp only [mBind_ap])) | ((simp only [unI_int]))) | (with_reducible refine hc.rows.pre hc.cap (by omega) (by omega) rfl fun z hz hzc => ?_; rw [Int.toNat_natCast] at hz) | (refine (fin _ _ _ hz hs).mono ?_; rintro v h ⟨rfl, hs⟩))
    all_goals exact last h hs
theorem maxN (a b c d : Int) : decide ((if d > (if c > (if b > a then b else a) then c else (if b > a then b else a)) then d else (if c > (if b > a then b else a) then c else (if b > a then b else a))) > 4) = (decide (a > 4) || decide (b > 4) || decide (c > 4) || decide (d > 4)) := by
  rw [Bool.eq_iff_iff]
  simp only [Bool.or_eq_true, decide_eq_true_eq]
  repeat' split
  all_goals omega
theorem pConf_s (hc : CRd h0 C sm sc se st sl ts) (hs : Sep h0 h R) : N_conf_Check C.sets C.ways C.hit C.miss sm C.groups sc se st sl h (fun v h' => v = .int .i64 (checkN C) ∧ Sep h0 h' R) := by
  obtain ⟨n1, n2, n3, n4, n5, n6⟩ := hc.len
  apply S_conf_Check
  unfold B_conf_Check
  refine Sep.new hs fun c h hs => ?_
  simp only [List.toList_toArray] at hs
  have hs : Sep h0 h (aBlk c (cfgC C sm sc se st sl) :: R) := hs
  (refine Sep.ldL hs 0 rfl rfl ?_; refine Sep.ldI hs 0 rfl rfl ?_; refine Sep.ldL hs 0 rfl rfl ?_; refine Sep.ldL hs 0 rfl rfl ?_; refine Sep.ldI hs 0 rfl rfl ?_; refine Sep.ldI hs 0 rfl rfl ?_; refine Sep.ldI hs 0 rfl rfl ?_; refine Sep.ldI hs 0 rfl rfl ?_; simp only [add_mk, Nat.zero_add, mBind_ap])
  refine (machine_s C hs).mono ?_
  rintro v h ⟨rfl, hs⟩
  unfold checkN
  cases h1 : machB C
  · (simp only [Bool.not_false, unB_bool, mIf_true])
    exact ⟨rfl, hs.drop⟩
  (simp only [Bool.not_true, unB_bool, mIf_false, mBind_ap])
  rw [maxN]
  simp only [Bool.not_true, Bool.false_eq_true, if_false]
  have hmb : manyB C = (((decide ((sm.n : Int) > 4) || decide (C.groups > 4) || decide ((sc.n : Int) > 4) || decide ((se.n : Int) > 4)) || decide ((st.n : Int) > 8)) || decide ((sl.n : Int) > 8)) := by
    unfold manyB
    rw [n1, n2, n3, n4, n5, Bool.eq_iff_iff]
    simp only [Bool.or_eq_true, decide_eq_true_eq]
    omega
  have many : manyB C = true → ∀ h, Sep h0 h (aBlk c (cfgC C sm sc se st sl) :: R) → (mRet (.int .i64 4) : M Value) h (fun v h' => v = .int .i64 (if manyB C = true then 4 else if C.tasks.length = 0 ∨ C.groups < 0 then 1 else if (!rowsB C) = true then 5 else tasksE C 0 C.tasks) ∧ Sep h0 h' R) := by
    intro e h hs
    rw [e]
    exact ⟨rfl, hs.drop⟩
  generalize h2 : (decide ((sm.n : Int) > 4) || decide (C.groups > 4) || decide ((sc.n : Int) > 4) || decide ((se.n : Int) > 4)) = b2 at hmb ⊢
  cases b2
  rotate_left
  · (simp only [mIf_true]; rw [mRet_ap]; simp only [mIf_true]; rw [mRet_ap]; simp only [mIf_true])
    exact many hmb h hs
  (simp only [mIf_false]; refine Sep.ldL hs 0 rfl rfl ?_; rw [mRet_ap])
  generalize h3 : decide ((st.n : Int) > 8) = b3 at hmb ⊢
  cases b3
  rotate_left
  · (simp only [mIf_true]; rw [mRet_ap]; simp only [mIf_true])
    exact many hmb h hs
  (simp only [mIf_false]; refine Sep.ldL hs 0 rfl rfl ?_; rw [mRet_ap])
  generalize h4 : decide ((sl.n : Int) > 8) = b4 at hmb ⊢
  cases b4
  rotate_left
  · (simp only [mIf_true])
    exact many hmb h hs
  (simp only [mIf_false]; refine Sep.ldL hs 0 rfl rfl ?_; simp only [mBind_ap])
  have hmf : manyB C = false := hmb
  rw [hmf]
  simp only [Bool.false_eq_true, if_false]
  simp only [Bool.or_eq_false_iff, decide_eq_false_iff_not] at h2 h3 h4
  have argb : ∀ h, (C.tasks.length = 0 ∨ C.groups < 0) → Sep h0 h (aBlk c (cfgC C sm sc se st sl) :: R) → (mRet (.int .i64 1) : M Value) h (fun v h' => v = .int .i64 (if C.tasks.length = 0 ∨ C.groups < 0 then 1 else if (!rowsB C) = true then 5 else tasksE C 0 C.tasks) ∧ Sep h0 h' R) := by
    intro h e hs
    rw [if_pos e]
    exact ⟨rfl, hs.drop⟩
  refine mIf_intro (fun h5 => ?_) (fun h5 => ?_)
  · (rw [mRet_ap]; simp only [mIf_true])
    exact argb h (.inl (by have := eqT h5; omega)) hs
  have h5 := eqF h5
  (refine Sep.ldI hs 0 rfl rfl ?_; rw [mRet_ap])
  refine mIf_intro (fun h6 => ?_) (fun h6 => ?_)
  · exact argb h (.inr (by simpa using h6)) hs
  have h6 : ¬ C.groups < 0 := by simpa using h6
  rw [if_neg (by omega)]
  have row5 : rowsB C = false → ∀ h, Sep h0 h (aBlk c (cfgC C sm sc se st sl) :: R) → (mRet (.int .i64 5) : M Value) h (fun v h' => v = .int .i64 (if (!rowsB C) = true then 5 else tasksE C 0 C.tasks) ∧ Sep h0 h' R) := by
    intro e h hs
    rw [e]
    exact ⟨rfl, hs.drop⟩
  (refine Sep.ldL hs 0 rfl rfl ?_; simp only [mBind_ap])
  refine (within_s 1 8 hc.mail.toE (by omega) hs).mono ?_
  rintro v h ⟨rfl, hs⟩
  cases g1 : allB C.mail 1 8
  · (simp only [unB_bool, Bool.not_false, mIf_true, mBind_ap]; rw [mRet_ap]; simp only [mIf_true])
    exact row5 (by simp [rowsB, g1]) h hs
  (simp only [unB_bool, Bool.not_true, mIf_false, mBind_ap]; refine Sep.ldL hs 0 rfl rfl ?_; simp only [mBind_ap])
  refine (within_s 1 8 hc.counts.toE (by omega) hs).mono ?_
  rintro v h ⟨rfl, hs⟩
  cases g2 : allB C.counts 1 8
  · (simp only [unB_bool, Bool.not_false]; rw [mRet_ap]; simp only [mIf_true])
    exact row5 (by simp [rowsB, g2]) h hs
  (simp only [unB_bool, Bool.not_true]; rw [mRet_ap]; simp only [mIf_false]; refine Sep.ldL hs 0 rfl rfl ?_; simp only [mBind_ap])
  refine (within_s 0 63 hc.ceils.toE (by omega) hs).mono ?_
  rintro v h ⟨rfl, hs⟩
  cases g3 : allB C.ceils 0 63
  · (simp only [unB_bool, Bool.not_false, mIf_true, mBind_ap]; rw [mRet_ap]; simp only [mIf_true])
    exact row5 (by simp [rowsB, g3]) h hs
  (simp only [unB_bool, Bool.not_true, mIf_false, mBind_ap]; refine Sep.ldL hs 0 rfl rfl ?_; refine Sep.ldL hs 0 rfl rfl ?_; simp only [mBind_ap])
  refine (within_s 0 _ hc.lines.toE (by omega) hs).mono ?_
  rintro v h ⟨rfl, hs⟩
  rw [wrap64 _ (by omega), n5]
  cases g4 : allB C.lines 0 ((C.tasks.length : Int) - 1)
  · (simp only [unB_bool, Bool.not_false]; rw [mRet_ap]; simp only [mIf_true])
    exact row5 (by simp [rowsB, g4]) h hs
  (simp only [unB_bool, Bool.not_true]; rw [mRet_ap]; simp only [mIf_false]; refine Sep.ldL hs 0 rfl rfl ?_)
  have hr : rowsB C = true := by simp [rowsB, g1, g2, g3, g4]
  rw [hr, if_neg (by decide)]
  have := pCheck13 hc (by omega) (by omega) ts.length 0 h (Nat.zero_add _) hs
  rw [List.drop_zero] at this
  exact this
end
end Go.Proofs.Ytimpaammdmeocaa
