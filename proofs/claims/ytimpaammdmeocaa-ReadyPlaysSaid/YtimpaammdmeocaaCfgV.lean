/- Configurations: what may be, by the plain text. Conditions: none. -/
import Derived.Test.YtimpaammdmeocaaCfgU
import Derived.Test.YtimpaammdmeocaaSbW
namespace Go.Proofs.Ytimpaammdmeocaa
open Go Go.Sb
set_option linter.unusedSimpArgs false
set_option linter.unusedVariables false
set_option linter.unusedVariables false
section
variable {h0 h : Hp} {R L : List As} {C : PCfg} {sm sc se st sl : Sl} {ts : List (PTask × Sl)}
theorem in7_s (n a b : Int) : N_signalboxref07_in n a b h (fun v h' => v = .bool (inB n a b) ∧ h' = h) := by
  apply S_signalboxref07_in
  unfold B_signalboxref07_in
  exact ⟨rfl, rfl⟩
theorem all2 {s : Sl} {xs : List Int} (a b : Int) (hr : RdI h0.size h0 .i64 s xs) (hl : xs.length ≤ 1000) (hs : Sep h0 h L) : ∀ (d j : Nat), j + d = xs.length → (xs.take j).all (fun n => inB n a b) = true →
    K_signalboxref07_all_2 a b s (s.n : Int) (j : Int) h (fun v h' => v = .bool (allB xs a b) ∧ h' = h)
  | 0, j, hj, hc => by
    have hn := hr.n
    rw [List.take_of_length_le (by omega)] at hc
    apply S_signalboxref07_all_2
    unfold B_signalboxref07_all_2
    refine mIf_neg (by simp; omega) ?_
    exact ⟨by unfold allB; rw [hc], rfl⟩
  | d + 1, j, hj, hc => by
    have ih := all2 a b hr hl hs d (j + 1)
    have hn := hr.n
    have hjl : j < xs.length := by omega
    apply S_signalboxref07_all_2
    unfold B_signalboxref07_all_2
    refine mIf_pos (by simp; omega) ?_
    refine hs.argIn hr hjl ?_
    rw [mBind_ap]
    refine (in7_s _ _ _).mono ?_
    rintro v h ⟨rfl, rfl⟩
    simp only [unB_bool]
    refine mIf_intro (fun h1 => ?_) (fun h1 => ?_)
    · refine ⟨?_, rfl⟩
      congr 1
      symm
      unfold allB
      rw [List.all_eq_false]
      exact ⟨_, List.getElem_mem hjl, by simpa using h1⟩
    · rw [wrapS j (by omega)]
      refine ih (by omega) ?_
      rw [List.take_succ_eq_append_getElem hjl, List.all_append, hc]
      simpa using h1
theorem all_s {s : Sl} {xs : List Int} (a b : Int) (hr : RdI h0.size h0 .i64 s xs) (hl : xs.length ≤ 1000) (hs : Sep h0 h L) : N_signalboxref07_all s a b h (fun v h' => v = .bool (allB xs a b) ∧ h' = h) := by
  apply S_signalboxref07_all
  unfold B_signalboxref07_all
  exact all2 a b hr hl hs xs.length 0 (Nat.zero_add _) rfl
theorem rtask13 (hc : CRd h0 C sm sc se st sl ts) {t : PTask} {o : Sl} {c3 t5 i : Nat} (hi : i ≤ ts.length) (hl : ts.length ≤ 8) : ∀ (d k : Nat) (h : Hp), k + d = i → ((ts.take k).map (·.1)).any (fun x => x.pr == t.pr) = false → Sep h0 h (aBlk t5 (tskC t o) :: aBlk c3 (cfgC C sm sc se st sl) :: R) →
    K_signalboxref07_task_13 (i : Int) ⟨c3, 0, none⟩ ⟨t5, 0, none⟩ (k : Int) h (fun v h' => v = .int .i64 (if ((ts.take i).map (·.1)).any (fun x => x.pr == t.pr) then 10 else 0) ∧ Sep h0 h' R)
  | 0, k, h, hk, hno, hs => by
    obtain rfl : k = i := by omega
    apply S_signalboxref07_task_13
    unfold B_signalboxref07_task_13
    refine mIf_neg (by simp) ?_
    rw [hno]
    exact ⟨rfl, hs.drop.drop⟩
  | d + 1, k, h, hk, hno, hs => by
    have ih := rtask13 hc (t := t) (o := o) (c3 := c3) (t5 := t5) hi hl d (k + 1)
    have hkl : k < ts.length := by omega
    have hrw := hc.rows
    apply S_signalboxref07_task_13
    unfold B_signalboxref07_task_13
    refine mIf_pos (by simp; omega) ?_
    (refine Sep.ldL hs 1 rfl rfl ?_; refine Sep.argEn hs hrw (by first | omega | (simp only [List.length_set, List.length_map, List.length_replicate, List.length_append, List.length_cons, List.length_nil, List.length_reverse, List.length_range]; omega) | (simp; omega)) fun aa haa => ?_; refine Arg.ldI0 haa rfl ?_; refine Sep.ldI hs 0 rfl rfl ?_; simp only)
    refine mIf_intro (fun h1 => ?_) (fun h1 => ?_)
    · have : ((ts.take i).map (·.1)).any (fun x => x.pr == t.pr) = true := by
        refine List.any_eq_true.2 ⟨(ts[k]'hkl).1, List.mem_map.2 ⟨_, ?_, rfl⟩, h1⟩
        rw [List.mem_take_iff_getElem]
        exact ⟨k, by omega, rfl⟩
      rw [this]
      exact ⟨rfl, hs.drop.drop⟩
    · rw [wrapS k (by omega)]
      refine ih h (by omega) ?_ hs
      rw [List.take_succ_eq_append_getElem hkl, List.map_append, List.any_append, hno]
      simpa using h1
theorem rtask7 (hc : CRd h0 C sm sc se st sl ts) {t : PTask} {o : Sl} {c3 t5 i : Nat} (hi : i ≤ ts.length) (hl : ts.length ≤ 8) (hcl : C.ceils.length ≤ 1000) (hop : RdE h0.size h0 encO 3 o t.ops) (hpe : progE t.ops C.mail.length C.groups C.counts.length C.ceils.length = 0) : ∀ (d k : Nat) (h : Hp), k + d = t.ops.length → (t.ops.take k).any (lowB C t) = false → Sep h0 h (aBlk t5 (tskC t o) :: aBlk c3 (cfgC C sm sc se st sl) :: R) →
    K_signalboxref07_task_7 (i : Int) ⟨c3, 0, none⟩ ⟨t5, 0, none⟩ o (o.n : Int) (k : Int) h (fun v h' => v = .int .i64 (if t.ops.any (lowB C t) then 9 else if ((ts.take i).map (·.1)).any (fun x => x.pr == t.pr) then 10 else 0) ∧ Sep h0 h' R)
  | 0, k, h, hk, hno, hs => by
    have hn := hop.n
    rw [List.take_of_length_le (by omega)] at hno
    apply S_signalboxref07_task_7
    unfold B_signalboxref07_task_7
    refine mIf_neg (by simp; omega) ?_
    rw [hno]
    exact rtask13 hc hi hl i 0 h (Nat.zero_add _) rfl hs
  | d + 1, k, h, hk, hno, hs => by
    have ih := rtask7 hc (t := t) (o := o) (c3 := c3) (t5 := t5) hi hl hcl hop hpe d (k + 1)
    have hn := hop.n
    obtain ⟨hl64, hall⟩ := progE_ok hpe
    have hkl : k < t.ops.length := by omega
    have hq := hall _ (List.getElem_mem hkl)
    have hnx := any_next (p := lowB C t) hkl hno
    have hhr := any_here (p := lowB C t) hkl
    apply S_signalboxref07_task_7
    unfold B_signalboxref07_task_7
    refine mIf_pos (by simp; omega) ?_
    refine hop.ix hs hkl fun a ha => ?_
    generalize t.ops[k] = q at ha hq hnx hhr ⊢
    (refine Arg.ldI0 ha rfl ?_; refine Arg.ldI ha rfl ?_; refine Arg.ldI ha rfl ?_; (refine Sep.new hs fun nb h hs => ?_; try simp only [List.toList_toArray] at hs); (refine Sep.st hs 0 rfl rfl rfl fun h hs => ?_; simp only [List.set_cons_zero, List.set_cons_succ] at hs); (refine Sep.st hs 0 rfl rfl rfl fun h hs => ?_; simp only [List.set_cons_zero, List.set_cons_succ] at hs); (refine Sep.st hs 0 rfl rfl rfl fun h hs => ?_; simp only [List.set_cons_zero, List.set_cons_succ] at hs); refine Sep.ldI hs 0 rfl rfl ?_; simp only [add_mk, Nat.zero_add, mBind_ap])
    refine mIf_intro (fun h5 => ?_) (fun h5 => ?_)
    · have h5' := eqT h5
      have hin := lock_in hcl hq h5'
      (refine Sep.ldL hs 2 rfl rfl ?_; refine Sep.ldI hs 0 rfl rfl ?_)
      have e1 : (q.a : Int) = ((q.a.toNat : Nat) : Int) := by omega
      rw [e1]
      refine hs.argIn hc.ceils (j := q.a.toNat) (by omega) ?_
      (refine Sep.ldI hs 1 rfl rfl ?_; rw [mRet_ap]; simp only)
      have e2 : lowB C t q = decide (C.ceils[q.a.toNat]'(by omega) < t.pr) := by
        unfold lowB
        rw [h5, Bool.true_and, List.getD_eq_getElem?_getD, List.getElem?_eq_getElem (by omega)]
        rfl
      refine mIf_intro (fun h1 => ?_) (fun h1 => ?_)
      · rw [hhr (e2.trans h1)]
        exact ⟨rfl, hs.drop.drop.drop⟩
      · rw [wrapS k (by omega)]
        exact ih h (by omega) (hnx (e2.trans h1)) hs.drop
    · (rw [mRet_ap]; simp only [mIf_false])
      rw [wrapS k (by omega)]
      refine ih h (by omega) (hnx ?_) hs.drop
      unfold lowB
      rw [h5]; rfl
theorem rtask_s (hc : CRd h0 C sm sc se st sl ts) {t : PTask} {o : Sl} {i : Nat} (hi : i ≤ ts.length) (hl : ts.length ≤ 8) (hcl : C.ceils.length ≤ 1000) (hop : RdE h0.size h0 encO 3 o t.ops) (hoc : o.n ≤ o.c) (hs : Sep h0 h R) :
    N_signalboxref07_task C.sets C.ways C.hit C.miss sm C.groups sc se st sl (i : Int) t.pr t.th t.pe t.de t.fr t.fl o h (fun v h' => v = .int .i64 (taskE C t (C.tasks.take i)) ∧ Sep h0 h' R) := by
  obtain ⟨n1, n2, n3, n4, n5, n6⟩ := hc.len
  rw [← crd_map_take hc i]
  apply S_signalboxref07_task
  unfold B_signalboxref07_task
  refine Sep.new hs fun c3 h hs => ?_
  refine Sep.new hs fun t5 h hs => ?_
  simp only [List.toList_toArray] at hs
  have bad : taskN t = false → ∀ h, Sep h0 h (aBlk t5 (tskC t o) :: aBlk c3 (cfgC C sm sc se st sl) :: R) → (mRet (.int .i64 5) : M Value) h (fun v h' => v = .int .i64 (taskE C t ((ts.take i).map (·.1))) ∧ Sep h0 h' R) := by
    intro hv h hs
    have : taskE C t ((ts.take i).map (·.1)) = 5 := by unfold taskE; rw [hv]; rfl
    rw [this]
    exact ⟨rfl, hs.drop.drop⟩
  (refine Sep.ldI hs 0 rfl rfl ?_; simp only [add_mk, Nat.zero_add, mBind_ap])
  refine (in7_s _ _ _).mono ?_
  rintro v h ⟨rfl, rfl⟩
  cases h1 : inB t.pr 0 63
  · (simp only [unB_bool, Bool.not_false, mIf_true, mBind_ap]; rw [mRet_ap]; simp only [mIf_true]; rw [mRet_ap]; simp only [mIf_true]; rw [mRet_ap]; simp only [mIf_true]; rw [mRet_ap]; simp only [mIf_true]; rw [mRet_ap]; simp only [mIf_true])
    exact bad (by simp [taskN, h1]) h hs
  (simp only [unB_bool, Bool.not_true, mIf_false, mBind_ap]; refine Sep.ldI hs 0 rfl rfl ?_; refine Sep.ldI hs 0 rfl rfl ?_; simp only [mBind_ap])
  refine (in7_s _ _ _).mono ?_
  rintro v h ⟨rfl, rfl⟩
  cases h2 : inB t.th t.pr 63
  · (simp only [unB_bool, Bool.not_false]; rw [mRet_ap]; simp only [mIf_true]; rw [mRet_ap]; simp only [mIf_true]; rw [mRet_ap]; simp only [mIf_true]; rw [mRet_ap]; simp only [mIf_true]; rw [mRet_ap]; simp only [mIf_true])
    exact bad (by simp [taskN, h1, h2]) h hs
  (simp only [unB_bool, Bool.not_true]; rw [mRet_ap]; simp only [mIf_false]; refine Sep.ldI hs 0 rfl rfl ?_; simp only [mBind_ap])
  refine (in7_s _ _ _).mono ?_
  rintro v h ⟨rfl, rfl⟩
  cases h3 : inB t.pe 1 1048576
  · (simp only [unB_bool, Bool.not_false]; rw [mRet_ap]; simp only [mIf_true]; rw [mRet_ap]; simp only [mIf_true]; rw [mRet_ap]; simp only [mIf_true]; rw [mRet_ap]; simp only [mIf_true])
    exact bad (by simp [taskN, h1, h2, h3]) h hs
  (simp only [unB_bool, Bool.not_true]; rw [mRet_ap]; simp only [mIf_false]; refine Sep.ldI hs 0 rfl rfl ?_; refine Sep.ldI hs 0 rfl rfl ?_; simp only [mBind_ap])
  refine (in7_s _ _ _).mono ?_
  rintro v h ⟨rfl, rfl⟩
  cases h4 : inB t.de 1 t.pe
  · (simp only [unB_bool, Bool.not_false]; rw [mRet_ap]; simp only [mIf_true]; rw [mRet_ap]; simp only [mIf_true]; rw [mRet_ap]; simp only [mIf_true])
    exact bad (by simp [taskN, h1, h2, h3, h4]) h hs
  (simp only [unB_bool, Bool.not_true]; rw [mRet_ap]; simp only [mIf_false]; refine Sep.ldI hs 0 rfl rfl ?_; simp only [mBind_ap])
  refine (in7_s _ _ _).mono ?_
  rintro v h ⟨rfl, rfl⟩
  cases h5 : inB t.fr 0 4096
  · (simp only [unB_bool, Bool.not_false]; rw [mRet_ap]; simp only [mIf_true]; rw [mRet_ap]; simp only [mIf_true])
    exact bad (by simp [taskN, h1, h2, h3, h4, h5]) h hs
  (simp only [unB_bool, Bool.not_true]; rw [mRet_ap]; simp only [mIf_false]; refine Sep.ldI hs 0 rfl rfl ?_; simp only [mBind_ap])
  refine (in7_s _ _ _).mono ?_
  rintro v h ⟨rfl, rfl⟩
  cases h6 : inB t.fl 0 1048576
  · (simp only [unB_bool, Bool.not_false]; rw [mRet_ap]; simp only [mIf_true])
    exact bad (by simp [taskN, h1, h2, h3, h4, h5, h6]) h hs
  (simp only [unB_bool, Bool.not_true]; rw [mRet_ap]; simp only [mIf_false]; refine Sep.ldL hs 0 rfl rfl ?_; refine Sep.ldL hs 1 rfl rfl ?_; refine Sep.ldI hs 1 rfl rfl ?_; refine Sep.ldL hs 1 rfl rfl ?_; refine Sep.ldL hs 1 rfl rfl ?_; simp only [mBind_ap])
  have hv : taskN t = true := by simp [taskN, h1, h2, h3, h4, h5, h6]
  refine (rCheck_s hop hoc _ _ _ _ hs).mono ?_
  rintro v h ⟨rfl, hs⟩
  rw [n1, n2, n3]
  unfold taskE
  rw [hv]
  simp only [Bool.not_true, Bool.false_eq_true, if_false, unI_int]
  refine mIf_intro (fun h1 => ?_) (fun h1 => ?_)
  · rw [if_pos (by simpa using h1)]
    exact ⟨rfl, hs.drop.drop⟩
  · have hz : progE t.ops C.mail.length C.groups C.counts.length C.ceils.length = 0 := by simpa using h1
    rw [if_neg (by simpa using h1)]
    (refine Sep.ldL hs 0 rfl rfl ?_)
    exact rtask7 hc hi hl hcl hop hz t.ops.length 0 h (Nat.zero_add _) rfl hs
theorem rCheck11 (hc : CRd h0 C sm sc se st sl ts) (hl : ts.length ≤ 8) (hcl : C.ceils.length ≤ 4) {c : Nat} : ∀ (d k : Nat) (h : Hp), k + d = ts.length → Sep h0 h (aBlk c (cfgC C sm sc se st sl) :: R) →
    K_signalboxref07_Check_11 ⟨c, 0, none⟩ st (st.n : Int) (k : Int) h (fun v h' => v = .int .i64 (tasksE C k (C.tasks.drop k)) ∧ Sep h0 h' R)
  | 0, k, h, hk, hs => by
    have hn := hc.rows.n
    apply S_signalboxref07_Check_11
    unfold B_signalboxref07_Check_11
    refine mIf_neg (by simp; omega) ?_
    rw [List.drop_of_length_le (by have := hc.len; omega)]
    exact ⟨rfl, hs.drop⟩
  | d + 1, k, h, hk, hs => by
    have ih := rCheck11 hc hl hcl (c := c) d (k + 1)
    have hn := hc.rows.n
    have hkl : k < ts.length := by omega
    have hops := hc.ops _ (List.getElem_mem hkl)
    have hw := wrapS k (by omega)
    rw [crd_drop hc hkl]
    apply S_signalboxref07_Check_11
    unfold B_signalboxref07_Check_11
    refine mIf_pos (by simp; omega) ?_
    refine hc.rows.ix hs hkl fun a ha => ?_
    generalize ts[k] = p at ha hops ⊢
    (refine Arg.ldI0 ha rfl ?_; refine Arg.ldI ha rfl ?_; refine Arg.ldI ha rfl ?_; refine Arg.ldI ha rfl ?_; refine Arg.ldI ha rfl ?_; refine Arg.ldI ha rfl ?_; refine Arg.ldL ha rfl ?_; (refine Sep.new hs fun nb h hs => ?_; try simp only [List.toList_toArray] at hs); (refine Sep.st hs 0 rfl rfl rfl fun h hs => ?_; simp only [List.set_cons_zero, List.set_cons_succ] at hs); (refine Sep.st hs 0 rfl rfl rfl fun h hs => ?_; simp only [List.set_cons_zero, List.set_cons_succ] at hs); (refine Sep.st hs 0 rfl rfl rfl fun h hs => ?_; simp only [List.set_cons_zero, List.set_cons_succ] at hs); (refine Sep.st hs 0 rfl rfl rfl fun h hs => ?_; simp only [List.set_cons_zero, List.set_cons_succ] at hs); (refine Sep.st hs 0 rfl rfl rfl fun h hs => ?_; simp only [List.set_cons_zero, List.set_cons_succ] at hs); (refine Sep.st hs 0 rfl rfl rfl fun h hs => ?_; simp only [List.set_cons_zero, List.set_cons_succ] at hs); (refine Sep.st hs 0 rfl rfl rfl fun h hs => ?_; simp only [List.set_cons_zero, List.set_cons_succ] at hs); refine Sep.ldI hs 1 rfl rfl ?_; refine Sep.ldI hs 1 rfl rfl ?_; refine Sep.ldI hs 1 rfl rfl ?_; refine Sep.ldI hs 1 rfl rfl ?_; refine Sep.ldL hs 1 rfl rfl ?_; refine Sep.ldI hs 1 rfl rfl ?_; refine Sep.ldL hs 1 rfl rfl ?_; refine Sep.ldL hs 1 rfl rfl ?_; refine Sep.ldL hs 1 rfl rfl ?_; refine Sep.ldL hs 1 rfl rfl ?_; refine Sep.ldI hs 0 rfl rfl ?_; refine Sep.ldI hs 0 rfl rfl ?_; refine Sep.ldI hs 0 rfl rfl ?_; refine Sep.ldI hs 0 rfl rfl ?_; refine Sep.ldI hs 0 rfl rfl ?_; refine Sep.ldI hs 0 rfl rfl ?_; refine Sep.ldL hs 0 rfl rfl ?_; simp only [mBind_ap])
    refine (rtask_s hc (t := p.1) (o := p.2) (i := k) (by omega) hl (by omega) hops.1 hops.2 hs).mono ?_
    rintro v h ⟨rfl, hs⟩
    simp only [unI_int]
    unfold tasksE
    refine mIf_intro (fun h1 => ?_) (fun h1 => ?_)
    · rw [if_pos (by simpa using h1)]
      exact ⟨rfl, hs.drop.drop⟩
    · rw [if_neg (by simpa using h1), hw]
      exact ih h (by omega) hs.drop
theorem rConf_s (hc : CRd h0 C sm sc se st sl ts) (hs : Sep h0 h R) : N_signalboxref07_Check C.sets C.ways C.hit C.miss sm C.groups sc se st sl h (fun v h' => v = .int .i64 (checkN C) ∧ Sep h0 h' R) := by
  obtain ⟨n1, n2, n3, n4, n5, n6⟩ := hc.len
  apply S_signalboxref07_Check
  unfold B_signalboxref07_Check
  refine Sep.new hs fun c h hs => ?_
  simp only [List.toList_toArray] at hs
  have hs : Sep h0 h (aBlk c (cfgC C sm sc se st sl) :: R) := hs
  have mach : machB C = false → ∀ h m, Sep h0 h (m :: aBlk c (cfgC C sm sc se st sl) :: R) → (mRet (.int .i64 5) : M Value) h (fun v h' => v = .int .i64 (checkN C) ∧ Sep h0 h' R) := by
    intro e h m hs
    have : checkN C = 5 := by unfold checkN; rw [e]; rfl
    rw [this]
    exact ⟨rfl, hs.drop.drop⟩
  (refine Sep.ldI hs 0 rfl rfl ?_; refine Sep.ldI hs 0 rfl rfl ?_; refine Sep.ldI hs 0 rfl rfl ?_; refine Sep.ldI hs 0 rfl rfl ?_; (refine Sep.new hs fun nb h hs => ?_; try simp only [List.toList_toArray] at hs); (refine Sep.st hs 0 rfl rfl rfl fun h hs => ?_; simp only [List.set_cons_zero, List.set_cons_succ] at hs); (refine Sep.st hs 0 rfl rfl rfl fun h hs => ?_; simp only [List.set_cons_zero, List.set_cons_succ] at hs); (refine Sep.st hs 0 rfl rfl rfl fun h hs => ?_; simp only [List.set_cons_zero, List.set_cons_succ] at hs); (refine Sep.st hs 0 rfl rfl rfl fun h hs => ?_; simp only [List.set_cons_zero, List.set_cons_succ] at hs); refine Sep.ldI hs 0 rfl rfl ?_; simp only [add_mk, Nat.zero_add, mBind_ap])
  refine (in7_s _ _ _).mono ?_
  rintro v h ⟨rfl, rfl⟩
  cases h1 : inB C.sets 1 16
  · (simp only [unB_bool, Bool.not_false, mIf_true, mBind_ap]; rw [mRet_ap]; simp only [mIf_true]; rw [mRet_ap]; simp only [mIf_true]; rw [mRet_ap]; simp only [mIf_true])
    exact mach (by simp [machB, h1]) h _ hs
  (simp only [unB_bool, Bool.not_true, mIf_false, mBind_ap]; refine Sep.ldI hs 0 rfl rfl ?_; simp only [mBind_ap])
  refine (in7_s _ _ _).mono ?_
  rintro v h ⟨rfl, rfl⟩
  cases h2 : inB C.ways 1 4
  · (simp only [unB_bool, Bool.not_false]; rw [mRet_ap]; simp only [mIf_true]; rw [mRet_ap]; simp only [mIf_true]; rw [mRet_ap]; simp only [mIf_true])
    exact mach (by simp [machB, h1, h2]) h _ hs
  (simp only [unB_bool, Bool.not_true]; rw [mRet_ap]; simp only [mIf_false]; refine Sep.ldI hs 0 rfl rfl ?_; simp only [mBind_ap])
  refine (in7_s _ _ _).mono ?_
  rintro v h ⟨rfl, rfl⟩
  cases h3 : inB C.hit 1 100
  · (simp only [unB_bool, Bool.not_false]; rw [mRet_ap]; simp only [mIf_true]; rw [mRet_ap]; simp only [mIf_true])
    exact mach (by simp [machB, h1, h2, h3]) h _ hs
  (simp only [unB_bool, Bool.not_true]; rw [mRet_ap]; simp only [mIf_false]; refine Sep.ldI hs 0 rfl rfl ?_; refine Sep.ldI hs 0 rfl rfl ?_; simp only [mBind_ap])
  refine (in7_s _ _ _).mono ?_
  rintro v h ⟨rfl, rfl⟩
  cases h4 : inB C.miss C.hit 100
  · (simp only [unB_bool, Bool.not_false]; rw [mRet_ap]; simp only [mIf_true])
    exact mach (by simp [machB, h1, h2, h3, h4]) h _ hs
  have hm : machB C = true := by simp [machB, h1, h2, h3, h4]
  (simp only [unB_bool, Bool.not_true]; rw [mRet_ap]; simp only [mIf_false]; refine Sep.ldL hs 1 rfl rfl ?_; simp only [mBind_ap])
  have hs : Sep h0 h (aBlk c (cfgC C sm sc se st sl) :: R) := hs.drop
  have e0 : checkN C = if manyB C then 4 else if C.tasks.length = 0 ∨ C.groups < 0 then 1 else if !rowsB C then 5 else tasksE C 0 C.tasks := by unfold checkN; rw [hm]; rfl
  rw [e0]
  clear e0
  have hmb : manyB C = (((((decide ((sm.n : Int) > 4) || decide (C.groups > 4)) || decide ((sc.n : Int) > 4)) || decide ((se.n : Int) > 4)) || decide ((st.n : Int) > 8)) || decide ((sl.n : Int) > 8)) := by
    unfold manyB
    rw [n1, n2, n3, n4, n5, Bool.eq_iff_iff]
    simp only [Bool.or_eq_true, decide_eq_true_eq]
    omega
  have many : manyB C = true → ∀ h, Sep h0 h (aBlk c (cfgC C sm sc se st sl) :: R) → (mRet (.int .i64 4) : M Value) h (fun v h' => v = .int .i64 (if manyB C = true then 4 else if C.tasks.length = 0 ∨ C.groups < 0 then 1 else if (!rowsB C) = true then 5 else tasksE C 0 C.tasks) ∧ Sep h0 h' R) := by
    intro e h hs
    rw [e]
    exact ⟨rfl, hs.drop⟩
  generalize g1 : decide ((sm.n : Int) > 4) = b1 at hmb ⊢
  cases b1
  rotate_left
  · (simp only [mIf_true]; rw [mRet_ap]; simp only [mIf_true]; rw [mRet_ap]; simp only [mIf_true]; rw [mRet_ap]; simp only [mIf_true]; rw [mRet_ap]; simp only [mIf_true]; rw [mRet_ap]; simp only [mIf_true])
    exact many hmb h hs
  (simp only [mIf_false]; refine Sep.ldI hs 0 rfl rfl ?_; rw [mRet_ap])
  generalize g2 : decide (C.groups > 4) = b2 at hmb ⊢
  cases b2
  rotate_left
  · (simp only [mIf_true]; rw [mRet_ap]; simp only [mIf_true]; rw [mRet_ap]; simp only [mIf_true]; rw [mRet_ap]; simp only [mIf_true]; rw [mRet_ap]; simp only [mIf_true])
    exact many hmb h hs
  (simp only [mIf_false]; refine Sep.ldL hs 0 rfl rfl ?_; rw [mRet_ap])
  generalize g3 : decide ((sc.n : Int) > 4) = b3 at hmb ⊢
  cases b3
  rotate_left
  · (simp only [mIf_true]; rw [mRet_ap]; simp only [mIf_true]; rw [mRet_ap]; simp only [mIf_true]; rw [mRet_ap]; simp only [mIf_true])
    exact many hmb h hs
  (simp only [mIf_false]; refine Sep.ldL hs 0 rfl rfl ?_; rw [mRet_ap])
  generalize g4 : decide ((se.n : Int) > 4) = b4 at hmb ⊢
  cases b4
  rotate_left
  · (simp only [mIf_true]; rw [mRet_ap]; simp only [mIf_true]; rw [mRet_ap]; simp only [mIf_true])
    exact many hmb h hs
  (simp only [mIf_false]; refine Sep.ldL hs 0 rfl rfl ?_; rw [mRet_ap])
  generalize g5 : decide ((st.n : Int) > 8) = b5 at hmb ⊢
  cases b5
  rotate_left
  · (simp only [mIf_true]; rw [mRet_ap]; simp only [mIf_true])
    exact many hmb h hs
  (simp only [mIf_false]; refine Sep.ldL hs 0 rfl rfl ?_; rw [mRet_ap])
  generalize g6 : decide ((sl.n : Int) > 8) = b6 at hmb ⊢
  cases b6
  rotate_left
  · (simp only [mIf_true])
    exact many hmb h hs
  (simp only [mIf_false]; refine Sep.ldL hs 0 rfl rfl ?_; simp only [mBind_ap])
  have hmf : manyB C = false := hmb
  rw [hmf]
  simp only [Bool.false_eq_true, if_false]
  simp only [decide_eq_false_iff_not] at g1 g2 g3 g4 g5 g6
  have argb : ∀ h, (C.tasks.length = 0 ∨ C.groups < 0) → Sep h0 h (aBlk c (cfgC C sm sc se st sl) :: R) → (mRet (.int .i64 1) : M Value) h (fun v h' => v = .int .i64 (if C.tasks.length = 0 ∨ C.groups < 0 then 1 else if (!rowsB C) = true then 5 else tasksE C 0 C.tasks) ∧ Sep h0 h' R) := by
    intro h e hs
    rw [if_pos e]
    exact ⟨rfl, hs.drop⟩
  refine mIf_intro (fun h5 => ?_) (fun h5 => ?_)
  · (rw [mRet_ap]; simp only [mIf_true])
    exact argb h (.inl (by have := eqT h5; omega)) hs
  have h5 := eqF h5
  (refine Sep.ldI hs 0 rfl rfl ?_; rw [mRet_ap])
  refine mIf_intro (fun h6 => ?_) (fun h6 => ?_)
  · exact argb h (.inr (by simpa using h6)) hs
  have h6 : ¬ C.groups < 0 := by simpa using h6
  rw [if_neg (by omega)]
  have row5 : rowsB C = false → ∀ h, Sep h0 h (aBlk c (cfgC C sm sc se st sl) :: R) → (mRet (.int .i64 5) : M Value) h (fun v h' => v = .int .i64 (if (!rowsB C) = true then 5 else tasksE C 0 C.tasks) ∧ Sep h0 h' R) := by
    intro e h hs
    rw [e]
    exact ⟨rfl, hs.drop⟩
  (refine Sep.ldL hs 0 rfl rfl ?_; simp only [mBind_ap])
  refine (all_s 1 8 hc.mail (by omega) hs).mono ?_
  rintro v h ⟨rfl, rfl⟩
  cases k1 : allB C.mail 1 8
  · (simp only [unB_bool, Bool.not_false, mIf_true, mBind_ap]; rw [mRet_ap]; simp only [mIf_true]; rw [mRet_ap]; simp only [mIf_true]; rw [mRet_ap]; simp only [mIf_true])
    exact row5 (by simp [rowsB, k1]) h hs
  (simp only [unB_bool, Bool.not_true, mIf_false, mBind_ap]; refine Sep.ldL hs 0 rfl rfl ?_; simp only [mBind_ap])
  refine (all_s 1 8 hc.counts (by omega) hs).mono ?_
  rintro v h ⟨rfl, rfl⟩
  cases k2 : allB C.counts 1 8
  · (simp only [unB_bool, Bool.not_false]; rw [mRet_ap]; simp only [mIf_true]; rw [mRet_ap]; simp only [mIf_true]; rw [mRet_ap]; simp only [mIf_true])
    exact row5 (by simp [rowsB, k2]) h hs
  (simp only [unB_bool, Bool.not_true]; rw [mRet_ap]; simp only [mIf_false]; refine Sep.ldL hs 0 rfl rfl ?_; simp only [mBind_ap])
  refine (all_s 0 63 hc.ceils (by omega) hs).mono ?_
  rintro v h ⟨rfl, rfl⟩
  cases k3 : allB C.ceils 0 63
  · (simp only [unB_bool, Bool.not_false]; rw [mRet_ap]; simp only [mIf_true]; rw [mRet_ap]; simp only [mIf_true])
    exact row5 (by simp [rowsB, k3]) h hs
  (simp only [unB_bool, Bool.not_true]; rw [mRet_ap]; simp only [mIf_false]; refine Sep.ldL hs 0 rfl rfl ?_; refine Sep.ldL hs 0 rfl rfl ?_; simp only [mBind_ap])
  refine (all_s 0 _ hc.lines (by omega) hs).mono ?_
  rintro v h ⟨rfl, rfl⟩
  rw [wrap64 _ (by omega), n5]
  cases k4 : allB C.lines 0 ((C.tasks.length : Int) - 1)
  · (simp only [unB_bool, Bool.not_false]; rw [mRet_ap]; simp only [mIf_true])
    exact row5 (by simp [rowsB, k4]) h hs
  (simp only [unB_bool, Bool.not_true]; rw [mRet_ap]; simp only [mIf_false]; refine Sep.ldL hs 0 rfl rfl ?_)
  have hr : rowsB C = true := by simp [rowsB, k1, k2, k3, k4]
  rw [hr, if_neg (by decide)]
  have := rCheck11 hc (by omega) (by omega) ts.length 0 h (Nat.zero_add _) hs
  rw [List.drop_zero] at this
  exact this
end
end Go.Proofs.Ytimpaammdmeocaa
