/- Configurations: what may be, by the program: rows of numbers, the machine, a task. Conditions: none. -/
import Derived.Test.YtimpaammdmeocaaCfgS
import Derived.Test.YtimpaammdmeocaaSbW
namespace Go.Proofs.Ytimpaammdmeocaa
open Go Go.Sb
set_option linter.unusedSimpArgs false
set_option linter.unusedVariables false
set_option linter.unusedVariables false
section
variable {h0 h : Hp} {R L : List As}
/-! ### whether one of a row is so -/
theorem any_next {X : Type} {xs : List X} {p : X → Bool} {j : Nat} (hj : j < xs.length) (hc : (xs.take j).any p = false) (h1 : p (xs[j]'hj) = false) : (xs.take (j + 1)).any p = false := by
  rw [List.take_succ_eq_append_getElem hj, List.any_append, hc]; simp [h1]
theorem any_here {X : Type} {xs : List X} {p : X → Bool} {j : Nat} (hj : j < xs.length) (h1 : p (xs[j]'hj) = true) : xs.any p = true := List.any_eq_true.2 ⟨_, List.getElem_mem hj, h1⟩
theorem idxI2 {s : Sl} {xs : List Int} {p : Int → Bool} {g : Nat} {fv cp : Array Value} (hr : RdE h0.size h0 encI 1 s xs) (hl : xs.length ≤ 1000)
    (hf : ∀ n h, n ∈ xs → Sep h0 h L → Nf Try.prog g (fv ++ #[.int .i64 n] ++ cp) h (fun v h' => v = .bool (p n) ∧ Sep h0 h' L)) : ∀ (d j : Nat) (h : Hp), j + d = xs.length → (xs.take j).any p = false → Sep h0 h L →
    K_slices_IndexFunc_int_int_2 s g fv cp (s.n : Int) (j : Int) h (fun r h' => ∃ z : Int, r = .int .i64 z ∧ decide (z ≥ 0) = xs.any p ∧ Sep h0 h' L)
  | 0, j, h, hj, hc, hs => by
    have hn := hr.n
    rw [List.take_of_length_le (by omega)] at hc
    apply S_slices_IndexFunc_int_int_2
    unfold B_slices_IndexFunc_int_int_2
    refine mIf_neg (by simp; omega) ?_
    exact ⟨-1, rfl, by rw [hc]; rfl, hs⟩
  | d + 1, j, h, hj, hc, hs => by
    have ih := idxI2 hr hl hf d (j + 1)
    have hn := hr.n
    have hjl : j < xs.length := by omega
    apply S_slices_IndexFunc_int_int_2
    unfold B_slices_IndexFunc_int_int_2
    refine mIf_pos (by simp; omega) ?_
    refine hr.ix hs hjl fun a ha => ?_
    refine ha.ldI0 rfl ?_
    rw [mBind_ap]
    refine (hf _ h (List.getElem_mem hjl) hs).mono ?_
    rintro v h ⟨rfl, hs⟩
    simp only [unB_bool]
    refine mIf_intro (fun h1 => ?_) (fun h1 => ?_)
    · exact ⟨j, rfl, by rw [any_here hjl h1]; simp, hs⟩
    · rw [wrapS j (by omega)]
      exact ih h (by omega) (any_next hjl hc h1) hs
theorem cfI_s {s : Sl} {xs : List Int} {p : Int → Bool} {g : Nat} {fv cp : Array Value} (hr : RdE h0.size h0 encI 1 s xs) (hl : xs.length ≤ 1000)
    (hf : ∀ n h, n ∈ xs → Sep h0 h L → Nf Try.prog g (fv ++ #[.int .i64 n] ++ cp) h (fun v h' => v = .bool (p n) ∧ Sep h0 h' L)) (hs : Sep h0 h L) : N_slices_ContainsFunc_int_int s g fv cp h (fun v h' => v = .bool (xs.any p) ∧ Sep h0 h' L) := by
  apply S_slices_ContainsFunc_int_int
  unfold B_slices_ContainsFunc_int_int
  rw [mBind_ap]
  apply S_slices_IndexFunc_int_int
  unfold B_slices_IndexFunc_int_int
  refine (idxI2 hr hl hf xs.length 0 h (Nat.zero_add _) rfl hs).mono ?_
  rintro v h ⟨z, rfl, hz, hs⟩
  simp only [unI_int]
  rw [hz]
  exact ⟨rfl, hs⟩
theorem idxO2 {s : Sl} {xs : List POp} {p : POp → Bool} {g : Nat} {fv cp : Array Value} (hr : RdE h0.size h0 encO 3 s xs) (hl : xs.length ≤ 1000)
    (hf : ∀ o h, o ∈ xs → Sep h0 h L → Nf Try.prog g (fv ++ #[.agg #[.int .i64 o.k, .int .i64 o.a, .int .i64 o.b]] ++ cp) h (fun v h' => v = .bool (p o) ∧ Sep h0 h' L)) : ∀ (d j : Nat) (h : Hp), j + d = xs.length → (xs.take j).any p = false → Sep h0 h L →
    K_slices_IndexFunc_api_Op_api_Op_2 s g fv cp (s.n : Int) (j : Int) h (fun r h' => ∃ z : Int, r = .int .i64 z ∧ decide (z ≥ 0) = xs.any p ∧ Sep h0 h' L)
  | 0, j, h, hj, hc, hs => by
    have hn := hr.n
    rw [List.take_of_length_le (by omega)] at hc
    apply S_slices_IndexFunc_api_Op_api_Op_2
    unfold B_slices_IndexFunc_api_Op_api_Op_2
    refine mIf_neg (by simp; omega) ?_
    exact ⟨-1, rfl, by rw [hc]; rfl, hs⟩
  | d + 1, j, h, hj, hc, hs => by
    have ih := idxO2 hr hl hf d (j + 1)
    have hn := hr.n
    have hjl : j < xs.length := by omega
    apply S_slices_IndexFunc_api_Op_api_Op_2
    unfold B_slices_IndexFunc_api_Op_api_Op_2
    refine mIf_pos (by simp; omega) ?_
    refine hr.ix hs hjl fun a ha => ?_
    (refine Arg.ldI0 ha rfl ?_; refine Arg.ldI ha rfl ?_; refine Arg.ldI ha rfl ?_; simp only [mBind_ap])
    refine (hf _ h (List.getElem_mem hjl) hs).mono ?_
    rintro v h ⟨rfl, hs⟩
    simp only [unB_bool]
    refine mIf_intro (fun h1 => ?_) (fun h1 => ?_)
    · exact ⟨j, rfl, by rw [any_here hjl h1]; simp, hs⟩
    · rw [wrapS j (by omega)]
      exact ih h (by omega) (any_next hjl hc h1) hs
theorem cfO_s {s : Sl} {xs : List POp} {p : POp → Bool} {g : Nat} {fv cp : Array Value} (hr : RdE h0.size h0 encO 3 s xs) (hl : xs.length ≤ 1000)
    (hf : ∀ o h, o ∈ xs → Sep h0 h L → Nf Try.prog g (fv ++ #[.agg #[.int .i64 o.k, .int .i64 o.a, .int .i64 o.b]] ++ cp) h (fun v h' => v = .bool (p o) ∧ Sep h0 h' L)) (hs : Sep h0 h L) : N_slices_ContainsFunc_api_Op_api_Op s g fv cp h (fun v h' => v = .bool (xs.any p) ∧ Sep h0 h' L) := by
  apply S_slices_ContainsFunc_api_Op_api_Op
  unfold B_slices_ContainsFunc_api_Op_api_Op
  rw [mBind_ap]
  apply S_slices_IndexFunc_api_Op_api_Op
  unfold B_slices_IndexFunc_api_Op_api_Op
  refine (idxO2 hr hl hf xs.length 0 h (Nat.zero_add _) rfl hs).mono ?_
  rintro v h ⟨z, rfl, hz, hs⟩
  simp only [unI_int]
  rw [hz]
  exact ⟨rfl, hs⟩
theorem idxT2 {s : Sl} {xs : List (PTask × Sl)} {p : PTask × Sl → Bool} {g : Nat} {fv cp : Array Value} (hr : RdE h0.size h0 encT 7 s xs) (hl : xs.length ≤ 1000)
    (hf : ∀ o h, o ∈ xs → Sep h0 h L → Nf Try.prog g (fv ++ #[.agg #[.int .i64 o.1.pr, .int .i64 o.1.th, .int .i64 o.1.pe, .int .i64 o.1.de, .int .i64 o.1.fr, .int .i64 o.1.fl, .slice o.2.p o.2.n o.2.c]] ++ cp) h (fun v h' => v = .bool (p o) ∧ Sep h0 h' L)) : ∀ (d j : Nat) (h : Hp), j + d = xs.length → (xs.take j).any p = false → Sep h0 h L →
    K_slices_IndexFunc_api_Task_api_Task_2 s g fv cp (s.n : Int) (j : Int) h (fun r h' => ∃ z : Int, r = .int .i64 z ∧ decide (z ≥ 0) = xs.any p ∧ Sep h0 h' L)
  | 0, j, h, hj, hc, hs => by
    have hn := hr.n
    rw [List.take_of_length_le (by omega)] at hc
    apply S_slices_IndexFunc_api_Task_api_Task_2
    unfold B_slices_IndexFunc_api_Task_api_Task_2
    refine mIf_neg (by simp; omega) ?_
    exact ⟨-1, rfl, by rw [hc]; rfl, hs⟩
  | d + 1, j, h, hj, hc, hs => by
    have ih := idxT2 hr hl hf d (j + 1)
    have hn := hr.n
    have hjl : j < xs.length := by omega
    apply S_slices_IndexFunc_api_Task_api_Task_2
    unfold B_slices_IndexFunc_api_Task_api_Task_2
    refine mIf_pos (by simp; omega) ?_
    refine hr.ix hs hjl fun a ha => ?_
    (refine Arg.ldI0 ha rfl ?_; refine Arg.ldI ha rfl ?_; refine Arg.ldI ha rfl ?_; refine Arg.ldI ha rfl ?_; refine Arg.ldI ha rfl ?_; refine Arg.ldI ha rfl ?_; refine Arg.ldL ha rfl ?_; simp only [mBind_ap])
    refine (hf _ h (List.getElem_mem hjl) hs).mono ?_
    rintro v h ⟨rfl, hs⟩
    simp only [unB_bool]
    refine mIf_intro (fun h1 => ?_) (fun h1 => ?_)
    · exact ⟨j, rfl, by rw [any_here hjl h1]; simp, hs⟩
    · rw [wrapS j (by omega)]
      exact ih h (by omega) (any_next hjl hc h1) hs
theorem cfT_s {s : Sl} {xs : List (PTask × Sl)} {p : PTask × Sl → Bool} {g : Nat} {fv cp : Array Value} (hr : RdE h0.size h0 encT 7 s xs) (hl : xs.length ≤ 1000)
    (hf : ∀ o h, o ∈ xs → Sep h0 h L → Nf Try.prog g (fv ++ #[.agg #[.int .i64 o.1.pr, .int .i64 o.1.th, .int .i64 o.1.pe, .int .i64 o.1.de, .int .i64 o.1.fr, .int .i64 o.1.fl, .slice o.2.p o.2.n o.2.c]] ++ cp) h (fun v h' => v = .bool (p o) ∧ Sep h0 h' L)) (hs : Sep h0 h L) : N_slices_ContainsFunc_api_Task_api_Task s g fv cp h (fun v h' => v = .bool (xs.any p) ∧ Sep h0 h' L) := by
  apply S_slices_ContainsFunc_api_Task_api_Task
  unfold B_slices_ContainsFunc_api_Task_api_Task
  rw [mBind_ap]
  apply S_slices_IndexFunc_api_Task_api_Task
  unfold B_slices_IndexFunc_api_Task_api_Task
  refine (idxT2 hr hl hf xs.length 0 h (Nat.zero_add _) rfl hs).mono ?_
  rintro v h ⟨z, rfl, hz, hs⟩
  simp only [unI_int]
  rw [hz]
  exact ⟨rfl, hs⟩
/-! ### within -/
theorem within_s {s : Sl} {xs : List Int} (a b : Int) (hr : RdE h0.size h0 encI 1 s xs) (hl : xs.length ≤ 1000) (hs : Sep h0 h R) : N_conf_within a b s h (fun v h' => v = .bool (allB xs a b) ∧ Sep h0 h' R) := by
  apply S_conf_within
  unfold B_conf_within
  refine Sep.new hs fun x h hs => ?_
  refine Sep.new hs fun y h hs => ?_
  simp only [List.toList_toArray] at hs
  rw [mBind_ap]
  refine (cfI_s (p := fun n => decide (n < a) || decide (n > b)) hr hl (fun n h _ hs => ?_) hs).mono ?_
  · have : N_conf_within_1 n (some ⟨x, 0, none⟩) (some ⟨y, 0, none⟩) h (fun v h' => v = .bool (decide (n < a) || decide (n > b)) ∧ Sep h0 h' (aBlk y [.int .i64 b] :: aBlk x [.int .i64 a] :: R)) := by
      apply S_conf_within_1
      unfold B_conf_within_1
      (simp only [mNil_some]; refine Sep.ldI hs 1 rfl rfl ?_; simp only [mBind_ap])
      refine mIf_intro (fun hc => ?_) (fun hc => ?_)
      · (rw [mRet_ap])
        rw [hc]
        exact ⟨rfl, hs⟩
      · (refine Sep.ldI hs 0 rfl rfl ?_; rw [mRet_ap])
        rw [hc]
        exact ⟨rfl, hs⟩
    exact this
  · rintro v h ⟨rfl, hs⟩
    simp only [unB_bool]
    refine ⟨?_, hs.drop.drop⟩
    congr 1
    unfold allB inB
    rw [Bool.eq_iff_iff]
    simp only [Bool.not_eq_true', List.any_eq_false, List.all_eq_true, Bool.or_eq_true, Bool.and_eq_true, decide_eq_true_eq, not_or]
    constructor
    · intro h x hx
      have := h x hx
      omega
    · intro h x hx
      have := h x hx
      omega
theorem within1_s {b : Nat} {z : Int} (a c : Int) (hs : Sep h0 h (aBlk b [.int .i64 z] :: R)) : N_conf_within a c ⟨some ⟨b, 0, none⟩, 1, 1⟩ h (fun v h' => v = .bool (inB z a c) ∧ Sep h0 h' R) := by
  have hs := Blk.row (enc := encI) (xs := [z]) (sz := 1) (n := 1) hs 0 rfl rfl rfl
  simp only [List.set_cons_zero] at hs
  refine (within_s a c (hs.rowE 0 rfl (fun _ => rfl) (by omega)) (by simp) (Sep.init h)).mono ?_
  rintro v h' ⟨rfl, hs'⟩
  refine ⟨by simp [allB], (hs.more hs'.under).drop⟩
/-! ### the machine -/
theorem machine_s (C : PCfg) (hs : Sep h0 h R) : N_conf_machine C.sets C.ways C.hit C.miss h (fun v h' => v = .bool (machB C) ∧ Sep h0 h' R) := by
  apply S_conf_machine
  unfold B_conf_machine machB
  refine Sep.new hs fun x h hs => ?_
  simp only [List.toList_toArray] at hs
  (refine Sep.ldI hs 0 rfl rfl ?_; (refine Sep.new hs fun nb h hs => ?_; try simp only [List.toList_toArray] at hs); simp only [add_mk, Nat.zero_add, mBind_ap])
  refine (within1_s _ _ hs).mono ?_
  rintro v h ⟨rfl, hs⟩
  cases h1 : inB C.sets 1 16
  · (simp only [Bool.false_and, unB_bool, mIf_false, mBind_ap]; rw [mRet_ap]; simp only [mIf_false]; rw [mRet_ap]; simp only [mIf_false]; rw [mRet_ap])
    exact ⟨rfl, hs.drop⟩
  (simp only [Bool.true_and, unB_bool, mIf_true, mBind_ap]; refine Sep.ldI hs 0 rfl rfl ?_; (refine Sep.new hs fun nb_1 h hs => ?_; try simp only [List.toList_toArray] at hs); simp only [mBind_ap])
  refine (within1_s _ _ hs).mono ?_
  rintro v h ⟨rfl, hs⟩
  cases h2 : inB C.ways 1 4
  · (simp only [Bool.false_and, unB_bool]; rw [mRet_ap]; simp only [mIf_false]; rw [mRet_ap]; simp only [mIf_false]; rw [mRet_ap])
    exact ⟨rfl, hs.drop⟩
  (simp only [Bool.true_and, unB_bool]; rw [mRet_ap]; simp only [mIf_true]; refine Sep.ldI hs 0 rfl rfl ?_; (refine Sep.new hs fun nb_2 h hs => ?_; try simp only [List.toList_toArray] at hs); simp only [mBind_ap])
  refine (within1_s _ _ hs).mono ?_
  rintro v h ⟨rfl, hs⟩
  cases h3 : inB C.hit 1 100
  · (simp only [Bool.false_and, unB_bool]; rw [mRet_ap]; simp only [mIf_false]; rw [mRet_ap])
    exact ⟨rfl, hs.drop⟩
  (simp only [Bool.true_and, unB_bool]; rw [mRet_ap]; simp only [mIf_true]; refine Sep.ldI hs 0 rfl rfl ?_; refine Sep.ldI hs 0 rfl rfl ?_; (refine Sep.new hs fun nb_3 h hs => ?_; try simp only [List.toList_toArray] at hs); simp only [mBind_ap])
  refine (within1_s _ _ hs).mono ?_
  rintro v h ⟨rfl, hs⟩
  (simp only [unB_bool]; rw [mRet_ap])
  exact ⟨rfl, hs.drop⟩
/-! ### a task -/
abbrev tskC (t : PTask) (o : Sl) : List Value := encT (t, o)
theorem Room_s (C : PCfg) {sm sc se st sl : Sl} (hs : Sep h0 h R) : N_conf_Room C.sets C.ways C.hit C.miss sm C.groups sc se st sl h (fun v h' => v = .agg #[.int .i64 (sm.n : Int), .int .i64 C.groups, .int .i64 (sc.n : Int), .int .i64 (se.n : Int)] ∧ Sep h0 h' R) := by
  apply S_conf_Room
  unfold B_conf_Room
  ((refine Sep.new hs fun nb h hs => ?_; try simp only [List.toList_toArray] at hs); (refine Sep.new hs fun nb_1 h hs => ?_; try simp only [List.toList_toArray] at hs); refine Sep.ldL hs 1 rfl rfl ?_; refine Sep.ldI hs 1 rfl rfl ?_; refine Sep.ldL hs 1 rfl rfl ?_; refine Sep.ldL hs 1 rfl rfl ?_; (refine Sep.st hs 0 rfl rfl rfl fun h hs => ?_; simp only [List.set_cons_zero, List.set_cons_succ] at hs); (refine Sep.st hs 0 rfl rfl rfl fun h hs => ?_; simp only [List.set_cons_zero, List.set_cons_succ] at hs); (refine Sep.st hs 0 rfl rfl rfl fun h hs => ?_; simp only [List.set_cons_zero, List.set_cons_succ] at hs); (refine Sep.st hs 0 rfl rfl rfl fun h hs => ?_; simp only [List.set_cons_zero, List.set_cons_succ] at hs); refine Sep.ldI hs 0 rfl rfl ?_; refine Sep.ldI hs 0 rfl rfl ?_; refine Sep.ldI hs 0 rfl rfl ?_; refine Sep.ldI hs 0 rfl rfl ?_)
  exact ⟨rfl, hs.drop.drop⟩
theorem progF_all {bx gr ct ce : Int} : ∀ (l : List POp) (s : NSt), progF bx gr ct ce s l = 0 → ∀ o ∈ l, opE o bx gr ct ce = 0
  | [], s, h, o, ho => by cases ho
  | q :: l, s, h, o, ho => by
    unfold progF at h
    by_cases hq : opE q bx gr ct ce = 0
    · rw [if_neg (by simpa using hq)] at h
      cases hn : nstep s q with
      | none => rw [hn] at h; cases h
      | some s' =>
        rw [hn] at h
        rcases List.mem_cons.1 ho with rfl | ho
        · exact hq
        · exact progF_all l s' h o ho
    · rw [if_pos hq] at h
      exact absurd h hq
theorem progE_ok {l : List POp} {bx gr ct ce : Int} (h : progE l bx gr ct ce = 0) : l.length ≤ 64 ∧ ∀ o ∈ l, opE o bx gr ct ce = 0 := by
  unfold progE at h
  split at h
  · cases h
  · split at h
    · cases h
    · exact ⟨by omega, progF_all l _ h⟩
theorem lock_in {o : POp} {bx gr ct : Int} {n : Nat} (hn : n ≤ 1000) (h : opE o bx gr ct (n : Int) = 0) (hk : o.k = 5) : 0 ≤ o.a ∧ o.a < n := by
  unfold opE at h
  split at h
  · cases h
  · split at h
    · rename_i h2
      rw [Bool.and_eq_true] at h2
      have := h2.1
      unfold opA inB at this
      rw [hk] at this
      simp only [show ¬ (5 : Int) = 1 by decide, show ¬ (5 : Int) = 2 by decide, show ¬ ((5 : Int) = 3 ∨ (5 : Int) = 4) by decide, show ((5 : Int) = 5 ∨ (5 : Int) = 6) by decide, if_true, if_false] at this
      rw [wrap64 _ (by omega)] at this
      simp at this
      omega
    · cases h
theorem task5 {C : PCfg} {t : PTask} {o : Sl} {sm sc se st sl : Sl} {c3 t4 : Nat} {ahs : Sl} {ah : List (PTask × Sl)} (hce : RdI h0.size h0 .i64 se C.ceils) (hcl : C.ceils.length ≤ 1000) (hop : RdE h0.size h0 encO 3 o t.ops) (hah : RdE h0.size h0 encT 7 ahs ah) (hal : ah.length ≤ 100)
    (hv : taskN t = true) (hs : Sep h0 h (aBlk t4 (tskC t o) :: aBlk c3 (cfgC C sm sc se st sl) :: R)) :
    K_conf_task_5 ahs ⟨c3, 0, none⟩ ⟨t4, 0, none⟩ (progE t.ops C.mail.length C.groups C.counts.length C.ceils.length) h (fun v h' => v = .int .i64 (taskE C t (ah.map (·.1))) ∧ Sep h0 h' R) := by
  apply S_conf_task_5
  unfold B_conf_task_5
  unfold taskE
  rw [hv]
  simp only [Bool.not_true, Bool.false_eq_true, if_false]
  generalize hpe : progE t.ops C.mail.length C.groups C.counts.length C.ceils.length = e
  refine mIf_intro (fun hc => ?_) (fun hc => ?_)
  · rw [if_pos (by simpa using hc)]
    exact ⟨rfl, hs.drop.drop⟩
  · have hz : e = 0 := by simpa using hc
    subst hz
    obtain ⟨hl, hall⟩ := progE_ok hpe
    rw [if_neg (by simp)]
    (refine Sep.ldL hs 0 rfl rfl ?_; simp only [mBind_ap])
    refine (cfO_s (p := lowB C t) hop (by omega) (fun q h hq hs => ?_) hs).mono ?_
    · have : N_conf_task_1 q.k q.a q.b (some ⟨c3, 0, none⟩) (some ⟨t4, 0, none⟩) h (fun v h' => v = .bool (lowB C t q) ∧ Sep h0 h' (aBlk t4 (tskC t o) :: aBlk c3 (cfgC C sm sc se st sl) :: R)) := by
        apply S_conf_task_1
        unfold B_conf_task_1 lowB
        refine Sep.new hs fun x h hs => ?_
        simp only [List.toList_toArray] at hs
        (refine Sep.ldI hs 0 rfl rfl ?_; simp only [add_mk, Nat.zero_add, mNil_some, mBind_ap])
        refine mIf_intro (fun h5 => ?_) (fun h5 => ?_)
        · have h5' := eqT h5
          have hin := lock_in hcl (hall q hq) h5'
          (refine Sep.ldL hs 2 rfl rfl ?_; refine Sep.ldI hs 0 rfl rfl ?_)
          have e1 : (q.a : Int) = ((q.a.toNat : Nat) : Int) := by omega
          rw [e1]
          refine hs.argIn hce (j := q.a.toNat) (by omega) ?_
          (refine Sep.ldI hs 1 rfl rfl ?_; rw [mRet_ap])
          rw [h5, Bool.true_and]
          refine ⟨?_, hs.drop⟩
          congr 2
          rw [List.getD_eq_getElem?_getD, List.getElem?_eq_getElem (by omega)]
          simp [Int.max_eq_left hin.1]
        · (rw [mRet_ap])
          rw [h5, Bool.false_and]
          exact ⟨rfl, hs.drop⟩
      exact this
    · rintro v h ⟨rfl, hs⟩
      (simp only [unB_bool])
      refine mIf_intro (fun h1 => ?_) (fun h1 => ?_)
      · rw [if_pos h1]
        exact ⟨rfl, hs.drop.drop⟩
      · rw [if_neg (by rw [h1]; decide)]
        (simp only [mBind_ap])
        refine (cfT_s (p := fun x => x.1.pr == t.pr) hah (by omega) (fun q h hq hs => ?_) hs).mono ?_
        · have : N_conf_task_2 q.1.pr q.1.th q.1.pe q.1.de q.1.fr q.1.fl q.2 (some ⟨t4, 0, none⟩) h (fun v h' => v = .bool (q.1.pr == t.pr) ∧ Sep h0 h' (aBlk t4 (tskC t o) :: aBlk c3 (cfgC C sm sc se st sl) :: R)) := by
            apply S_conf_task_2
            unfold B_conf_task_2
            ((refine Sep.new hs fun nb h hs => ?_; try simp only [List.toList_toArray] at hs); refine Sep.ldI hs 0 rfl rfl ?_; simp only [mNil_some]; refine Sep.ldI hs 1 rfl rfl ?_)
            exact ⟨rfl, hs.drop⟩
          exact this
        · rintro v h ⟨rfl, hs⟩
          (simp only [unB_bool])
          have e : (ah.map (·.1)).any (fun x => x.pr == t.pr) = ah.any (fun x => x.1.pr == t.pr) := by rw [List.any_map]; rfl
          rw [e]
          refine mIf_intro (fun h2 => ?_) (fun h2 => ?_)
          · rw [if_pos h2]
            exact ⟨rfl, hs.drop.drop⟩
          · rw [if_neg (by rw [h2]; decide)]
            exact ⟨rfl, hs.drop.drop⟩
theorem ctask_s {C : PCfg} {t : PTask} {o : Sl} {sm sc se st sl : Sl} {ahs : Sl} {ah : List (PTask × Sl)} (hce : RdI h0.size h0 .i64 se C.ceils) (hcl : C.ceils.length ≤ 1000) (hop : RdE h0.size h0 encO 3 o t.ops) (hah : RdE h0.size h0 encT 7 ahs ah) (hal : ah.length ≤ 100)
    (n1 : sm.n = C.mail.length) (n2 : sc.n = C.counts.length) (n3 : se.n = C.ceils.length) (hs : Sep h0 h R) :
    N_conf_task C.sets C.ways C.hit C.miss sm C.groups sc se st sl t.pr t.th t.pe t.de t.fr t.fl o ahs h (fun v h' => v = .int .i64 (taskE C t (ah.map (·.1))) ∧ Sep h0 h' R) := by
  apply S_conf_task
  unfold B_conf_task
  refine Sep.new hs fun c3 h hs => ?_
  refine Sep.new hs fun t4 h hs => ?_
  simp only [List.toList_toArray] at hs
  have bad : taskN t = false → ∀ h, Sep h0 h (aBlk t4 (tskC t o) :: aBlk c3 (cfgC C sm sc se st sl) :: R) → (mRet (.int .i64 5) : M Value) h (fun v h' => v = .int .i64 (taskE C t (ah.map (·.1))) ∧ Sep h0 h' R) := by
    intro hv h hs
    have : taskE C t (ah.map (·.1)) = 5 := by unfold taskE; rw [hv]; rfl
    rw [this]
    exact ⟨rfl, hs.drop.drop⟩
  (refine Sep.ldI hs 0 rfl rfl ?_; (refine Sep.new hs fun nb h hs => ?_; try simp only [List.toList_toArray] at hs); simp only [add_mk, Nat.zero_add, mBind_ap])
  refine (within1_s _ _ hs).mono ?_
  rintro v h ⟨rfl, hs⟩
  cases h1 : inB t.pr 0 63
  · (simp only [unB_bool, mIf_false, mBind_ap]; rw [mRet_ap]; simp only [mIf_false]; rw [mRet_ap]; simp only [mIf_false]; rw [mRet_ap]; simp only [mIf_false]; rw [mRet_ap]; simp only [mIf_false]; rw [mRet_ap]; simp only [Bool.not_false, mIf_true])
    exact bad (by simp [taskN, h1]) h hs
  (simp only [unB_bool, mIf_true, mBind_ap]; refine Sep.ldI hs 0 rfl rfl ?_; refine Sep.ldI hs 0 rfl rfl ?_; (refine Sep.new hs fun nb_1 h hs => ?_; try simp only [List.toList_toArray] at hs); simp only [mBind_ap])
  refine (within1_s _ _ hs).mono ?_
  rintro v h ⟨rfl, hs⟩
  cases h2 : inB t.th t.pr 63
  · (simp only [unB_bool]; rw [mRet_ap]; simp only [mIf_false]; rw [mRet_ap]; simp only [mIf_false]; rw [mRet_ap]; simp only [mIf_false]; rw [mRet_ap]; simp only [mIf_false]; rw [mRet_ap]; simp only [Bool.not_false, mIf_true])
    exact bad (by simp [taskN, h1, h2]) h hs
  (simp only [unB_bool]; rw [mRet_ap]; simp only [mIf_true]; refine Sep.ldI hs 0 rfl rfl ?_; (refine Sep.new hs fun nb_2 h hs => ?_; try simp only [List.toList_toArray] at hs); simp only [mBind_ap])
  refine (within1_s _ _ hs).mono ?_
  rintro v h ⟨rfl, hs⟩
  cases h3 : inB t.pe 1 1048576
  · (simp only [unB_bool]; rw [mRet_ap]; simp only [mIf_false]; rw [mRet_ap]; simp only [mIf_false]; rw [mRet_ap]; simp only [mIf_false]; rw [mRet_ap]; simp only [Bool.not_false, mIf_true])
    exact bad (by simp [taskN, h1, h2, h3]) h hs
  (simp only [unB_bool]; rw [mRet_ap]; simp only [mIf_true]; refine Sep.ldI hs 0 rfl rfl ?_; refine Sep.ldI hs 0 rfl rfl ?_; (refine Sep.new hs fun nb_3 h hs => ?_; try simp only [List.toList_toArray] at hs); simp only [mBind_ap])
  refine (within1_s _ _ hs).mono ?_
  rintro v h ⟨rfl, hs⟩
  cases h4 : inB t.de 1 t.pe
  · (simp only [unB_bool]; rw [mRet_ap]; simp only [mIf_false]; rw [mRet_ap]; simp only [mIf_false]; rw [mRet_ap]; simp only [Bool.not_false, mIf_true])
    exact bad (by simp [taskN, h1, h2, h3, h4]) h hs
  (simp only [unB_bool]; rw [mRet_ap]; simp only [mIf_true]; refine Sep.ldI hs 0 rfl rfl ?_; (refine Sep.new hs fun nb_4 h hs => ?_; try simp only [List.toList_toArray] at hs); simp only [mBind_ap])
  refine (within1_s _ _ hs).mono ?_
  rintro v h ⟨rfl, hs⟩
  cases h5 : inB t.fr 0 4096
  · (simp only [unB_bool]; rw [mRet_ap]; simp only [mIf_false]; rw [mRet_ap]; simp only [Bool.not_false, mIf_true])
    exact bad (by simp [taskN, h1, h2, h3, h4, h5]) h hs
  (simp only [unB_bool]; rw [mRet_ap]; simp only [mIf_true]; refine Sep.ldI hs 0 rfl rfl ?_; (refine Sep.new hs fun nb_5 h hs => ?_; try simp only [List.toList_toArray] at hs); simp only [mBind_ap])
  refine (within1_s _ _ hs).mono ?_
  rintro v h ⟨rfl, hs⟩
  cases h6 : inB t.fl 0 1048576
  · (simp only [unB_bool]; rw [mRet_ap]; simp only [Bool.not_false, mIf_true])
    exact bad (by simp [taskN, h1, h2, h3, h4, h5, h6]) h hs
  (simp only [unB_bool]; rw [mRet_ap]; simp only [Bool.not_true, mIf_false])
  have hv : taskN t = true := by simp [taskN, h1, h2, h3, h4, h5, h6]
  have fin : ∀ h, Sep h0 h (aBlk t4 (tskC t o) :: aBlk c3 (cfgC C sm sc se st sl) :: R) → _ := fun h hs => task5 hce hcl hop hah hal hv hs
  rw [← n1, ← n2, ← n3] at fin
  repeat' (first | with_reducible refine mAnd_intro ?_ ?_ | (first | (((with_reducible refine gd_mLdL ?_); refine Sep.ldL hs 0 rfl rfl ?_)) | (((with_reducible refine gd_mLdI ?_); refine Sep.ldI hs 1 rfl rfl ?_)) | (((with_reducible refine gd_mLdL ?_); refine Sep.ldL hs 1 rfl rfl ?_)) | ((simp only [mBind_ap])) | ((simp only [unA_agg, unC_cons, unE_nil, unI_int, mBind_ap])) | ((simp only [unI_int])) | ((simp only [unA_agg, unC_cons, unE_nil, unI_int]))) | (refine (Room_s C hs).mono ?_; rintro v h ⟨rfl, hs⟩) | (refine (pCheck_s hop _ _ _ _ hs).mono ?_; rintro v h ⟨rfl, hs⟩))
  all_goals exact fin h hs
end
end Go.Proofs.Ytimpaammdmeocaa
