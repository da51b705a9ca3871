/- What is ready: a new one. Conditions: none. -/
import Derived.Test.YtimpaammdmeocaaRdyR
import Derived.Test.YtimpaammdmeocaaSbW
namespace Go.Proofs.Ytimpaammdmeocaa
open Go Go.Sb
set_option linter.unusedSimpArgs false
set_option linter.unusedVariables false
/-- what a good configuration gives: priorities below 64, no two alike -/
structure PrOk (C : PCfg) : Prop where
  few : 0 < C.tasks.length ∧ C.tasks.length ≤ 8
  lo : ∀ (i : Nat) (t : PTask), C.tasks[i]? = some t → 0 ≤ t.pr ∧ t.pr < 64
  inj : ∀ (i j : Nat) (t u : PTask), C.tasks[i]? = some t → C.tasks[j]? = some u → t.pr = u.pr → i = j
theorem tasksE_all (C : PCfg) : ∀ (l : List PTask) (k : Nat), tasksE C k l = 0 → ∀ (i : Nat) (t : PTask), l[i]? = some t → taskE C t (C.tasks.take (k + i)) = 0
  | [], _, _, i, t, hi => by simp at hi
  | u :: l, k, h, i, t, hi => by
    unfold tasksE at h
    split at h
    · rename_i hn
      exact absurd h hn
    · rename_i hn
      cases i with
      | zero =>
        simp only [List.getElem?_cons_zero, Option.some.injEq] at hi
        subst hi
        simpa using hn
      | succ i =>
        rw [List.getElem?_cons_succ] at hi
        have := tasksE_all C l (k + 1) h i t hi
        rw [show k + (i + 1) = k + 1 + i by omega]
        exact this
theorem taskE_parts {C : PCfg} {t : PTask} {a : List PTask} (h : taskE C t a = 0) : (0 ≤ t.pr ∧ t.pr < 64) ∧ ∀ x ∈ a, x.pr ≠ t.pr := by
  unfold taskE at h
  split at h
  · cases h
  · rename_i hn
    have hn : taskN t = true := by simpa using hn
    simp only at h
    split at h
    · rename_i hz; exact absurd h hz
    · split at h
      · cases h
      · split at h
        · cases h
        · rename_i ha
          refine ⟨?_, fun x hx he => ha (List.any_eq_true.2 ⟨x, hx, by simpa using he⟩)⟩
          unfold taskN inB at hn
          simp at hn
          omega
theorem prOk {C : PCfg} (h : checkN C = 0) : PrOk C := by
  unfold checkN at h
  split at h
  · cases h
  · split at h
    · cases h
    · rename_i h2
      split at h
      · cases h
      · rename_i h3
        split at h
        · cases h
        · have ht := tasksE_all C C.tasks 0 h
          have hm : C.tasks.length ≤ 8 := by
            unfold manyB at h2
            simp at h2
            omega
          have ne : ∀ (i j : Nat) (t u : PTask), C.tasks[i]? = some t → C.tasks[j]? = some u → i < j → t.pr ≠ u.pr := by
            intro i j t u hi hj hij
            refine (taskE_parts (ht j u hj)).2 t ?_
            refine List.mem_of_getElem? (i := i) ?_
            rw [List.getElem?_take, if_pos (by omega)]
            exact hi
          refine ⟨⟨by omega, hm⟩, fun i t hi => (taskE_parts (ht i t hi)).1, fun i j t u hi hj he => ?_⟩
          rcases Nat.lt_trichotomy i j with hl | hl | hl
          · exact absurd he (ne i j t u hi hj hl)
          · exact hl
          · exact absurd he.symm (ne j i u t hj hi hl)
/-- an empty queue of a task -/
def q0 (t : PTask) : PQ := ⟨t.pr, 0, []⟩
section
variable {h0 h : Hp} {R : List As} {b : Nat} {ys : List PQ} {C : PCfg} {sm sc se st sl : Sl} {ts : List (PTask × Sl)}
theorem fH_new {rb : Nat} {p : Int} (hs : Sep h0 h (aJobs rb [] :: R)) : Sep h0 h (fH (p, 0, rb) ⟨p, 0, []⟩ :: R) := fH_iff.2 ⟨⟨rfl, rfl⟩, hs⟩
set_option maxRecDepth 10000 in
theorem New6 (hc : CRd h0 C sm sc se st sl ts) (hk : PrOk C) {m bb : Nat} : ∀ (d k : Nat) (s : Sl) (f : Int → Option Value) (n : Nat) (R : List As) (h : Hp), k + d = ts.length →
    (∀ (i : Nat) (t : PTask), i < k → C.tasks[i]? = some t → f t.pr = some (.int .i64 (i : Int))) →
    Sep h0 h (aBlk b [.slice s.p s.n s.c, .map (some m), .pointer (some ⟨bb, 0, none⟩)] :: aMap m .i64 f n :: aBlk bb (bnd 0) :: aHR encH 3 fH s ((C.tasks.take k).map q0) :: R) →
    K_ready_New_6 ⟨b, 0, none⟩ st (ts.length : Int) (k : Int) h (fun v h' => v = .tuple #[.pointer (some ⟨b, 0, none⟩), .int .i64 0] ∧ ∃ R', Sep h0 h' (aReady b (C.tasks.map q0) :: (R' ++ R)))
  | 0, k, s, f, n, R, h, hkd, hf, hs => by
    have hln := hc.len.2.2.2.2.2
    apply S_ready_New_6
    unfold B_ready_New_6
    refine mIf_neg (by simp; omega) ?_
    rw [List.take_of_length_le (by omega)] at hs
    refine ⟨rfl, [], aReady_iff.2 ⟨s, m, f, n, bb, 0, ⟨by decide, ?_, ?_, ?_, by rw [List.length_map]; have := hk.few; omega⟩, hs⟩⟩
    · intro i y hi
      rw [List.getElem?_map] at hi
      obtain ⟨t, h1, rfl⟩ := Option.map_eq_some_iff.1 hi
      have := hk.lo i t h1
      have hil := (List.getElem?_eq_some_iff.1 h1).1
      exact ⟨this.1, this.2, hf i t (by omega) h1⟩
    · intro i y hi x hx
      rw [List.getElem?_map] at hi
      obtain ⟨t, h1, rfl⟩ := Option.map_eq_some_iff.1 hi
      simp [q0] at hx
    · intro p
      rw [Nat.zero_testBit]
      refine ⟨fun h => (by cases h), ?_⟩
      rintro ⟨i, y, hi, e1, e2⟩
      rw [List.getElem?_map] at hi
      obtain ⟨t, h1, rfl⟩ := Option.map_eq_some_iff.1 hi
      exact absurd rfl e2
  | d + 1, k, s, f, n, R, h, hkd, hf, hs => by
    have ih := New6 hc hk (m := m) (bb := bb) d (k + 1)
    have hln := hc.len.2.2.2.2.2
    have hkl : k < ts.length := by omega
    have htk := hc.at hkl
    have hrow := hc.rows
    apply S_ready_New_6
    unfold B_ready_New_6
    refine mIf_pos (by simp; omega) ?_
    have hs : Sep h0 h (aHR encH 3 fH s ((C.tasks.take k).map q0) :: aBlk b [.slice s.p s.n s.c, .map (some m), .pointer (some ⟨bb, 0, none⟩)] :: aMap m .i64 f n :: aBlk bb (bnd 0) :: R) := hs.reT 4 [3, 0, 1, 2] rfl (by simp)
    obtain ⟨ss, hl, hs⟩ := aHR_iff.1 hs
    have hs : Sep h0 h (aRow encH 3 s ss :: aBlk b [.slice s.p s.n s.c, .map (some m), .pointer (some ⟨bb, 0, none⟩)] :: aMap m .i64 f n :: aBlk bb (bnd 0) :: aAll (List.zipWith fH ss ((C.tasks.take k).map q0)) :: R) := hs.reT 5 [0, 2, 3, 4, 1] rfl (by simp)
    rw [List.length_map, List.length_take] at hl
    refine hrow.ix hs hkl fun a ha => ?_
    generalize hts : ts[k] = tk at ha htk
    (refine Arg.ldI0 ha rfl ?_; refine Arg.ldI ha rfl ?_; refine Arg.ldI ha rfl ?_; refine Arg.ldI ha rfl ?_; refine Arg.ldI ha rfl ?_; refine Arg.ldI ha rfl ?_; refine Arg.ldL ha rfl ?_; (refine Sep.new hs fun nb h hs => ?_; try simp only [List.toList_toArray] at hs); (refine Sep.st hs 0 rfl rfl rfl fun h hs => ?_; simp only [List.set_cons_zero, List.set_cons_succ] at hs); (refine Sep.st hs 0 rfl rfl rfl fun h hs => ?_; simp only [List.set_cons_zero, List.set_cons_succ] at hs); (refine Sep.st hs 0 rfl rfl rfl fun h hs => ?_; simp only [List.set_cons_zero, List.set_cons_succ] at hs); (refine Sep.st hs 0 rfl rfl rfl fun h hs => ?_; simp only [List.set_cons_zero, List.set_cons_succ] at hs); (refine Sep.st hs 0 rfl rfl rfl fun h hs => ?_; simp only [List.set_cons_zero, List.set_cons_succ] at hs); (refine Sep.st hs 0 rfl rfl rfl fun h hs => ?_; simp only [List.set_cons_zero, List.set_cons_succ] at hs); (refine Sep.st hs 0 rfl rfl rfl fun h hs => ?_; simp only [List.set_cons_zero, List.set_cons_succ] at hs))
    generalize hS : (⟨some ⟨nb, 0, none⟩, 1, 1⟩ : Sl) = dummy
    clear hS dummy
    have fin : ∀ (s' : Sl) (rb x34 : Nat) (h : Hp), Sep h0 h (aBlk x34 [.int .i64 tk.1.pr, .int .i64 0, .pointer (some ⟨rb, 0, none⟩)] :: aJobs rb [] :: aBlk nb [.int .i64 tk.1.pr, .int .i64 tk.1.th, .int .i64 tk.1.pe, .int .i64 tk.1.de, .int .i64 tk.1.fr, .int .i64 tk.1.fl, .slice tk.2.p tk.2.n tk.2.c] :: aRow encH 3 s' (ss ++ [(tk.1.pr, 0, rb)]) :: aBlk b [.slice s'.p s'.n s'.c, .map (some m), .pointer (some ⟨bb, 0, none⟩)] :: aMap m .i64 f n :: aBlk bb (bnd 0) :: aAll (List.zipWith fH ss ((C.tasks.take k).map q0)) :: R) →
        K_ready_New_9 ⟨b, 0, none⟩ (k : Int) ⟨nb, 0, none⟩ st (ts.length : Int) (k : Int) h (fun v h' => v = .tuple #[.pointer (some ⟨b, 0, none⟩), .int .i64 0] ∧ ∃ R', Sep h0 h' (aReady b (C.tasks.map q0) :: (R' ++ R))) := by
      intro s' rb x34 h hs
      apply S_ready_New_9
      unfold B_ready_New_9
      simp only [add_mk, Nat.zero_add]
      refine Sep.ldM hs 4 rfl rfl ?_
      refine Sep.ldI hs 2 rfl rfl ?_
      simp only [mNilM_some]
      refine Sep.mapSet hs 5 rfl fun h hs => ?_
      simp only [List.set_cons_zero, List.set_cons_succ] at hs
      rw [wrapS _ (by have := hk.few; omega)]
      have e : (C.tasks.take (k + 1)).map q0 = (C.tasks.take k).map q0 ++ [q0 tk.1] := by
        obtain ⟨q1, q2⟩ := List.getElem?_eq_some_iff.1 htk
        rw [← List.take_append_getElem q1, List.map_append, q2]; rfl
      have hs1 : Sep h0 h (aJobs rb [] :: aRow encH 3 s' (ss ++ [(tk.1.pr, 0, rb)]) :: aAll (List.zipWith fH ss ((C.tasks.take k).map q0)) :: _) := hs.reT 8 [1, 3, 7, 4, 5, 6, 0, 2] rfl (by simp)
      have hs2 := Sep.hPush (by rw [List.length_map, List.length_take]; exact hl) (fH_new hs1)
      rw [show ((C.tasks.take k).map q0 ++ [⟨tk.1.pr, 0, []⟩]) = (C.tasks.take (k + 1)).map q0 from e.symm] at hs2
      refine (ih s' _ _ (_ :: _ :: R) h (by omega) ?_ (hs2.reT 4 [1, 2, 3, 0] rfl (by simp))).mono ?_
      · intro i t hi ht
        show (if t.pr = tk.1.pr then _ else f t.pr) = _
        by_cases he : t.pr = tk.1.pr
        · rw [if_pos he]
          have := hk.inj i k t tk.1 ht htk he
          subst this; rfl
        · rw [if_neg he]
          refine hf i t ?_ ht
          rcases Nat.lt_or_ge i k with hc | hc
          · exact hc
          · have : i = k := by omega
            subst this
            rw [htk] at ht
            cases ht
            exact absurd rfl he
      · rintro v h ⟨rfl, R', hs⟩
        exact ⟨rfl, R' ++ [_, _], by simpa using hs⟩
    have hfew := hk.few
    repeat' (first | with_reducible refine mAnd_intro ?_ ?_ | (first | (((with_reducible refine gd_mLdL ?_); refine Sep.ldL hs 2 rfl rfl ?_)) | (((with_reducible refine gd_mLdI ?_); refine Sep.ldI hs 0 rfl rfl ?_)) | ((simp only [mBind_ap])) | (((with_reducible refine gd_mNew ?_); (refine Sep.new hs fun nb_1 h hs => ?_; try simp only [List.toList_toArray] at hs))) | (((with_reducible refine gd_mSt ?_); (refine Sep.st hs 4 rfl rfl rfl fun h hs => ?_; simp only [List.set_cons_zero, List.set_cons_succ] at hs))) | (((with_reducible refine gd_mLdI ?_); refine Sep.ldI hs 1 rfl rfl ?_)) | (((with_reducible refine gd_mLdL ?_); refine Sep.ldL hs 3 rfl rfl ?_)) | (((with_reducible refine gd_mLdL ?_); refine Sep.ldL hs 4 rfl rfl ?_))) | (refine (job_New hs).mono ?_; rintro v h ⟨rb, rfl, hs⟩; simp only [unP_pointer]) | (refine Sep.app1 hs 3 0 (tk.1.pr, 0, rb) rfl rfl (fun _ => rfl) (by simp [Value.oneCell']) rfl (by omega) (by omega) fun s' h hn hs => ?_; simp only [List.set_cons_zero, List.set_cons_succ] at hs))
    all_goals exact fin _ _ _ _ hs
theorem New_ok (hc : CRd h0 C sm sc se st sl ts) (hk : checkN C = 0) (hs : Sep h0 h R) : N_ready_New C.sets C.ways C.hit C.miss sm C.groups sc se st sl h (fun v h' => ∃ b R', v = .tuple #[.pointer (some ⟨b, 0, none⟩), .int .i64 0] ∧ Sep h0 h' (aReady b (C.tasks.map q0) :: (R' ++ R))) := by
  have hln := hc.len.2.2.2.2
  apply S_ready_New
  unfold B_ready_New
  ((refine Sep.new hs fun nb h hs => ?_; try simp only [List.toList_toArray] at hs); refine Sep.ldI hs 0 rfl rfl ?_; refine Sep.ldI hs 0 rfl rfl ?_; refine Sep.ldI hs 0 rfl rfl ?_; refine Sep.ldI hs 0 rfl rfl ?_; refine Sep.ldL hs 0 rfl rfl ?_; refine Sep.ldI hs 0 rfl rfl ?_; refine Sep.ldL hs 0 rfl rfl ?_; refine Sep.ldL hs 0 rfl rfl ?_; refine Sep.ldL hs 0 rfl rfl ?_; refine Sep.ldL hs 0 rfl rfl ?_; simp only [add_mk, Nat.zero_add, mBind_ap])
  have hs : Sep h0 h (aBlk nb (cfgC C sm sc se st sl) :: R) := hs
  refine (pConf_s hc hs).mono ?_
  rintro v h ⟨rfl, hs⟩
  rw [hk]
  simp only [unI_int]
  refine mIf_neg rfl ?_
  refine Sep.mapNew hs .i64 fun m h hs => ?_
  rw [mBind_ap]
  refine (bNew_s hs).mono ?_
  rintro v h ⟨bb, rfl, hs⟩
  (simp only [unP_pointer]; (refine Sep.new hs fun nb_1 h hs => ?_; try simp only [List.toList_toArray] at hs); refine Sep.ldL hs 3 rfl rfl ?_)
  have hs := hs.nilRow encH 3
  have hs : Sep h0 h (aHR encH 3 fH ⟨none, 0, 0⟩ [] :: aBlk nb_1 [.slice none 0 0, .map (some m), .pointer (some ⟨bb, 0, none⟩)] :: aBlk bb (bnd 0) :: aMap m .i64 (fun _ => none) 0 :: aBlk nb (cfgC C sm sc se st sl) :: R) := hs.hNil
  have hs : Sep h0 h (aBlk nb_1 [.slice none 0 0, .map (some m), .pointer (some ⟨bb, 0, none⟩)] :: aMap m .i64 (fun _ => none) 0 :: aBlk bb (bnd 0) :: aHR encH 3 fH ⟨none, 0, 0⟩ [] :: aBlk nb (cfgC C sm sc se st sl) :: R) := hs.reT 5 [1, 3, 2, 0, 4] rfl (by simp)
  rw [hc.rows.n]
  refine (New6 hc (prOk hk) ts.length 0 ⟨none, 0, 0⟩ (fun _ => none) 0 (aBlk nb (cfgC C sm sc se st sl) :: R) h (by omega) (fun i t hi => absurd hi (by omega)) hs).mono ?_
  rintro v h ⟨rfl, R', hs⟩
  exact ⟨_, R' ++ [_], rfl, by simpa using hs⟩
theorem New_bad (hc : CRd h0 C sm sc se st sl ts) (hk : checkN C ≠ 0) (hs : Sep h0 h R) : N_ready_New C.sets C.ways C.hit C.miss sm C.groups sc se st sl h (fun v h' => v = .tuple #[.pointer none, .int .i64 (checkN C)] ∧ Sep h0 h' R) := by
  apply S_ready_New
  unfold B_ready_New
  ((refine Sep.new hs fun nb h hs => ?_; try simp only [List.toList_toArray] at hs); refine Sep.ldI hs 0 rfl rfl ?_; refine Sep.ldI hs 0 rfl rfl ?_; refine Sep.ldI hs 0 rfl rfl ?_; refine Sep.ldI hs 0 rfl rfl ?_; refine Sep.ldL hs 0 rfl rfl ?_; refine Sep.ldI hs 0 rfl rfl ?_; refine Sep.ldL hs 0 rfl rfl ?_; refine Sep.ldL hs 0 rfl rfl ?_; refine Sep.ldL hs 0 rfl rfl ?_; refine Sep.ldL hs 0 rfl rfl ?_; simp only [add_mk, Nat.zero_add, mBind_ap])
  have hs : Sep h0 h (aBlk nb (cfgC C sm sc se st sl) :: R) := hs
  refine (pConf_s hc hs).mono ?_
  rintro v h ⟨rfl, hs⟩
  simp only [unI_int]
  refine mIf_pos (by simpa using hk) ?_
  exact ⟨rfl, hs.drop⟩
end
end Go.Proofs.Ytimpaammdmeocaa
