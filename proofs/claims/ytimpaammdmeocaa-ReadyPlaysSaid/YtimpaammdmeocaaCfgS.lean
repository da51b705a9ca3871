/- Configurations: what may be, by the program. Conditions: none. -/
import Derived.Test.YtimpaammdmeocaaCfgR
import Derived.Test.YtimpaammdmeocaaSbW
namespace Go.Proofs.Ytimpaammdmeocaa
open Go Go.Sb
set_option linter.unusedSimpArgs false
set_option linter.unusedVariables false
set_option linter.unusedVariables false
section
variable {h0 h : Hp} {R : List As}
/-! ### rows in which a number is -/
theorem index2 {L : List As} {k : Nat} {s : Sl} {xs : List Int} {v : Int} (hs : Sep h0 h L) (hk : L[k]? = some (aRow encI 1 s xs)) (hl : xs.length ≤ 1000) : ∀ (d j : Nat), j + d = xs.length → (xs.take j).contains v = false →
    K_slices_Index_int_int_2 s v (s.n : Int) (j : Int) h (fun r h' => ∃ z : Int, r = .int .i64 z ∧ decide (z ≥ 0) = xs.contains v ∧ h' = h)
  | 0, j, hj, hc => by
    have hn := hs.rowLen k hk
    rw [List.take_of_length_le (by omega)] at hc
    apply S_slices_Index_int_int_2
    unfold B_slices_Index_int_int_2
    refine mIf_neg (by simp; omega) ?_
    exact ⟨-1, rfl, by rw [hc]; rfl, rfl⟩
  | d + 1, j, hj, hc => by
    have ih := index2 (v := v) hs hk hl d (j + 1)
    have hn := hs.rowLen k hk
    have hjl : j < xs.length := by omega
    apply S_slices_Index_int_int_2
    unfold B_slices_Index_int_int_2
    refine mIf_pos (by simp; omega) ?_
    refine row1 (k := k) hs hk hjl ?_
    refine mIf_intro (fun h1 => ?_) (fun h1 => ?_)
    · refine ⟨j, rfl, ?_, rfl⟩
      have h1 := eqT h1
      have : xs.contains v = true := by rw [List.contains_iff_mem, h1]; exact List.getElem_mem hjl
      rw [this]; simp
    · rw [wrapS j (by omega)]
      refine ih (by omega) ?_
      have h1 := eqF h1
      rw [Bool.eq_false_iff] at hc ⊢
      intro hm
      rw [List.contains_iff_mem, List.take_succ_eq_append_getElem hjl, List.mem_append] at hm
      rcases hm with hm | hm
      · exact hc (List.contains_iff_mem.2 hm)
      · simp at hm
        exact h1 hm
theorem contains_s {L : List As} {k : Nat} {s : Sl} {xs : List Int} (v : Int) (hs : Sep h0 h L) (hk : L[k]? = some (aRow encI 1 s xs)) (hl : xs.length ≤ 1000) : N_slices_Contains_int_int s v h (fun r h' => r = .bool (xs.contains v) ∧ h' = h) := by
  apply S_slices_Contains_int_int
  unfold B_slices_Contains_int_int
  rw [mBind_ap]
  apply S_slices_Index_int_int
  unfold B_slices_Index_int_int
  refine (index2 hs hk hl xs.length 0 (Nat.zero_add _) rfl).mono ?_
  rintro v h ⟨z, rfl, hz, rfl⟩
  simp only [unI_int]
  rw [hz]
  exact ⟨rfl, rfl⟩
/-! ### one step, and a program -/
abbrev nB (n : Nat) (st : NSt) (L : Sl) : As := aBlk n [.int .i64 st.1, .int .i64 st.2.1, .slice L.p L.n L.c]
theorem step19 {n : Nat} {st : NSt} {L : Sl} (hs : Sep h0 h (nB n st L :: aRow encI 1 L st.2.2 :: R)) : K_prog_nest_step_19 (some ⟨n, 0, none⟩) h (fun v h' => match nok st with
      | some s => v = .bool true ∧ ∃ L, Sep h0 h' (nB n s L :: aRow encI 1 L s.2.2 :: R)
      | none => v = .bool false ∧ Sep h0 h' R) := by
  apply S_prog_nest_step_19
  unfold B_prog_nest_step_19
  (simp only [mNil_some, add_mk, Nat.zero_add]; refine Sep.ldI hs 0 rfl rfl ?_; simp only [mBind_ap])
  unfold nok
  refine mIf_intro (fun hc => ?_) (fun hc => ?_)
  · (refine Sep.ldI hs 0 rfl rfl ?_; rw [mRet_ap])
    by_cases h2 : st.2.1 ≥ 0
    · rw [decide_eq_true h2, if_neg (by simp at hc; simp; omega)]
      exact ⟨rfl, L, hs⟩
    · rw [decide_eq_false h2, if_pos (by simp; omega)]
      exact ⟨rfl, hs.drop.drop⟩
  · (rw [mRet_ap])
    rw [if_pos (by simp at hc; simp; omega)]
    exact ⟨rfl, hs.drop.drop⟩
theorem pstep_s {n : Nat} {st : NSt} {L : Sl} (o : POp) (hl : st.2.2.length ≤ 300) (hs : Sep h0 h (nB n st L :: aRow encI 1 L st.2.2 :: R)) : N_prog_nest_step (some ⟨n, 0, none⟩) o.k o.a o.b h (fun v h' => match nstep st o with
      | some s => v = .bool true ∧ ∃ L, Sep h0 h' (nB n s L :: aRow encI 1 L s.2.2 :: R)
      | none => v = .bool false ∧ Sep h0 h' R) := by
  obtain ⟨op, de, lk⟩ := st
  have hln := hs.rowLen 1 rfl
  apply S_prog_nest_step
  unfold B_prog_nest_step
  refine Sep.new hs fun x h hs => ?_
  simp only [List.toList_toArray] at hs hl hln
  have go : ∀ h (s : NSt) L', nmid (op, de, lk) o = some s → Sep h0 h (nB n s L' :: aRow encI 1 L' s.2.2 :: R) → K_prog_nest_step_19 (some ⟨n, 0, none⟩) h (fun v h' => match nstep (op, de, lk) o with
      | some s => v = .bool true ∧ ∃ L, Sep h0 h' (nB n s L :: aRow encI 1 L s.2.2 :: R)
      | none => v = .bool false ∧ Sep h0 h' R) := by
    intro h s L' hm hs
    unfold nstep
    rw [hm]
    exact step19 hs
  have none_ : ∀ h, nmid (op, de, lk) o = none → Sep h0 h R → (mRet (.bool false) : M Value) h (fun v h' => match nstep (op, de, lk) o with
      | some s => v = .bool true ∧ ∃ L, Sep h0 h' (nB n s L :: aRow encI 1 L s.2.2 :: R)
      | none => v = .bool false ∧ Sep h0 h' R) := by
    intro h hm hs
    unfold nstep
    rw [hm]
    exact ⟨rfl, hs⟩
  (refine Sep.ldI hs 0 rfl rfl ?_; simp only [mNil_some, add_mk, Nat.zero_add])
  refine mIf_intro (fun h3 => ?_) (fun h3 => ?_)
  · have h3 := eqT h3
    (refine Sep.ldI hs 1 rfl rfl ?_; (refine Sep.st hs 1 rfl rfl rfl fun h hs => ?_; simp only [List.set_cons_zero, List.set_cons_succ] at hs))
    exact go h (IntKind.i64.wrap (op + 1), de, lk) L (by unfold nmid; rw [if_pos h3]) hs.drop
  have h3 := eqF h3
  refine mIf_intro (fun h4 => ?_) (fun h4 => ?_)
  · have h4 := eqT h4
    (refine Sep.ldI hs 1 rfl rfl ?_; (refine Sep.st hs 1 rfl rfl rfl fun h hs => ?_; simp only [List.set_cons_zero, List.set_cons_succ] at hs))
    exact go h (IntKind.i64.wrap (op - 1), de, lk) L (by unfold nmid; rw [if_neg h3, if_pos h4]) hs.drop
  have h4 := eqF h4
  by_cases h5 : o.k = 5
  · have hnm : nmid (op, de, lk) o = if lk.contains o.a then none else some (op, de, lk ++ [o.a]) := by unfold nmid; rw [if_neg h3, if_neg h4, if_pos h5]
    refine mIf_neg (neB (by omega)) ?_
    refine mIf_neg (neB (by omega)) ?_
    refine mIf_pos (by simpa using h5) ?_
    (refine Sep.ldL hs 1 rfl rfl ?_; refine Sep.ldI hs 0 rfl rfl ?_)
    refine mQ_intro _ (contains_s o.a hs (k := 2) rfl (by omega)) ?_
    simp only [unB_bool]
    refine mIf_intro (fun hc => ?_) (fun hc => ?_)
    · exact none_ h (by rw [hnm, if_pos hc]) hs.drop.drop.drop
    · have fin : ∀ h L', Sep h0 h (aBlk n [.int .i64 op, .int .i64 de, .slice L'.p L'.n L'.c] :: aRow encI 1 L' (lk ++ [o.a]) :: R) → _ := fun h L' hs => go h (op, de, lk ++ [o.a]) L' (by rw [hnm, if_neg (by rw [hc]; decide)]) hs
      repeat' (first | with_reducible refine mAnd_intro ?_ ?_ | (first | (((with_reducible refine gd_mLdL ?_); refine Sep.ldL hs 1 rfl rfl ?_)) | (((with_reducible refine gd_mLdI ?_); refine Sep.ldI hs 0 rfl rfl ?_)) | (((with_reducible refine gd_mNew ?_); (refine Sep.new hs fun nb h hs => ?_; try simp only [List.toList_toArray] at hs))) | (((with_reducible refine gd_mApp ?_); (refine Sep.app1 hs 3 0 _ rfl rfl (fun _ => rfl) (by simp [Value.oneCell']) rfl (by omega) (by first | omega | (simp only [List.length_set, List.length_map, List.length_replicate, List.length_append, List.length_cons, List.length_nil, List.length_reverse, List.length_range]; omega) | (simp; omega)) fun sl h hn_sl hs => ?_; simp only [List.set_cons_zero, List.set_cons_succ] at hs))) | (((with_reducible refine gd_mSt ?_); (refine Sep.st hs 2 rfl rfl rfl fun h hs => ?_; simp only [List.set_cons_zero, List.set_cons_succ] at hs))) | (((with_reducible refine gd_mLdL ?_); refine Sep.ldL hs 2 rfl rfl ?_))) | (refine hs.app1 3 0 o.a rfl rfl (fun _ => rfl) (by intro v hv; simp at hv; subst hv; rfl) rfl (by omega) (by omega) fun s' h hn' hs => ?_; simp only [List.set_cons_succ, List.set_cons_zero] at hs))
      all_goals exact fin h _ hs.drop.drop
  by_cases h6 : o.k = 6
  · have hnm : nmid (op, de, lk) o = if lk.getLast? = some o.a then some (op, de, lk.dropLast) else none := by unfold nmid; rw [if_neg h3, if_neg h4, if_neg h5, if_pos h6]
    refine mIf_neg (neB (by omega)) ?_
    refine mIf_neg (neB (by omega)) ?_
    refine mIf_neg (neB (by omega)) ?_
    refine mIf_pos (by simpa using h6) ?_
    (refine Sep.ldL hs 1 rfl rfl ?_; simp only [mBind_ap])
    rw [hln]
    by_cases hz : lk = []
    · subst hz
      refine mIf_pos (by decide) ?_
      (rw [mRet_ap]; simp only [mIf_true])
      exact none_ h (by rw [hnm]; rfl) hs.drop.drop.drop
    · have hpos : 0 < lk.length := List.length_pos_iff.2 hz
      have hw : IntKind.i64.wrap ((lk.length : Int) - 1) = ((lk.length - 1 : Nat) : Int) := by rw [wrap64 _ (by omega)]; omega
      rw [hw]
      refine mIf_neg (by simp) ?_
      (refine Sep.ldL hs 1 rfl rfl ?_; (refine Sep.idx hs 2 rfl (by first | omega | (simp only [List.length_set, List.length_map, List.length_replicate, List.length_append, List.length_cons, List.length_nil, List.length_reverse, List.length_range]; omega) | (simp; omega)) (by first | omega | (simp only [List.length_set, List.length_map, List.length_replicate, List.length_append, List.length_cons, List.length_nil, List.length_reverse, List.length_range]; omega) | (simp; omega)) fun aa haa => ?_; try simp only [Int.toNat_natCast] at haa); refine Sep.rldI0 hs 2 rfl (fun _ => rfl) haa (List.getElem?_eq_getElem (by first | omega | (simp only [List.length_set, List.length_map, List.length_replicate, List.length_append, List.length_cons, List.length_nil, List.length_reverse, List.length_range]; omega) | (simp; omega))) rfl ?_; refine Sep.ldI hs 0 rfl rfl ?_; rw [mRet_ap])
      have hgl : lk.getLast? = some (lk[lk.length - 1]'(by omega)) := by rw [List.getLast?_eq_getElem?, List.getElem?_eq_getElem (by omega)]
      refine mIf_intro (fun hc => ?_) (fun hc => ?_)
      · refine none_ h ?_ hs.drop.drop.drop
        rw [hnm, hgl, if_neg]
        simpa using hc
      · (refine Sep.ldL hs 1 rfl rfl ?_)
        refine hs.slc 2 rfl (fun _ => rfl) (by omega) (by omega) (by omega) rfl fun s' hn' hs => ?_
        simp only [List.set_cons_succ, List.set_cons_zero, Int.toNat_natCast] at hs
        ((refine Sep.st hs 1 rfl rfl rfl fun h hs => ?_; simp only [List.set_cons_zero, List.set_cons_succ] at hs))
        refine go h (op, de, lk.dropLast) s' (by rw [hnm, hgl, if_pos (by simpa using hc)]) ?_
        rw [List.dropLast_eq_take]
        have := hs.drop
        simpa using this
  refine mIf_intro (fun h7 => ?_) (fun h7 => ?_)
  · have h7 := eqT h7
    (refine Sep.ldI hs 1 rfl rfl ?_; refine Sep.ldI hs 0 rfl rfl ?_; (refine Sep.st hs 1 rfl rfl rfl fun h hs => ?_; simp only [List.set_cons_zero, List.set_cons_succ] at hs))
    exact go h (op, IntKind.i64.wrap (de + o.a), lk) L (by unfold nmid; rw [if_neg h3, if_neg h4, if_neg h5, if_neg h6, if_pos h7]) hs.drop
  have h7 := eqF h7
  refine mIf_intro (fun h8 => ?_) (fun h8 => ?_)
  · have h8 := eqT h8
    (refine Sep.ldI hs 1 rfl rfl ?_; refine Sep.ldI hs 0 rfl rfl ?_; (refine Sep.st hs 1 rfl rfl rfl fun h hs => ?_; simp only [List.set_cons_zero, List.set_cons_succ] at hs))
    exact go h (op, IntKind.i64.wrap (de - o.a), lk) L (by unfold nmid; rw [if_neg h3, if_neg h4, if_neg h5, if_neg h6, if_neg h7, if_pos h8]) hs.drop
  have h8 := eqF h8
  refine mIf_neg (neB (by omega)) ?_
  refine mIf_neg (neB (by omega)) ?_
  exact go h (op, de, lk) L (by unfold nmid; rw [if_neg h3, if_neg h4, if_neg h5, if_neg h6, if_neg h7, if_neg h8]) hs.drop
theorem nstep_len {s s' : NSt} {o : POp} (h : nstep s o = some s') : s'.2.2.length ≤ s.2.2.length + 1 := by
  unfold nstep at h
  cases hm : nmid s o with
  | none => rw [hm] at h; cases h
  | some q =>
    rw [hm] at h
    unfold nok at h
    simp only at h
    split at h
    · cases h
    · cases h
      unfold nmid at hm
      repeat' split at hm
      all_goals first | (cases hm; done) | (cases hm; simp; try omega)
theorem pCheck7 {t : Sl} {ops : List POp} (hr : RdE h0.size h0 encO 3 t ops) (bx gr ct ce : Int) (hol : ops.length ≤ 64) {r n : Nat} : ∀ (d k : Nat) (st : NSt) (L : Sl) (h : Hp), k + d = ops.length → st.2.2.length ≤ k → Sep h0 h (nB n st L :: aRow encI 1 L st.2.2 :: aBlk r [.int .i64 bx, .int .i64 gr, .int .i64 ct, .int .i64 ce] :: R) →
    K_prog_Check_7 ⟨r, 0, none⟩ ⟨n, 0, none⟩ t (t.n : Int) (k : Int) h (fun v h' => v = .int .i64 (progF bx gr ct ce st (ops.drop k)) ∧ Sep h0 h' R)
  | 0, k, st, L, h, hk, hl, hs => by
    have hn := hr.n
    have hln := hs.rowLen 1 rfl
    apply S_prog_Check_7
    unfold B_prog_Check_7
    refine mIf_neg (by simp; omega) ?_
    rw [List.drop_of_length_le (by omega)]
    (refine Sep.ldI hs 0 rfl rfl ?_; simp only [add_mk, Nat.zero_add, mBind_ap])
    unfold progF
    refine mIf_intro (fun hc => ?_) (fun hc => ?_)
    · (rw [mRet_ap]; simp only [mIf_true])
      rw [if_pos (by rw [hc]; rfl)]
      exact ⟨rfl, hs.drop.drop.drop⟩
    · (refine Sep.ldL hs 0 rfl rfl ?_; rw [mRet_ap])
      rw [hln]
      refine mIf_intro (fun h2 => ?_) (fun h2 => ?_)
      · rw [if_pos (by simp at h2 ⊢; omega)]
        exact ⟨rfl, hs.drop.drop.drop⟩
      · rw [if_neg (by simp at h2 hc ⊢; exact ⟨hc, h2⟩)]
        exact ⟨rfl, hs.drop.drop.drop⟩
  | d + 1, k, st, L, h, hk, hl, hs => by
    have hn := hr.n
    have hkl : k < ops.length := by omega
    rw [List.drop_eq_getElem_cons hkl]
    have hw := wrapS k (by omega)
    apply S_prog_Check_7
    unfold B_prog_Check_7
    refine mIf_pos (by simp; omega) ?_
    refine hr.ix hs hkl fun a ha => ?_
    generalize hoe : ops[k] = o at ha ⊢
    (refine Arg.ldI0 ha rfl ?_; refine Arg.ldI ha rfl ?_; refine Arg.ldI ha rfl ?_; (refine Sep.new hs fun nb h hs => ?_; try simp only [List.toList_toArray] at hs); (refine Sep.st hs 0 rfl rfl rfl fun h hs => ?_; simp only [List.set_cons_zero, List.set_cons_succ] at hs); (refine Sep.st hs 0 rfl rfl rfl fun h hs => ?_; simp only [List.set_cons_zero, List.set_cons_succ] at hs); (refine Sep.st hs 0 rfl rfl rfl fun h hs => ?_; simp only [List.set_cons_zero, List.set_cons_succ] at hs); refine Sep.ldI hs 0 rfl rfl ?_; refine Sep.ldI hs 0 rfl rfl ?_; refine Sep.ldI hs 0 rfl rfl ?_; refine Sep.ldI hs 3 rfl rfl ?_; refine Sep.ldI hs 3 rfl rfl ?_; refine Sep.ldI hs 3 rfl rfl ?_; refine Sep.ldI hs 3 rfl rfl ?_; simp only [add_mk, Nat.zero_add, mBind_ap])
    refine (pOp_s o bx gr ct ce hs).mono ?_
    rintro v h ⟨rfl, hs⟩
    simp only [unI_int]
    unfold progF
    refine mIf_intro (fun hc => ?_) (fun hc => ?_)
    · rw [if_pos (by simpa using hc)]
      exact ⟨rfl, hs.drop.drop.drop.drop⟩
    · rw [if_neg (by simpa using hc), hw]
      (refine Sep.ldI hs 0 rfl rfl ?_; refine Sep.ldI hs 0 rfl rfl ?_; refine Sep.ldI hs 0 rfl rfl ?_; simp only [mBind_ap])
      refine (pstep_s o (by omega) (hs.reT 4 [1, 2, 0, 3] rfl (by simp))).mono ?_
      intro v h hv
      cases hq : nstep st o with
      | none =>
        rw [hq] at hv
        obtain ⟨rfl, hs⟩ := hv
        exact ⟨rfl, hs.drop.drop⟩
      | some q =>
        rw [hq] at hv
        obtain ⟨rfl, L', hs⟩ := hv
        simp only [unB_bool]
        refine mIf_neg rfl ?_
        have hql := nstep_len hq
        exact pCheck7 hr bx gr ct ce hol d (k + 1) q L' h (by omega) (by omega) ((hs.reT 4 [2, 0, 1, 3] rfl (by simp)).drop)
theorem pCheck_s {t : Sl} {ops : List POp} (hr : RdE h0.size h0 encO 3 t ops) (bx gr ct ce : Int) (hs : Sep h0 h R) : N_prog_Check t bx gr ct ce h (fun v h' => v = .int .i64 (progE ops bx gr ct ce) ∧ Sep h0 h' R) := by
  have hn := hr.n
  apply S_prog_Check
  unfold B_prog_Check progE
  refine Sep.new hs fun r h hs => ?_
  simp only [List.toList_toArray] at hs
  rw [hn]
  refine mIf_intro (fun hc => ?_) (fun hc => ?_)
  · rw [if_pos (by simpa using hc)]; exact ⟨rfl, hs.drop⟩
  · rw [if_neg (by simpa using hc)]
    refine mIf_intro (fun hc => ?_) (fun hc => ?_)
    · rw [if_pos (by simp at hc; omega)]; exact ⟨rfl, hs.drop⟩
    · rw [if_neg (by simp at hc; omega)]
      refine Sep.new hs fun n h hs => ?_
      simp only [List.toList_toArray] at hs
      rw [← hn]
      exact pCheck7 hr bx gr ct ce (by simp at hc; omega) ops.length 0 (0, 0, []) ⟨none, 0, 0⟩ h (Nat.zero_add _) (Nat.le_refl _) ((hs.nilRow encI 1).swap)
end
end Go.Proofs.Ytimpaammdmeocaa
