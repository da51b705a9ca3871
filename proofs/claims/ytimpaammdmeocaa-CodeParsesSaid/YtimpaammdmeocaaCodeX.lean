/- Configurations as bytes: the law CodeBytes. Conditions: none. -/
import Derived.Test.YtimpaammdmeocaaCodeW
import Derived.Test.YtimpaammdmeocaaCfgC
import Derived.Test.YtimpaammdmeocaaSbW
namespace Go.Proofs.Ytimpaammdmeocaa
open Go Go.Sb
set_option linter.unusedSimpArgs false
set_option linter.unusedVariables false
set_option linter.unusedVariables false
section
variable {h0 h : Hp} {R L : List As} {C : PCfg} {sm sc se st sl : Sl} {ts : List (PTask × Sl)}
/-- read of a row of one's own -/
theorem ParseO {o : Sl} {X : List Int} {k : Nat} (hs : Sep h0 h R) (hk : R[k]? = some (aRow encB 1 o X)) (hX : isB X) (hl : X.length ≤ 1000000) : N_code_Parse o h (PaQ h0 R (parseC X)) := by
  obtain ⟨hr, hc⟩ := rowB hs hk hX
  refine (Parse_s hr hc hl (Sep.init h)).mono ?_
  rintro v h' ⟨sm, sc, se, st, sl, ts, rfl, ho, hs'⟩
  exact ⟨sm, sc, se, st, sl, ts, rfl, ho, Sep.rebase hs hs'⟩
theorem few_lens (hf : fewB C = true) : fewLens C := by
  unfold fewB at hf
  simp only [Bool.and_eq_true, decide_eq_true_eq, List.all_eq_true] at hf
  refine ⟨by omega, by omega, by omega, by omega, by omega, fun t ht => ?_⟩
  have := hf.1.1.1.1.1 t ht
  omega
theorem enc_len (hk : checkN C = 0) : (encCfg C).length ≤ 100000 := by
  obtain ⟨l1, l2, l3, l4, l5, l6⟩ := check_lens hk
  have y1 := wrL_len [C.sets, C.ways, C.hit, C.miss] [83, 66]
  simp only [List.length_cons, List.length_nil] at y1
  unfold encCfg encBody wrList
  generalize wrL [83, 66] [C.sets, C.ways, C.hit, C.miss] = X1 at y1 ⊢
  have y2 := wrL_len ((C.mail.length : Int) :: C.mail) X1
  generalize wrL X1 ((C.mail.length : Int) :: C.mail) = X2 at y2 ⊢
  have y3 := wrN_len X2 C.groups
  generalize wrN X2 C.groups = X3 at y3 ⊢
  have y4 := wrL_len ((C.counts.length : Int) :: C.counts) X3
  generalize wrL X3 ((C.counts.length : Int) :: C.counts) = X4 at y4 ⊢
  have y5 := wrL_len ((C.ceils.length : Int) :: C.ceils) X4
  generalize wrL X4 ((C.ceils.length : Int) :: C.ceils) = X5 at y5 ⊢
  have y6 := wrN_len X5 (C.tasks.length : Int)
  generalize wrN X5 (C.tasks.length : Int) = X6 at y6 ⊢
  have y7 := encTasks_len C.tasks X6 l6
  generalize C.tasks.foldl encTask X6 = X7 at y7 ⊢
  have y8 := wrL_len ((C.lines.length : Int) :: C.lines) X7
  rw [List.length_append, List.length_singleton]
  rw [List.length_cons] at y2 y4 y5 y8
  omega
set_option maxRecDepth 100000 in
theorem CodeBytes_c (hc : CRd h0 C sm sc se st sl ts) (hb : (st.n : Int) ≤ 9223372036854775807) : N_signalboxlaw46_CodeBytes C.sets C.ways C.hit C.miss sm C.groups sc se st sl h0 (CFin h0) := by
  apply S_signalboxlaw46_CodeBytes
  unfold B_signalboxlaw46_CodeBytes
  refine Sep.new (Sep.init h0) fun x1 h hs => ?_
  simp only [List.toList_toArray] at hs
  have hs : Sep h0 h [aBlk x1 (cfgC C sm sc se st sl)] := hs
  rw [mBind_ap]
  refine fixed46_s.mono ?_
  rintro v h' ⟨rfl, hu⟩
  have hs := hs.more hu
  simp only [unB_bool]
  refine mIf_neg rfl ?_
  (refine Sep.ldI hs 0 rfl rfl ?_; refine Sep.ldI hs 0 rfl rfl ?_; refine Sep.ldI hs 0 rfl rfl ?_; refine Sep.ldI hs 0 rfl rfl ?_; refine Sep.ldL hs 0 rfl rfl ?_; refine Sep.ldI hs 0 rfl rfl ?_; refine Sep.ldL hs 0 rfl rfl ?_; refine Sep.ldL hs 0 rfl rfl ?_; refine Sep.ldL hs 0 rfl rfl ?_; refine Sep.ldL hs 0 rfl rfl ?_; simp only [add_mk, Nat.zero_add, mBind_ap])
  refine (Few_s hc hb hs).mono ?_
  rintro v h ⟨rfl, hs⟩
  cases hf : fewB C
  · (simp only [unB_bool, Bool.not_false, mIf_true, mBind_ap]; rw [mRet_ap]; simp only [mIf_true]; rw [mRet_ap]; simp only [mIf_true])
    exact ⟨rfl, hs.under⟩
  (simp only [unB_bool, Bool.not_true, mIf_false, mBind_ap]; refine Sep.ldI hs 0 rfl rfl ?_; rw [mRet_ap])
  have hfl := few_lens hf
  refine mIf_intro (fun hg => ?_) (fun hg => ?_)
  · (rw [mRet_ap]; simp only [mIf_true])
    exact ⟨rfl, hs.under⟩
  (refine Sep.ldI hs 0 rfl rfl ?_; rw [mRet_ap])
  refine mIf_intro (fun hg2 => ⟨rfl, hs.under⟩) (fun hg2 => ?_)
  (refine Sep.ldI hs 0 rfl rfl ?_; refine Sep.ldI hs 0 rfl rfl ?_; refine Sep.ldI hs 0 rfl rfl ?_; refine Sep.ldI hs 0 rfl rfl ?_; refine Sep.ldL hs 0 rfl rfl ?_; refine Sep.ldI hs 0 rfl rfl ?_; refine Sep.ldL hs 0 rfl rfl ?_; refine Sep.ldL hs 0 rfl rfl ?_; refine Sep.ldL hs 0 rfl rfl ?_; refine Sep.ldL hs 0 rfl rfl ?_; simp only [mBind_ap])
  refine (Bytes_s hc hs).mono ?_
  rintro v h ⟨o, rfl, hs⟩
  simp only [un2_tuple, unL_slice, unI_int]
  have hon := hs.rowLen 0 rfl
  (refine Sep.ldI hs 1 rfl rfl ?_; refine Sep.ldI hs 1 rfl rfl ?_; refine Sep.ldI hs 1 rfl rfl ?_; refine Sep.ldI hs 1 rfl rfl ?_; refine Sep.ldL hs 1 rfl rfl ?_; refine Sep.ldI hs 1 rfl rfl ?_; refine Sep.ldL hs 1 rfl rfl ?_; refine Sep.ldL hs 1 rfl rfl ?_; refine Sep.ldL hs 1 rfl rfl ?_; refine Sep.ldL hs 1 rfl rfl ?_; simp only [mBind_ap])
  refine (rConf_s hc hs).mono ?_
  rintro v h ⟨rfl, hs⟩
  simp only [unI_int]
  by_cases hk : checkN C = 0
  · rw [hk] at hs ⊢
    simp only [if_true] at hs
    refine mIf_neg rfl ?_
    have hX := encCfg_B C
    have hXl := enc_len hk
    have hpe := parse_enc hk
    generalize hXe : encCfg C = X at hs hX hXl hpe
    rw [mBind_ap]
    refine (ParseO hs (k := 0) rfl hX (by omega)).mono ?_
    rintro v h ⟨sm3, sc3, se3, st3, sl3, ts3, rfl, ho3, hs⟩
    rw [hpe] at ho3 hs ⊢
    have hs : Sep h0 h (aRow encB 1 o X :: aBlk x1 (cfgC C sm sc se st sl) :: cfgA C sm3 sc3 se3 st3 sl3 ts3) := cfg_back hs
    simp only [unT_tuple, unA_agg, unC_cons, unI_int, unL_slice, unE_nil, List.toList_toArray]
    ((refine Sep.new hs fun nb h hs => ?_; try simp only [List.toList_toArray] at hs); (refine Sep.st hs 0 rfl rfl rfl fun h hs => ?_; simp only [List.set_cons_zero, List.set_cons_succ] at hs); (refine Sep.st hs 0 rfl rfl rfl fun h hs => ?_; simp only [List.set_cons_zero, List.set_cons_succ] at hs); (refine Sep.st hs 0 rfl rfl rfl fun h hs => ?_; simp only [List.set_cons_zero, List.set_cons_succ] at hs); (refine Sep.st hs 0 rfl rfl rfl fun h hs => ?_; simp only [List.set_cons_zero, List.set_cons_succ] at hs); (refine Sep.st hs 0 rfl rfl rfl fun h hs => ?_; simp only [List.set_cons_zero, List.set_cons_succ] at hs); (refine Sep.st hs 0 rfl rfl rfl fun h hs => ?_; simp only [List.set_cons_zero, List.set_cons_succ] at hs); (refine Sep.st hs 0 rfl rfl rfl fun h hs => ?_; simp only [List.set_cons_zero, List.set_cons_succ] at hs); (refine Sep.st hs 0 rfl rfl rfl fun h hs => ?_; simp only [List.set_cons_zero, List.set_cons_succ] at hs); (refine Sep.st hs 0 rfl rfl rfl fun h hs => ?_; simp only [List.set_cons_zero, List.set_cons_succ] at hs); (refine Sep.st hs 0 rfl rfl rfl fun h hs => ?_; simp only [List.set_cons_zero, List.set_cons_succ] at hs); simp only [add_mk, Nat.zero_add])
    have hse := str_eq hX hX
    rw [decide_eq_true rfl] at hse
    have rb : ∀ h L, Sep h0 h L → N_signalboxref46_Bytes C.sets C.ways C.hit C.miss sm C.groups sc se st sl h (fun v h' => ∃ o2 : Sl, v = .slice o2.p o2.n o2.c ∧ RdI h'.size h' .u8 o2 X ∧ Sep h0 h' L) := by
      intro h L hs
      refine (rBytes_s hc hk hs).mono ?_
      rintro v h ⟨o2, rfl, hs⟩
      rw [hXe] at hs
      exact ⟨o2, rfl, (rowB hs (k := 0) rfl hX).1, hs.drop⟩
    have own : ∀ h b6 cs, Sep h0 h (aBlk b6 cs :: aRow encB 1 o X :: aBlk x1 (cfgC C sm sc se st sl) :: cfgA C sm3 sc3 se3 st3 sl3 ts3) → RdI h.size h .u8 o X := fun h b6 cs hs => (rowB hs (k := 1) rfl hX).1
    have same : ∀ h b6 cs, Sep h0 h (aBlk b6 cs :: aRow encB 1 o X :: aBlk x1 (cfgC C sm sc se st sl) :: cfgA C sm3 sc3 se3 st3 sl3 ts3) → N_signalboxref07_Same C.sets C.ways C.hit C.miss sm C.groups sc se st sl C.sets C.ways C.hit C.miss sm3 C.groups sc3 se3 st3 sl3 h (fun v h' => v = .bool true ∧ Under h0.size h0 h') := by
      intro h b6 cs hs
      have hcd := crd_own ho3 (cfg_front (R := [_, _, _]) hs)
      refine (Same_s (hc.now hs) hcd hfl (Sep.init h)).mono ?_
      rintro v h' ⟨rfl, hs'⟩
      exact ⟨rfl, (hs.more hs'.under).under⟩
    refine mIf_pos rfl ?_
    repeat' (first | with_reducible refine mAnd_intro ?_ ?_ | (first | (((with_reducible refine gd_mLdI ?_); refine Sep.ldI hs 2 rfl rfl ?_)) | (((with_reducible refine gd_mLdL ?_); refine Sep.ldL hs 2 rfl rfl ?_)) | ((simp only [mBind_ap])) | ((simp only [unL_slice])) | (((with_reducible refine gd_mLdI ?_); refine Sep.ldI hs 0 rfl rfl ?_)) | (((with_reducible refine gd_mLdL ?_); refine Sep.ldL hs 0 rfl rfl ?_)) | ((simp only [unB_bool]))) | with_reducible refine mIf_pos hse ?_ | with_reducible refine mIf_pos rfl ?_ | with_reducible refine mIf_pos (beq_self_eq_true _) ?_ | (with_reducible refine (own _ _ _ hs).str ?_) | (with_reducible refine RdI.str (by assumption) ?_) | (refine (rb _ _ hs).mono ?_; rintro v h ⟨o2, rfl, hro, hs⟩) | (refine (same _ _ _ hs).mono ?_; rintro v h ⟨rfl, hu⟩))
    all_goals exact ⟨rfl, hu⟩
  · refine mIf_pos (by simpa using hk) ?_
    rw [if_neg hk] at hs hon
    refine ⟨?_, hs.under⟩
    rw [hon]
    simp
theorem CodeBytes_ok {y : CConf} (o : y.ok h0) : N_signalboxlaw46_CodeBytes y.machine.sets y.machine.ways y.machine.hit y.machine.miss y.mailboxes y.groups y.counts y.ceilings y.tasks y.lines h0 (CFin h0) := by
  obtain ⟨M, cs, ce, T, L, ts, hc, hb⟩ := conf_rd o
  have := CodeBytes_c hc hb
  exact this
end
end Go.Proofs.Ytimpaammdmeocaa
