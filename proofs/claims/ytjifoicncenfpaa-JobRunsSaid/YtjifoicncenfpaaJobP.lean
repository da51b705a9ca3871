/- Job: the law JobRuns. Conditions: none. -/
import Derived.Test.YtjifoicncenfpaaJobQ
import Derived.Test.YtjifoicncenfpaaSbW
namespace Go.Proofs.Ytjifoicncenfpaa
open Go Go.Sb
set_option linter.unusedSimpArgs false
set_option linter.unusedVariables false

def delta (k : Int) : Int := if k = 3 then 1 else if k = 4 then -1 else 0
/-- how many regions are open behind the first ones -/
def opn (ops : List COp) : Nat → Int
  | 0 => 0
  | k + 1 => opn ops k + match ops[k]? with
    | some o => delta o.kind
    | none => 0
theorem opn_succ (ops : List COp) {k : Nat} (hk : k < ops.length) : opn ops (k + 1) = opn ops k + delta ops[k].kind := by
  simp only [opn, List.getElem?_eq_getElem hk]
theorem opn_le (ops : List COp) : ∀ k, opn ops k ≤ k ∧ -(k : Int) ≤ opn ops k
  | 0 => by simp [opn]
  | k + 1 => by
    have := opn_le ops k
    simp only [opn]
    cases ops[k]? with
    | none => simp only []; omega
    | some o => simp only []; unfold delta; split <;> (try split) <;> omega
structure RInv (t : CTask) (ops : List COp) (i : Nat) (j : Jb) : Prop where
  t : j.t = t
  at_ : j.at_ = i
  rest : j.rest = 0
  over : j.over = decide (i = ops.length)
  fault : j.fault = false
  reg : j.regions = opn ops i
  psh : -(1073741824 * (i : Int)) ≤ j.pushed ∧ j.pushed ≤ 1073741824 * i
  left : 0 ≤ j.left ∧ j.left ≤ 9223372036854775807
  armed : j.armed = false
section runs
variable {h0 : Hp} {t : CTask} {ops : List COp} {cs : Sl} {costs : List Int}
theorem jr18 (hp : RdE h0.size h0 COp.enc 3 t.program ops) (hz : RdI h0.size h0 .u8 cs costs) (hf : few ops 0 = true) (hop : ∀ k, k ≤ ops.length → 0 ≤ opn ops k) {b : Nat} : ∀ (d i : Nat) (h : Hp) (j : Jb), i + d = ops.length → RInv t ops i j → Sep h0 h [aBlk b j.enc] →
    K_signalboxlaw17_JobRuns_18 cs (opn ops ops.length) (some ⟨b, 0, none⟩) (ops.length : Int) (i : Int) h (JFin h0)
  | 0, i, h, j, hi, hI, hs => by
    apply S_signalboxlaw17_JobRuns_18
    unfold B_signalboxlaw17_JobRuns_18
    (rw [decide_eq_false (by omega), mIf_false]; simp only [mBind_ap])
    refine (Over_s hs).mono ?_
    rintro v h' ⟨rfl, rfl⟩
    (simp only [unB_bool, mBind_ap])
    rw [hI.over, decide_eq_true (by omega)]
    (simp only [mIf_true, mBind_ap])
    refine (Fault_s hs).mono ?_
    rintro v h' ⟨rfl, rfl⟩
    (simp only [unB_bool]; rw [mRet_ap])
    rw [hI.fault]
    (simp only [Bool.not_false, mIf_true, mBind_ap])
    refine (Open_s hs).mono ?_
    rintro v h' ⟨rfl, rfl⟩
    refine ⟨?_, hs.under⟩
    rw [hI.reg, show i = ops.length by omega]
    simp
  | d + 1, i, h, j, hi, hI, hs => by
    have ih := jr18 hp hz hf hop (b := b) d (i + 1)
    have hil : i < ops.length := by omega
    have hln := hz.n
    have hfew : ops.length ≤ 80 ∧ -1073741824 ≤ ops[i].a ∧ ops[i].a ≤ 1073741824 := by
      unfold few at hf
      simp only [Bool.and_eq_true, List.all_eq_true] at hf
      have h1 := hf.1 _ (List.getElem_mem hil)
      have h2 := hf.2.1
      simp at h1 h2
      omega
    have step : ∀ (c : Int), 1 ≤ c → c ≤ 255 → (N_job_Job_Begin (some ⟨b, 0, none⟩) c) h (fun v h' => ∃ e, v = .int .i64 e ∧
        K_signalboxlaw17_JobRuns_26 cs (opn ops ops.length) (some ⟨b, 0, none⟩) (i : Int) (if e = 11 then 1 else c) e (ops.length : Int) (i : Int) h' (JFin h0)) := by
      intro c c1 c2
      have hov : j.over = false := by rw [hI.over]; exact decide_eq_false (by omega)
      have hat : j.over = false → 0 ≤ j.at_ ∧ j.at_ < ops.length := fun _ => by rw [hI.at_]; omega
      refine (Begin_s hs (by rw [hI.t]; exact hp) hat c).mono ?_
      rintro v h ⟨rfl, hs⟩
      refine ⟨_, rfl, ?_⟩
      have hok : opOk j = true := by unfold opOk; rw [hov, hI.rest]; rfl
      have hop1 : opJ ops j = ops[i] := by
        unfold opJ
        rw [hov, hI.rest, hI.at_]
        simp only [Bool.false_or, Int.lt_irrefl, gt_iff_lt, decide_false, Bool.false_eq_true, if_false, Int.toNat_natCast]
        rw [List.getD_eq_getElem?_getD, List.getElem?_eq_getElem hil]; rfl
      have hbg : beginJ ops j c = doJ (begin1 j c) ops[i] := by unfold beginJ; rw [hok, hop1]; rfl
      have hb1 : begin1 j c = ⟨j.t, j.at_, c, j.regions, j.pushed, j.left, j.armed, j.fault, j.over⟩ := by
        unfold begin1
        congr 1
        split <;> omega
      rw [hbg, hb1] at hs ⊢
      have ps := hI.psh
      have rg := hI.reg
      have ro := opn_le ops i
      have rn := hop i (by omega)
      have rn1 := hop (i + 1) (by omega)
      have rs := opn_succ ops hil
      have hi80 : (i : Int) ≤ 80 := by omega
      -- what the operation does
      have key : (doJ ⟨j.t, j.at_, c, j.regions, j.pushed, j.left, j.armed, j.fault, j.over⟩ ops[i]).1 = 11 ∧ (doJ ⟨j.t, j.at_, c, j.regions, j.pushed, j.left, j.armed, j.fault, j.over⟩ ops[i]).2 = ⟨j.t, j.at_, 1, j.regions, j.pushed, j.left, j.armed, true, j.over⟩ ∨
          (doJ ⟨j.t, j.at_, c, j.regions, j.pushed, j.left, j.armed, j.fault, j.over⟩ ops[i]).1 = 0 ∧ ∃ (r p : Int), (doJ ⟨j.t, j.at_, c, j.regions, j.pushed, j.left, j.armed, j.fault, j.over⟩ ops[i]).2 = ⟨j.t, j.at_, c, r, p, j.left, j.armed, j.fault, j.over⟩ ∧ r = opn ops (i + 1) ∧ -(1073741824 * ((i + 1 : Nat) : Int)) ≤ p ∧ p ≤ 1073741824 * ((i + 1 : Nat) : Int) := by
        generalize ops[i] = o at *
        unfold doJ
        by_cases h3 : o.kind = 3
        · rw [if_pos (by simpa using h3)]
          refine .inr ⟨rfl, _, _, rfl, ?_, ?_⟩
          · show IntKind.i64.wrap (j.regions + 1) = _
            rw [wrap64 _ (by omega), rs, rg]; unfold delta; rw [if_pos h3]
          · show _ ≤ j.pushed ∧ j.pushed ≤ _
            omega
        rw [if_neg (by simpa using h3)]
        by_cases h4 : o.kind = 4
        · rw [if_pos (by simpa using h4)]
          have hd : delta o.kind = -1 := by unfold delta; rw [if_neg h3, if_pos h4]
          refine .inr ⟨rfl, _, _, rfl, ?_, ?_⟩
          · show (if (0 : Int) > IntKind.i64.wrap (j.regions - 1) then 0 else IntKind.i64.wrap (j.regions - 1)) = _
            rw [wrap64 _ (by omega)]
            split <;> omega
          · show _ ≤ j.pushed ∧ j.pushed ≤ _
            omega
        rw [if_neg (by simpa using h4)]
        have hd : delta o.kind = 0 := by unfold delta; rw [if_neg h3, if_neg h4]
        by_cases h7 : o.kind = 7
        · rw [if_pos (by simpa using h7)]
          unfold pushJ
          have hw : IntKind.i64.wrap (j.pushed + o.a) = j.pushed + o.a := wrap64 _ (by omega)
          simp only
          rw [hw]
          split
          · exact .inl ⟨rfl, rfl⟩
          · refine .inr ⟨rfl, j.regions, _, rfl, by omega, by omega⟩
        rw [if_neg (by simpa using h7)]
        by_cases h8 : o.kind = 8
        · rw [if_pos (by simpa using h8)]
          refine .inr ⟨rfl, j.regions, _, rfl, by omega, ?_⟩
          show _ ≤ (if (0 : Int) > IntKind.i64.wrap (j.pushed - o.a) then 0 else IntKind.i64.wrap (j.pushed - o.a)) ∧ (if (0 : Int) > IntKind.i64.wrap (j.pushed - o.a) then 0 else IntKind.i64.wrap (j.pushed - o.a)) ≤ _
          rw [wrap64 _ (by omega)]
          split <;> omega
        · rw [if_neg (by simpa using h8)]
          exact .inr ⟨rfl, j.regions, j.pushed, rfl, by omega, by omega⟩
      generalize doJ ⟨j.t, j.at_, c, j.regions, j.pushed, j.left, j.armed, j.fault, j.over⟩ ops[i] = q at hs key ⊢
      obtain ⟨e, j2⟩ := q
      simp only at hs key ⊢
      apply S_signalboxlaw17_JobRuns_26
      unfold B_signalboxlaw17_JobRuns_26
      rw [mBind_ap]
      refine (Rest_s hs).mono ?_
      rintro v h' ⟨rfl, rfl⟩
      (simp only [unI_int, mBind_ap])
      rcases key with ⟨rfl, rfl⟩ | ⟨rfl, r, p, rfl, hr, hpb⟩
      · rw [if_pos rfl]
        simp only [bne_self_eq_false]
        (simp only [mIf_false, mBind_ap])
        refine (Burn_s hs 1).mono ?_
        rintro v h ⟨rfl, hs⟩
        rw [burnN_eq]
        (simp only [unI_int]; rw [mRet_ap])
        refine mIf_neg (by decide) ?_
        refine mIf_pos (by decide) ?_
        refine mIf_pos (by decide) ?_
        have hfo : (burnJ ⟨j.t, j.at_, 1, j.regions, j.pushed, j.left, j.armed, true, j.over⟩ 1).over = true ∧ (burnJ ⟨j.t, j.at_, 1, j.regions, j.pushed, j.left, j.armed, true, j.over⟩ 1).fault = true := by
          have hbd : JBd ⟨j.t, j.at_, 1, j.regions, j.pushed, j.left, j.armed, true, j.over⟩ := ⟨by simp only; omega, hI.left⟩
          rw [burnJ_eq hbd, burnP_pos (m := 1) (by simp only; omega) (by decide)]
          exact ⟨rfl, rfl⟩
        (simp only [mBind_ap])
        refine (Over_s hs).mono ?_
        rintro v h' ⟨rfl, rfl⟩
        rw [hfo.1]
        (simp only [unB_bool]; rw [mRet_ap]; simp only [mIf_true, mBind_ap])
        refine (Fault_s hs).mono ?_
        rintro v h' ⟨rfl, rfl⟩
        rw [hfo.2]
        exact ⟨rfl, hs.under⟩
      · rw [if_neg (by decide)]
        simp only [bne_self_eq_false]
        (simp only [mIf_false, mBind_ap])
        refine (Burn_s hs c).mono ?_
        rintro v h ⟨rfl, hs⟩
        have hbj : burnJ ⟨j.t, j.at_, c, r, p, j.left, j.armed, j.fault, j.over⟩ c = ⟨t, ((i + 1 : Nat) : Int), 0, r, p, j.left, false, false, decide (i + 1 = ops.length)⟩ := by
          have hbd : JBd ⟨j.t, j.at_, c, r, p, j.left, j.armed, j.fault, j.over⟩ := ⟨by simp only; omega, hI.left⟩
          rw [burnJ_eq hbd, burnP_pos (m := c) (by simp only; omega) (by omega)]
          unfold burn2
          have hpn := hp.n
          simp only [show c - c = 0 by omega, beq_self_eq_true, if_true]
          rw [hI.armed, hI.fault, hI.at_, hI.t, wrap64 _ (by omega)]
          simp only [Bool.false_eq_true, if_false, Bool.false_or]
          rw [show (i : Int) + 1 = ((i + 1 : Nat) : Int) by omega, hpn]
          congr 1
          by_cases he : i + 1 = ops.length
          · rw [decide_eq_true he, he]; simp
          · rw [decide_eq_false he]; simpa using fun h => he (by omega)
        rw [hbj] at hs
        rw [burnN_eq, show min (max c 0) (Jb.rest ⟨j.t, j.at_, c, r, p, j.left, j.armed, j.fault, j.over⟩) = c by simp only; omega]
        (simp only [unI_int]; rw [mRet_ap])
        refine mIf_neg (by simp) ?_
        (simp only [mBind_ap])
        refine (At_s hs).mono ?_
        rintro v h' ⟨rfl, rfl⟩
        rw [unI_int, wrap64 ((i : Int) + 1) (by omega), show (i : Int) + 1 = ((i + 1 : Nat) : Int) by omega]
        simp only [bne_self_eq_false, mIf_false]
        have hI' : RInv t ops (i + 1) ⟨t, ((i + 1 : Nat) : Int), 0, r, p, j.left, false, false, decide (i + 1 = ops.length)⟩ := ⟨rfl, rfl, rfl, rfl, rfl, hr, hpb, hI.left, rfl⟩
        exact ih _ _ (by omega) hI' hs
    apply S_signalboxlaw17_JobRuns_18
    unfold B_signalboxlaw17_JobRuns_18
    rw [decide_eq_true (by omega), mIf_true]
    refine mIf_dec (fun hc => ?_) (fun hc => ?_)
    · have hic : i < costs.length := by omega
      have hzi := hz.wf costs[i] (List.getElem_mem hic)
      rw [show IntKind.u8.min = 0 by decide, show IntKind.u8.max = 255 by decide] at hzi
      (refine Sep.argIn hs hz (by first | omega | (simp only [List.length_set, List.length_map, List.length_replicate, List.length_append, List.length_cons, List.length_nil, List.length_reverse, List.length_range]; omega) | (simp; omega)) ?_; simp only [mBind_ap])
      rw [wrap64 _ (by omega)]
      refine (step _ (by split <;> omega) (by split <;> omega)).mono ?_
      rintro v h' ⟨e, rfl, hk⟩
      rw [unI_int]
      refine mIf_intro (fun he => ?_) (fun he => ?_)
      · rw [if_pos (by simpa using he)] at hk
        exact hk
      · rw [if_neg (by simpa using he)] at hk
        exact hk
    · rw [mBind_ap]
      refine (step 1 (by omega) (by omega)).mono ?_
      rintro v h' ⟨e, rfl, hk⟩
      rw [unI_int]
      rw [ite_self] at hk
      refine mIf_intro (fun _ => hk) (fun _ => hk)
theorem jr7 (hp : RdE h0.size h0 COp.enc 3 t.program ops) (hz : RdI h0.size h0 .u8 cs costs) (hf : few ops 0 = true) (hfl : t.float ≤ 9223372036854775807) {tb : Nat} : ∀ (d i : Nat) (h : Hp), i + d = ops.length → (∀ k, k ≤ i → 0 ≤ opn ops k) → Sep h0 h [aBlk tb t.enc] →
    K_signalboxlaw17_JobRuns_7 cs ⟨tb, 0, none⟩ (opn ops i) t.program (t.program.n : Int) (i : Int) h (JFin h0)
  | 0, i, h, hi, ho, hs => by
    have hpn := hp.n
    obtain rfl : i = ops.length := by omega
    apply S_signalboxlaw17_JobRuns_7
    unfold B_signalboxlaw17_JobRuns_7
    (simp only [add_mk, Nat.zero_add]; rw [decide_eq_false (by omega), mIf_false]; refine Sep.ldI hs 0 rfl rfl ?_; refine Sep.ldI hs 0 rfl rfl ?_; refine Sep.ldI hs 0 rfl rfl ?_; refine Sep.ldI hs 0 rfl rfl ?_; refine Sep.ldI hs 0 rfl rfl ?_; refine Sep.ldI hs 0 rfl rfl ?_; refine Sep.ldL hs 0 rfl rfl ?_; simp only [mBind_ap])
    refine (New_s hs t).mono ?_
    rintro v h ⟨b, rfl, hs⟩
    (simp only [unP_pointer]; refine Sep.ldL hs 1 rfl rfl ?_)
    rw [hpn]
    refine jr18 hp hz hf ho ops.length 0 h (newJ t) (by omega) ⟨rfl, rfl, rfl, ?_, rfl, rfl, by unfold newJ; simp, (new_bd hfl).left, rfl⟩ hs.swap.drop
    unfold newJ
    simp only
    rw [hpn]
    by_cases he : ops.length = 0
    · rw [he]; rfl
    · rw [decide_eq_false (by omega)]
      simpa using he
  | d + 1, i, h, hi, ho, hs => by
    have ih := jr7 hp hz hf hfl (tb := tb) d (i + 1)
    have hpn := hp.n
    have hil : i < ops.length := by omega
    have hl80 : ops.length ≤ 80 := by
      unfold few at hf
      simp only [Bool.and_eq_true] at hf
      have h2 := hf.2.1
      simp at h2
      omega
    have ro := opn_le ops i
    have rs := opn_succ ops hil
    have next : ∀ (h : Hp), Sep h0 h [aBlk tb t.enc] → mIf (decide (opn ops (i + 1) < 0)) (mRet (.bool true)) (K_signalboxlaw17_JobRuns_7 cs ⟨tb, 0, none⟩ (opn ops (i + 1)) t.program (t.program.n : Int) (IntKind.i64.wrap ((i : Int) + 1))) h (JFin h0) := by
      intro h hs
      refine mIf_dec (fun _ => ⟨rfl, hs.under⟩) (fun hc => ?_)
      rw [wrap64 _ (by omega), show (i : Int) + 1 = ((i + 1 : Nat) : Int) by omega]
      refine ih h (by omega) (fun k hk => ?_) hs
      by_cases hk' : k ≤ i
      · exact ho k hk'
      · rw [show k = i + 1 by omega]; omega
    apply S_signalboxlaw17_JobRuns_7
    unfold B_signalboxlaw17_JobRuns_7
    (simp only [add_mk, Nat.zero_add]; rw [decide_eq_true (by omega), mIf_true]; refine Sep.argEn hs hp (by first | omega | (simp only [List.length_set, List.length_map, List.length_replicate, List.length_append, List.length_cons, List.length_nil, List.length_reverse, List.length_range]; omega) | (simp; omega)) fun aa haa => ?_; refine Arg.ldI0 haa rfl ?_; refine Arg.ldI haa rfl ?_; refine Arg.ldI haa rfl ?_; (refine Sep.new hs fun nb h hs => ?_; try simp only [List.toList_toArray] at hs); (refine Sep.st hs 0 rfl rfl rfl fun h hs => ?_; simp only [List.set_cons_zero, List.set_cons_succ] at hs); (refine Sep.st hs 0 rfl rfl rfl fun h hs => ?_; simp only [List.set_cons_zero, List.set_cons_succ] at hs); (refine Sep.st hs 0 rfl rfl rfl fun h hs => ?_; simp only [List.set_cons_zero, List.set_cons_succ] at hs); refine Sep.ldI hs 0 rfl rfl ?_)
    generalize ops[i] = o at *
    by_cases h3 : o.kind = 3
    · have hd : delta o.kind = 1 := by unfold delta; rw [if_pos h3]
      refine mIf_pos (by simpa using h3) ?_
      (refine Sep.ldI hs 0 rfl rfl ?_)
      refine mIf_neg (by simp [h3]) ?_
      rw [wrap64 _ (by omega), show opn ops i + 1 = opn ops (i + 1) by omega]
      exact next h hs.drop
    · refine mIf_neg (by simpa using h3) ?_
      (refine Sep.ldI hs 0 rfl rfl ?_)
      by_cases h4 : o.kind = 4
      · have hd : delta o.kind = -1 := by unfold delta; rw [if_neg h3, if_pos h4]
        refine mIf_pos (by simpa using h4) ?_
        rw [wrap64 _ (by omega), show opn ops i - 1 = opn ops (i + 1) by omega]
        exact next h hs.drop
      · have hd : delta o.kind = 0 := by unfold delta; rw [if_neg h3, if_neg h4]
        refine mIf_neg (by simpa using h4) ?_
        rw [show opn ops i = opn ops (i + 1) by omega]
        exact next h hs.drop
theorem JobRuns_ok (ht : t.ok h0) (hz : RdI h0.size h0 .u8 cs costs) : N_signalboxlaw17_JobRuns t.priority t.threshold t.period t.deadline t.frame t.float t.program cs h0 (JFin h0) := by
  obtain ⟨_, _, _, _, _, hfl, hlen, ops, hp, _⟩ := ht
  have hpn := hp.n
  apply S_signalboxlaw17_JobRuns
  unfold B_signalboxlaw17_JobRuns
  have hs := Sep.init h0
  ((refine Sep.new hs fun nb h hs => ?_; try simp only [List.toList_toArray] at hs); simp only [add_mk, Nat.zero_add, mBind_ap])
  refine (fixed17_s hs).mono ?_
  rintro v h ⟨rfl, hs⟩
  (simp only [unB_bool, Bool.not_true, mIf_false]; refine Sep.ldI hs 0 rfl rfl ?_; refine Sep.ldI hs 0 rfl rfl ?_; refine Sep.ldI hs 0 rfl rfl ?_; refine Sep.ldI hs 0 rfl rfl ?_; refine Sep.ldI hs 0 rfl rfl ?_; refine Sep.ldI hs 0 rfl rfl ?_; refine Sep.ldL hs 0 rfl rfl ?_; simp only [mBind_ap])
  refine (few_s hs t hp ⟨none, 0, 0⟩ (by omega)).mono ?_
  rintro v h ⟨rfl, hs⟩
  (simp only [unB_bool])
  refine mIf_intro (fun _ => ⟨rfl, hs.under⟩) (fun hf => ?_)
  (refine Sep.ldL hs 0 rfl rfl ?_)
  exact jr7 hp hz (by simpa using hf) hfl.2 ops.length 0 h (by omega) (fun k hk => by rw [show k = 0 by omega]; simp [opn]) hs
end runs
end Go.Proofs.Ytjifoicncenfpaa
