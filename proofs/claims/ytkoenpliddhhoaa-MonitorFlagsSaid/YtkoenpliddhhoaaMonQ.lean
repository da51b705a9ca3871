/- Monitor: the law MonitorLate. Conditions: none. -/
import Derived.Test.YtkoenpliddhhoaaMonL
import Derived.Test.YtkoenpliddhhoaaSbW
namespace Go.Proofs.Ytkoenpliddhhoaa
open Go Go.Sb
set_option linter.unusedSimpArgs false
set_option linter.unusedVariables false

abbrev MFin (h0 : Hp) : Value → Hp → Prop := fun v h' => v = .bool true ∧ Under h0.size h0 h'
section late
variable {h0 : Hp} {c : Conf} {ts : List CTask} {ls : Sl} {l : List Rep} {now : Int}
theorem ml8 {cb : Nat} (ht : RdE h0.size h0 CTask.enc 7 c.tasks ts) (hl : RdE h0.size h0 Rep.enc 11 ls l) (hlen : l.length ≤ 150) {got : Sl} : ∀ (d k : Nat) (h : Hp), k + d = l.length →
    Sep h0 h [aBlk cb c.enc, aRow encI 1 got (lates ts now l l.length)] →
    K_signalboxlaw19_MonitorLate_8 now ⟨cb, 0, none⟩ got ((lates ts now l k).length : Nat) ls (ls.n : Int) (k : Int) h (MFin h0)
  | 0, k, h, hk, hs => by
    have hln := hl.n
    have hgn := hs.rowLen 1 rfl
    apply S_signalboxlaw19_MonitorLate_8
    unfold B_signalboxlaw19_MonitorLate_8
    (simp only [add_mk, Nat.zero_add]; rw [decide_eq_false (by omega), mIf_false])
    refine ⟨?_, hs.under⟩
    rw [hgn, show k = l.length by omega]
    simp
  | d + 1, k, h, hk, hs => by
    have ih := ml8 ht hl hlen (cb := cb) (got := got) d (k + 1)
    have htn := ht.n
    have hln := hl.n
    have hgn := hs.rowLen 1 rfl
    have hkl : k < l.length := by omega
    have hsu := lates_succ ts now l hkl
    have hll := lates_len ts now l k
    have hpre : ∀ d, ∃ r, lates ts now l (k + 1 + d) = lates ts now l (k + 1) ++ r := by
      intro d
      induction d with
      | zero => exact ⟨[], by simp⟩
      | succ d ihd =>
        obtain ⟨r, hr⟩ := ihd
        refine ⟨r ++ (match l[k + 1 + d]? with | some r => if late ts now r then [((k + 1 + d : Nat) : Int)] else [] | none => []), ?_⟩
        rw [← List.append_assoc, ← hr]
        rfl
    obtain ⟨r1, hr1⟩ := hpre d
    rw [show k + 1 + d = l.length by omega] at hr1
    apply S_signalboxlaw19_MonitorLate_8
    unfold B_signalboxlaw19_MonitorLate_8
    (simp only [add_mk, Nat.zero_add]; rw [decide_eq_true (by omega), mIf_true]; refine Sep.argEn hs hl (by first | omega | (simp only [List.length_set, List.length_map, List.length_replicate, List.length_append, List.length_cons, List.length_nil, List.length_reverse, List.length_range]; omega) | (simp; omega)) fun aa haa => ?_; refine Arg.ldI0 haa rfl ?_; refine Arg.ldI haa rfl ?_; refine Arg.ldI haa rfl ?_; refine Arg.ldI haa rfl ?_; refine Arg.ldI haa rfl ?_; refine Arg.ldB haa rfl ?_; refine Arg.ldI haa rfl ?_; refine Arg.ldI haa rfl ?_; refine Arg.ldI haa rfl ?_; refine Arg.ldI haa rfl ?_; refine Arg.ldI haa rfl ?_; (refine Sep.new hs fun nb h hs => ?_; try simp only [List.toList_toArray] at hs); (refine Sep.st hs 0 rfl rfl rfl fun h hs => ?_; simp only [List.set_cons_zero, List.set_cons_succ] at hs); (refine Sep.st hs 0 rfl rfl rfl fun h hs => ?_; simp only [List.set_cons_zero, List.set_cons_succ] at hs); (refine Sep.st hs 0 rfl rfl rfl fun h hs => ?_; simp only [List.set_cons_zero, List.set_cons_succ] at hs); (refine Sep.st hs 0 rfl rfl rfl fun h hs => ?_; simp only [List.set_cons_zero, List.set_cons_succ] at hs); (refine Sep.st hs 0 rfl rfl rfl fun h hs => ?_; simp only [List.set_cons_zero, List.set_cons_succ] at hs); (refine Sep.st hs 0 rfl rfl rfl fun h hs => ?_; simp only [List.set_cons_zero, List.set_cons_succ] at hs); (refine Sep.st hs 0 rfl rfl rfl fun h hs => ?_; simp only [List.set_cons_zero, List.set_cons_succ] at hs); (refine Sep.st hs 0 rfl rfl rfl fun h hs => ?_; simp only [List.set_cons_zero, List.set_cons_succ] at hs); (refine Sep.st hs 0 rfl rfl rfl fun h hs => ?_; simp only [List.set_cons_zero, List.set_cons_succ] at hs); (refine Sep.st hs 0 rfl rfl rfl fun h hs => ?_; simp only [List.set_cons_zero, List.set_cons_succ] at hs); (refine Sep.st hs 0 rfl rfl rfl fun h hs => ?_; simp only [List.set_cons_zero, List.set_cons_succ] at hs); refine Sep.ldI hs 0 rfl rfl ?_; simp only [add_mk, Nat.zero_add, mBind_ap])
    generalize l[k] = r at *
    have fin : ∀ (h : Hp), Sep h0 h [aBlk cb c.enc, aRow encI 1 got (lates ts now l l.length)] → (mIf (late ts now r) (
        mBind (mIf (decide (((lates ts now l k).length : Int) ≥ (got.n : Int))) (mRet true) (mIdx got ((lates ts now l k).length : Int) 1 fun (x87 : Addr) =>
          mLdI .i64 x87 fun (x88 : Int) =>
          mRet (x88 != (k : Int)))) fun (b42 : Bool) =>
        mIf b42 (
          mRet (.bool false)) (
          K_signalboxlaw19_MonitorLate_8 now ⟨cb, 0, none⟩ got (IntKind.i64.wrap (((lates ts now l k).length : Int) + (1 : Int))) ls (ls.n : Int) (IntKind.i64.wrap ((k : Int) + (1 : Int)))))
        (K_signalboxlaw19_MonitorLate_8 now ⟨cb, 0, none⟩ got ((lates ts now l k).length : Int) ls (ls.n : Int) (IntKind.i64.wrap ((k : Int) + (1 : Int))))) h (MFin h0) := by
      intro h hs
      rw [wrap64 ((k : Int) + 1) (by omega), show (k : Int) + 1 = ((k + 1 : Nat) : Int) by omega]
      cases hlt : late ts now r with
      | false =>
        rw [hlt] at hsu
        simp only [Bool.false_eq_true, if_false, List.append_nil] at hsu
        (simp only [mIf_false])
        rw [← hsu]
        exact ih h (by omega) hs
      | true =>
        rw [hlt, if_pos rfl] at hsu
        have hlr := congrArg List.length hr1
        have hl1 := congrArg List.length hsu
        simp only [List.length_append, List.length_singleton] at hlr hl1
        (simp only [mIf_true, mBind_ap]; rw [decide_eq_false (by omega), mIf_false]; (refine Sep.idx hs 1 rfl (by first | omega | (simp only [List.length_set, List.length_map, List.length_replicate, List.length_append, List.length_cons, List.length_nil, List.length_reverse, List.length_range]; omega) | (simp; omega)) (by first | omega | (simp only [List.length_set, List.length_map, List.length_replicate, List.length_append, List.length_cons, List.length_nil, List.length_reverse, List.length_range]; omega) | (simp; omega)) fun aa_1 haa_1 => ?_; try simp only [Int.toNat_natCast] at haa_1); refine Sep.rldI0 hs 1 rfl (fun _ => rfl) haa_1 (List.getElem?_eq_getElem (by first | omega | (simp only [List.length_set, List.length_map, List.length_replicate, List.length_append, List.length_cons, List.length_nil, List.length_reverse, List.length_range]; omega) | (simp; omega))) rfl ?_; rw [mRet_ap])
        have hget : (lates ts now l l.length)[(lates ts now l k).length]'(by omega) = (k : Int) := by
          simp [hr1, hsu]
        rw [hget]
        refine mIf_neg (by simp) ?_
        rw [wrap64 _ (by omega), show ((lates ts now l k).length : Int) + 1 = ((lates ts now l (k + 1)).length : Nat) by omega]
        exact ih h (by omega) hs
    have skip : late ts now r = false → K_signalboxlaw19_MonitorLate_8 now ⟨cb, 0, none⟩ got ((lates ts now l k).length : Int) ls (ls.n : Int) (IntKind.i64.wrap ((k : Int) + (1 : Int))) h (MFin h0) := by
      intro hlt
      have := fin h hs.drop
      rw [hlt, mIf_false] at this
      exact this
    by_cases hin : 0 ≤ r.task ∧ r.task < ts.length
    · obtain ⟨j, hj⟩ : ∃ j : Nat, r.task = j := ⟨r.task.toNat, by omega⟩
      have hjn : j < ts.length := by omega
      have hgd : (ts.map (·.deadline)).getD r.task.toNat 0 = ts[j].deadline := by
        rw [hj, Int.toNat_natCast, List.getD_eq_getElem?_getD, List.getElem?_map, List.getElem?_eq_getElem hjn]
        rfl
      have b1 := clampv_b r.release
      have b2 := clampv_b ts[j].deadline
      have hlt : late ts now r = decide (clampv (if r.end_ < 0 then now else r.end_) > clampv r.release + clampv ts[j].deadline) := by
        unfold late
        rw [decide_eq_true hin, hgd]; rfl
      (rw [decide_eq_false (by omega), mIf_false]; refine Sep.ldI hs 0 rfl rfl ?_; refine Sep.ldL hs 1 rfl rfl ?_; rw [mRet_ap]; rw [decide_eq_false (by omega), mIf_false]; refine Sep.ldI hs 0 rfl rfl ?_)
      refine mQ_intro _ (lclamp_q _ _) ?_
      (simp only [unI_int]; refine Sep.ldL hs 1 rfl rfl ?_; refine Sep.ldI hs 0 rfl rfl ?_)
      rw [hj]
      (refine Sep.argEn hs ht (by first | omega | (simp only [List.length_set, List.length_map, List.length_replicate, List.length_append, List.length_cons, List.length_nil, List.length_reverse, List.length_range]; omega) | (simp; omega)) fun aa_1 haa_1 => ?_; refine Arg.ldI haa_1 rfl ?_)
      refine mQ_intro _ (lclamp_q _ _) ?_
      (simp only [unI_int]; refine Sep.ldI hs 0 rfl rfl ?_; simp only [mBind_ap])
      rw [wrap64 (clampv r.release + clampv ts[j].deadline) (by omega)]
      have hfin := fin h hs.drop
      by_cases he : r.end_ < 0
      · rw [if_pos he] at hlt
        (rw [decide_eq_false (by omega), mIf_false]; rw [mRet_ap]; simp only [mIf_false]; refine Sep.ldI hs 0 rfl rfl ?_; simp only [mBind_ap]; rw [decide_eq_true (by omega), mIf_true]; simp only [mBind_ap])
        refine (lclamp_q _ _).mono ?_
        rintro v h' ⟨rfl, rfl⟩
        (simp only [unI_int]; rw [mRet_ap]; rw [mRet_ap])
        rw [← hlt]
        exact hfin
      · rw [if_neg he] at hlt
        (rw [decide_eq_true (by omega), mIf_true]; refine Sep.ldI hs 0 rfl rfl ?_; simp only [mBind_ap])
        refine (lclamp_q _ _).mono ?_
        rintro v h' ⟨rfl, rfl⟩
        simp only [unI_int, mRet_ap]
        rw [← hlt]
        cases hc : late ts now r with
        | true =>
          rw [hc] at hfin
          (simp only [mIf_true]; rw [mRet_ap]; simp only [mIf_true, mBind_ap])
          simpa using hfin
        | false =>
          (simp only [mIf_false]; refine Sep.ldI hs 0 rfl rfl ?_; simp only [mBind_ap]; rw [decide_eq_false (by omega), mIf_false]; rw [mRet_ap]; rw [mRet_ap]; simp only [mIf_false])
          exact skip hc
    · have hlt : late ts now r = false := by unfold late; rw [decide_eq_false hin]; rfl
      by_cases hneg : r.task < 0
      · (rw [decide_eq_true (by omega), mIf_true]; rw [mRet_ap]; simp only [mIf_true])
        exact skip hlt
      · (rw [decide_eq_false (by omega), mIf_false]; refine Sep.ldI hs 0 rfl rfl ?_; refine Sep.ldL hs 1 rfl rfl ?_; rw [mRet_ap]; rw [decide_eq_true (by omega), mIf_true])
        exact skip hlt
theorem MonitorLate_ok (hc : c.ok h0) (hl : RdE h0.size h0 Rep.enc 11 ls l) (_hlo : ∀ x ∈ l, x.ok h0) (_hn : -9223372036854775808 ≤ now ∧ now ≤ 9223372036854775807) :
    N_signalboxlaw19_MonitorLate c.machine.sets c.machine.ways c.machine.hit c.machine.miss c.mailboxes c.groups c.counts c.ceilings c.tasks c.lines ls now h0 (MFin h0) := by
  obtain ⟨_, _, _, _, _, ⟨ts, ht, _⟩, _⟩ := hc
  have htn := ht.n
  have hln := hl.n
  apply S_signalboxlaw19_MonitorLate
  unfold B_signalboxlaw19_MonitorLate
  have hs := Sep.init h0
  ((refine Sep.new hs fun nb h hs => ?_; try simp only [List.toList_toArray] at hs); simp only [add_mk, Nat.zero_add, mBind_ap])
  refine (fixed19_s hs).mono ?_
  rintro v h ⟨rfl, hs⟩
  (simp only [unB_bool, Bool.not_true, mIf_false]; refine Sep.ldL hs 0 rfl rfl ?_)
  refine mIf_intro (fun _ => ⟨rfl, hs.under⟩) (fun hcc => ?_)
  have hcc : ts.length ≤ 20 ∧ l.length ≤ 150 := by simp at hcc; omega
  (refine Sep.ldI hs 0 rfl rfl ?_; refine Sep.ldI hs 0 rfl rfl ?_; refine Sep.ldI hs 0 rfl rfl ?_; refine Sep.ldI hs 0 rfl rfl ?_; refine Sep.ldL hs 0 rfl rfl ?_; refine Sep.ldI hs 0 rfl rfl ?_; refine Sep.ldL hs 0 rfl rfl ?_; refine Sep.ldL hs 0 rfl rfl ?_; refine Sep.ldL hs 0 rfl rfl ?_; refine Sep.ldL hs 0 rfl rfl ?_; simp only [mBind_ap])
  refine (Late_s (c := c) (ht.now hs) (hl.now hs) (by omega) now).mono ?_
  rintro v h' ⟨got, rfl, hs'⟩
  have hs := hs.rebase hs'
  simp only [List.cons_append, List.nil_append] at hs
  (simp only [unL_slice])
  exact ml8 ht hl hcc.2 l.length 0 h' (by omega) hs.swap
end late
end Go.Proofs.Ytkoenpliddhhoaa
