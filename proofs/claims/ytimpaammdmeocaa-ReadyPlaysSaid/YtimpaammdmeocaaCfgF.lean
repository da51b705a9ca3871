/- Configurations: which are not too great to be asked about. Conditions: none. -/
import Derived.Test.YtimpaammdmeocaaCfgV
import Derived.Test.YtimpaammdmeocaaSbW
namespace Go.Proofs.Ytimpaammdmeocaa
open Go Go.Sb
set_option linter.unusedSimpArgs false
set_option linter.unusedVariables false
set_option linter.unusedVariables false
section
variable {h0 h : Hp} {R L : List As} {C : PCfg} {sm sc se st sl : Sl} {ts : List (PTask × Sl)}
def fewB (C : PCfg) : Bool := C.tasks.all (fun t => decide (t.ops.length ≤ 80)) && decide (C.mail.length ≤ 20) && decide (C.counts.length ≤ 20) && decide (C.ceils.length ≤ 20) && decide (C.tasks.length ≤ 20) && decide (C.lines.length ≤ 20)
theorem few2 (hc : CRd h0 C sm sc se st sl ts) (hb : (st.n : Int) ≤ 9223372036854775807) {c : Nat} : ∀ (d k : Nat) (h : Hp), k + d = ts.length → (C.tasks.take k).all (fun t => decide (t.ops.length ≤ 80)) = true → Sep h0 h (aBlk c (cfgC C sm sc se st sl) :: R) →
    K_signalboxref07_Few_2 ⟨c, 0, none⟩ st (st.n : Int) (k : Int) h (fun v h' => v = .bool (fewB C) ∧ Sep h0 h' R)
  | 0, k, h, hk, ha, hs => by
    have hn := hc.rows.n
    obtain ⟨n1, n2, n3, n4, n5, n6⟩ := hc.len
    rw [List.take_of_length_le (by omega)] at ha
    apply S_signalboxref07_Few_2
    unfold B_signalboxref07_Few_2
    refine mIf_neg (by simp; omega) ?_
    have e : fewB C = ((((decide ((sm.n : Int) ≤ 20) && decide ((sc.n : Int) ≤ 20)) && decide ((se.n : Int) ≤ 20)) && decide ((st.n : Int) ≤ 20)) && decide ((sl.n : Int) ≤ 20)) := by
      unfold fewB
      rw [ha, n1, n2, n3, n4, n5, Bool.eq_iff_iff]
      simp only [Bool.and_eq_true, decide_eq_true_eq, true_and]
      omega
    rw [e]
    clear e
    (refine Sep.ldL hs 0 rfl rfl ?_; simp only [add_mk, Nat.zero_add, mBind_ap])
    cases decide ((sm.n : Int) ≤ 20)
    · (simp only [Bool.false_and, mIf_false]; rw [mRet_ap]; simp only [mIf_false]; rw [mRet_ap]; simp only [mIf_false]; rw [mRet_ap]; simp only [mIf_false]; rw [mRet_ap]); exact ⟨rfl, hs.drop⟩
    (simp only [Bool.true_and, mIf_true]; refine Sep.ldL hs 0 rfl rfl ?_; rw [mRet_ap])
    cases decide ((sc.n : Int) ≤ 20)
    · (simp only [Bool.false_and, mIf_false]; rw [mRet_ap]; simp only [mIf_false]; rw [mRet_ap]; simp only [mIf_false]; rw [mRet_ap]); exact ⟨rfl, hs.drop⟩
    (simp only [Bool.true_and, mIf_true]; refine Sep.ldL hs 0 rfl rfl ?_; rw [mRet_ap])
    cases decide ((se.n : Int) ≤ 20)
    · (simp only [Bool.false_and, mIf_false]; rw [mRet_ap]; simp only [mIf_false]; rw [mRet_ap]); exact ⟨rfl, hs.drop⟩
    (simp only [Bool.true_and, mIf_true]; refine Sep.ldL hs 0 rfl rfl ?_; rw [mRet_ap])
    cases decide ((st.n : Int) ≤ 20)
    · (simp only [Bool.false_and, mIf_false]; rw [mRet_ap]); exact ⟨rfl, hs.drop⟩
    (simp only [Bool.true_and, mIf_true]; refine Sep.ldL hs 0 rfl rfl ?_; rw [mRet_ap])
    exact ⟨rfl, hs.drop⟩
  | d + 1, k, h, hk, ha, hs => by
    have ih := few2 hc hb (c := c) d (k + 1)
    have hn := hc.rows.n
    have hkl : k < ts.length := by omega
    have hops := hc.ops _ (List.getElem_mem hkl)
    have htk := hc.at hkl
    apply S_signalboxref07_Few_2
    unfold B_signalboxref07_Few_2
    refine mIf_pos (by simp; omega) ?_
    refine hc.rows.ix hs hkl fun a hA => ?_
    generalize ts[k] = p at hA hops htk ⊢
    (refine Arg.ldI0 hA rfl ?_; refine Arg.ldI hA rfl ?_; refine Arg.ldI hA rfl ?_; refine Arg.ldI hA rfl ?_; refine Arg.ldI hA rfl ?_; refine Arg.ldI hA rfl ?_; refine Arg.ldL hA rfl ?_; (refine Sep.new hs fun nb h hs => ?_; try simp only [List.toList_toArray] at hs); (refine Sep.st hs 0 rfl rfl rfl fun h hs => ?_; simp only [List.set_cons_zero, List.set_cons_succ] at hs); (refine Sep.st hs 0 rfl rfl rfl fun h hs => ?_; simp only [List.set_cons_zero, List.set_cons_succ] at hs); (refine Sep.st hs 0 rfl rfl rfl fun h hs => ?_; simp only [List.set_cons_zero, List.set_cons_succ] at hs); (refine Sep.st hs 0 rfl rfl rfl fun h hs => ?_; simp only [List.set_cons_zero, List.set_cons_succ] at hs); (refine Sep.st hs 0 rfl rfl rfl fun h hs => ?_; simp only [List.set_cons_zero, List.set_cons_succ] at hs); (refine Sep.st hs 0 rfl rfl rfl fun h hs => ?_; simp only [List.set_cons_zero, List.set_cons_succ] at hs); (refine Sep.st hs 0 rfl rfl rfl fun h hs => ?_; simp only [List.set_cons_zero, List.set_cons_succ] at hs); refine Sep.ldL hs 0 rfl rfl ?_)
    have hpn := hops.1.n
    refine mIf_intro (fun h1 => ?_) (fun h1 => ?_)
    · have : fewB C = false := by
        have : C.tasks.all (fun t => decide (t.ops.length ≤ 80)) = false := by
          rw [List.all_eq_false]
          exact ⟨p.1, List.mem_of_getElem? htk, by simp at h1; simp; omega⟩
        unfold fewB
        rw [this]; rfl
      rw [this]
      exact ⟨rfl, hs.drop.drop⟩
    · rw [wrapS k (by omega)]
      refine ih h (by omega) ?_ hs.drop
      obtain ⟨q1, q2⟩ := List.getElem?_eq_some_iff.1 htk
      rw [List.take_succ_eq_append_getElem q1, List.all_append, ha, q2]
      simp at h1 ⊢
      omega
theorem Few_s (hc : CRd h0 C sm sc se st sl ts) (hb : (st.n : Int) ≤ 9223372036854775807) (hs : Sep h0 h R) : N_signalboxref07_Few C.sets C.ways C.hit C.miss sm C.groups sc se st sl h (fun v h' => v = .bool (fewB C) ∧ Sep h0 h' R) := by
  apply S_signalboxref07_Few
  unfold B_signalboxref07_Few
  refine Sep.new hs fun c h hs => ?_
  simp only [List.toList_toArray] at hs
  have hs : Sep h0 h (aBlk c (cfgC C sm sc se st sl) :: R) := hs
  (refine Sep.ldL hs 0 rfl rfl ?_)
  exact few2 hc hb ts.length 0 h (Nat.zero_add _) rfl hs
end
end Go.Proofs.Ytimpaammdmeocaa
