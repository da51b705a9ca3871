/- The watchdog: the law WatchdogPlays. Conditions: none. -/
import Derived.Test.YtkmenmagclojmaaDogL
import Derived.Test.YtkmenmagclojmaaDogA
import Derived.Test.YtkmenmagclojmaaSbS
namespace Go.Proofs.Ytkmenmagclojmaa
open Go Go.Sb

abbrev DFin (h0 : Hp) : Value → Hp → Prop := fun v h' => v = .bool true ∧ Under h0.size h0 h'
def Dog.tick (x : Dog) : Dog := if x.since + 1 = x.late then { x with since := x.since + 1, awake := false, overdue := IntKind.i64.wrap (x.overdue + 1) } else { x with since := x.since + 1 }
theorem tick_s {h0 h : Hp} {R : List As} {b : Nat} {x : Dog} (hs : Sep h0 h (aBlk b x.enc :: R)) (hb : 0 ≤ x.since ∧ x.since ≤ 16777216) : N_signalboxlaw52_plain_tick (some ⟨b, 0, none⟩) h (fun v h' => v = .bool (decide (x.since + 1 = x.late)) ∧ Sep h0 h' (aBlk b x.tick.enc :: R)) := by
  obtain ⟨xe, xl, xs, xa, x1, x2⟩ := x
  simp only at hb
  apply S_signalboxlaw52_plain_tick
  unfold B_signalboxlaw52_plain_tick Dog.tick
  simp only [mNil_some, add_mk, Nat.zero_add]
  refine Sep.ldI hs 0 rfl rfl ?_; (refine Sep.st hs 0 rfl rfl rfl fun h hs => ?_; simp only [List.set_cons_zero, List.set_cons_succ] at hs); refine Sep.ldI hs 0 rfl rfl ?_; refine Sep.ldI hs 0 rfl rfl ?_
  rw [wrap64 _ (by omega)] at hs ⊢
  refine mIf_intro (fun hc => ?_) (fun hc => ?_)
  · have hc : xs + 1 = xl := by simpa using hc
    (refine Sep.st hs 0 rfl rfl rfl fun h hs => ?_; simp only [List.set_cons_zero, List.set_cons_succ] at hs); refine Sep.ldI hs 0 rfl rfl ?_; (refine Sep.st hs 0 rfl rfl rfl fun h hs => ?_; simp only [List.set_cons_zero, List.set_cons_succ] at hs)
    rw [if_pos hc, decide_eq_true hc]
    exact ⟨rfl, hs⟩
  · have hc : ¬ xs + 1 = xl := by simpa using hc
    rw [if_neg hc, decide_eq_false hc]
    exact ⟨rfl, hs⟩
section play
variable {h0 : Hp} {b p i : Nat} {ls : Sl} {acts : List DAct} {f : DAct} {x : Dog}
def DLoop (h0 : Hp) (b p : Nat) (ls : Sl) (i : Nat) : Prop := ∀ (h : Hp) (x : Dog), x.ok → Sep h0 h [aBlk b x.enc, aBlk p x.enc] →
  K_signalboxlaw52_WatchdogPlays_13 (some ⟨b, 0, none⟩) ⟨p, 0, none⟩ ls (ls.n : Int) (i : Int) h (DFin h0)
theorem d43 (hx : x.ok) (hi : i < 100) (hloop : DLoop h0 b p ls (i + 1)) {h : Hp} (hs : Sep h0 h [aBlk b x.enc, aBlk p x.enc]) :
    K_signalboxlaw52_WatchdogPlays_43 (some ⟨b, 0, none⟩) ⟨p, 0, none⟩ ls (ls.n : Int) (i : Int) h (DFin h0) := by
  apply S_signalboxlaw52_WatchdogPlays_43
  unfold B_signalboxlaw52_WatchdogPlays_43
  simp only [add_mk, Nat.zero_add, mBind_ap]
  refine (Bites_s hs).mono ?_
  rintro v h' ⟨rfl, rfl⟩
  simp only [un2_tuple, unI_int, mBind_ap]
  refine (Left_s hs).mono ?_
  rintro v h' ⟨rfl, rfl⟩
  have next : K_signalboxlaw52_WatchdogPlays_13 (some ⟨b, 0, none⟩) ⟨p, 0, none⟩ ls (ls.n : Int) (IntKind.i64.wrap ((i : Int) + 1)) h' (DFin h0) := by
    rw [wrap64 _ (by omega), show (i : Int) + 1 = ((i + 1 : Nat) : Int) by omega]
    exact hloop h' x hx hs
  have haw : ∀ {Q : Bool → Hp → Prop}, Q false h' → (mQ (N_watchdog_Dog_Awake (some ⟨b, 0, none⟩)) fun r229 => unB r229 fun (x229 : Bool) => mLdB ⟨p, 3, none⟩ fun (x233 : Bool) => mRet (!(x229 == x233))) h' Q := by
    intro Q hq
    refine mQ_intro _ (Awake_s hs) ?_
    simp only [unB_bool]
    refine Sep.ldB hs 1 rfl rfl ?_
    simpa using hq
  obtain ⟨xe, xl, xs, xa, x1, x2⟩ := x
  cases xa
  · simp only [Bool.false_eq_true, if_false, un3_tuple, unI_int, unB_bool]
    refine Sep.ldI hs 1 rfl rfl ?_
    simp only [bne_self_eq_false, mIf_false, mBind_ap]
    refine Sep.ldI hs 1 rfl rfl ?_
    simp only [bne_self_eq_false, mIf_false, mRet_ap]
    refine haw ?_
    simp only [mIf_false, mBind_ap]
    refine Sep.ldB hs 1 rfl rfl ?_
    simp only [mRet_ap, beq_self_eq_true, Bool.not_true, mIf_false]
    exact next
  · simp only [if_true, un3_tuple, unI_int, unB_bool]
    refine Sep.ldI hs 1 rfl rfl ?_
    simp only [bne_self_eq_false, mIf_false, mBind_ap]
    refine Sep.ldI hs 1 rfl rfl ?_
    simp only [bne_self_eq_false, mIf_false, mRet_ap]
    refine haw ?_
    simp only [mIf_false, mBind_ap]
    refine Sep.ldB hs 1 rfl rfl ?_
    simp only [mRet_ap, beq_self_eq_true, Bool.not_true, mIf_false, mIf_true, mBind_ap]
    refine Sep.ldI hs 1 rfl rfl ?_; refine Sep.ldI hs 1 rfl rfl ?_
    simp only [bne_self_eq_false, mIf_false, mBind_ap]
    refine Sep.ldI hs 1 rfl rfl ?_; refine Sep.ldI hs 1 rfl rfl ?_
    simp only [bne_self_eq_false, mIf_false, mRet_ap]
    exact next
/-- the end of the ticks -/
theorem d36end (hx : x.ok) (hi : i < 100) (hloop : DLoop h0 b p ls (i + 1)) {h : Hp} {a : Nat} {n : Int} (hs : Sep h0 h [aBlk b x.enc, aBlk p (x.pass f.ticks).enc, aBlk a f.enc])
    (hend : (x.pass f.ticks).awake = true → ¬ n ≤ clamp f.ticks) :
    K_signalboxlaw52_WatchdogPlays_36 (some ⟨b, 0, none⟩) ⟨p, 0, none⟩ ⟨a, 0, none⟩ (clamp f.ticks) (x.passN f.ticks) (x.passS f.ticks) n ls (ls.n : Int) (i : Int) h (DFin h0) := by
  apply S_signalboxlaw52_WatchdogPlays_36
  unfold B_signalboxlaw52_WatchdogPlays_36
  simp only [add_mk, Nat.zero_add]
  refine Sep.ldB hs 1 rfl rfl ?_
  refine mIf_neg ?_ ?_
  · cases ha : (x.pass f.ticks).awake
    · rfl
    · rw [decide_eq_false (hend ha)]; rfl
  · refine Sep.ldI hs 2 rfl rfl ?_
    rw [mBind_ap]
    refine (Pass_s hs hx f.ticks).mono ?_
    rintro v h' ⟨rfl, hs⟩
    simp only [un2_tuple, unI_int, unS_string, bne_self_eq_false, beq_self_eq_true, Bool.not_true, Bool.or_self, mIf_false]
    exact d43 (hx.pass _) hi hloop (hs.perm (by
      refine ((List.Perm.swap _ _ _).cons _).trans ?_
      exact List.Perm.swap _ _ _)).drop
theorem d36 (hx : x.ok) (ha : x.awake = true) (hi : i < 100) (hloop : DLoop h0 b p ls (i + 1)) {a : Nat} : ∀ (d m : Nat) (h : Hp), (m : Int) + d = clamp f.ticks → x.since + m < x.late → Sep h0 h [aBlk b x.enc, aBlk p ({ x with since := x.since + m } : Dog).enc, aBlk a f.enc] →
    K_signalboxlaw52_WatchdogPlays_36 (some ⟨b, 0, none⟩) ⟨p, 0, none⟩ ⟨a, 0, none⟩ (clamp f.ticks) (clamp f.ticks) sNone ((m : Int) + 1) ls (ls.n : Int) (i : Int) h (DFin h0)
  | 0, m, h, hm, hlt, hs => by
    have hge : ¬ clamp f.ticks ≥ x.late - x.since := by omega
    have e1 : x.pass f.ticks = { x with since := x.since + m } := by unfold Dog.pass; rw [if_pos ha, if_neg hge]; congr 1; omega
    have e2 : x.passN f.ticks = clamp f.ticks := by unfold Dog.passN; rw [if_pos ha, if_neg hge]
    have e3 : x.passS f.ticks = sNone := by unfold Dog.passS; rw [if_pos ha, if_neg hge]
    have := d36end (f := f) (n := (m : Int) + 1) hx hi hloop (by rw [e1]; exact hs) (by intro _; omega)
    rw [e2, e3] at this
    exact this
  | d + 1, m, h, hm, hlt, hs => by
    have ih := d36 hx ha hi hloop (a := a) d (m + 1)
    have hcl := clamp_b f.ticks
    obtain ⟨he, hl, hss, hal⟩ := hx
    apply S_signalboxlaw52_WatchdogPlays_36
    unfold B_signalboxlaw52_WatchdogPlays_36
    simp only [add_mk, Nat.zero_add]
    refine Sep.ldB hs 1 rfl rfl ?_
    refine mIf_pos (by rw [decide_eq_true (by omega : (m : Int) + 1 ≤ clamp f.ticks)]; simpa using ha) ?_
    rw [mBind_ap]
    refine (tick_s hs.swap (by simp only; omega)).mono ?_
    rintro v h' ⟨rfl, hs⟩
    have hs := hs.swap
    simp only [unB_bool]
    rw [wrap64 _ (by omega)]
    refine mIf_dec (fun hc => ?_) (fun hc => ?_)
    · have hge : clamp f.ticks ≥ x.late - x.since := by omega
      have e1 : x.pass f.ticks = ({ x with since := x.since + m } : Dog).tick := by
        unfold Dog.pass Dog.tick; rw [if_pos ha, if_pos hge, if_pos hc]; simp only [hc]
      have e2 : x.passN f.ticks = (m : Int) + 1 := by unfold Dog.passN; rw [if_pos ha, if_pos hge]; omega
      have e3 : x.passS f.ticks = sLate := by unfold Dog.passS; rw [if_pos ha, if_pos hge]
      have hna : (x.pass f.ticks).awake = false := by unfold Dog.pass; rw [if_pos ha, if_pos hge]
      have := d36end (f := f) (n := (m : Int) + 1 + 1) ⟨he, hl, hss, hal⟩ hi hloop (by rw [e1]; exact hs) (by intro hh; rw [hna] at hh; cases hh)
      rw [e2, e3] at this
      exact this
    · have e1 : ({ x with since := x.since + m } : Dog).tick = { x with since := x.since + ((m + 1 : Nat) : Int) } := by
        unfold Dog.tick; rw [if_neg hc]; simp only; congr 1; omega
      rw [e1] at hs
      have hc' : ¬ x.since + m + 1 = x.late := hc
      have := ih h' (by omega) (by omega) hs
      rw [show (m : Int) + 1 + 1 = ((m + 1 : Nat) : Int) + 1 by omega]
      exact this
theorem dLoop (hl : RdE h0.size h0 DAct.enc 2 ls acts) (hok : ∀ x ∈ acts, x.ok) (hlen : acts.length ≤ 100) : ∀ (d i : Nat), i + d = acts.length → DLoop h0 b p ls i
  | 0, i, hid, h, x, hx, hs => by
    apply S_signalboxlaw52_WatchdogPlays_13
    unfold B_signalboxlaw52_WatchdogPlays_13
    have := hl.n
    rw [decide_eq_false (by omega), mIf_false]
    exact ⟨rfl, hs.under⟩
  | d + 1, i, hid, h, x, hx, hs => by
    have ih : DLoop h0 b p ls (i + 1) := dLoop hl hok hlen d (i + 1) (by omega)
    have hi : i < 100 := by omega
    apply S_signalboxlaw52_WatchdogPlays_13
    unfold B_signalboxlaw52_WatchdogPlays_13
    have hln := hl.n
    rw [decide_eq_true (by omega), mIf_true]
    refine hs.argE hl (by omega) (by omega) fun a ha => ?_
    obtain ⟨f, hf⟩ : ∃ f, acts[(i : Int).toNat]? = some f := ⟨acts[(i : Int).toNat], List.getElem?_eq_getElem (by omega)⟩
    have hfe : acts[(i : Int).toNat]'(by omega) = f := (List.getElem?_eq_some_iff.1 hf).2
    rw [hfe] at ha
    have hfok := hok f (List.mem_of_getElem? hf)
    refine mLdI_of (by have := ha 0 _ rfl; rwa [Addr.add_zero'] at this) ?_
    refine mLdI_of (ha 1 _ rfl) ?_
    (refine Sep.new hs fun nb h hs => ?_; try simp only [List.toList_toArray] at hs)
    simp only [add_mk, Nat.zero_add]
    (refine Sep.st hs 0 rfl rfl rfl fun h hs => ?_; simp only [List.set_cons_zero, List.set_cons_succ] at hs); (refine Sep.st hs 0 rfl rfl rfl fun h hs => ?_; simp only [List.set_cons_zero, List.set_cons_succ] at hs)
    rw [show [Value.int .u8 f.kind, .int .i64 f.ticks] = f.enc from rfl] at hs
    refine Sep.ldI hs 0 rfl rfl ?_
    refine ⟨by decide, ?_⟩
    refine mIf_intro (fun hc => ?_) (fun hc => ?_)
    · rw [mBind_ap]
      refine (Start_s hs.drop).mono ?_
      rintro v h hs
      (refine Sep.st hs 1 rfl rfl rfl fun h hs => ?_; simp only [List.set_cons_zero, List.set_cons_succ] at hs); (refine Sep.st hs 1 rfl rfl rfl fun h hs => ?_; simp only [List.set_cons_zero, List.set_cons_succ] at hs)
      exact d43 hx.start hi ih hs
    refine mIf_intro (fun hc1 => ?_) (fun hc1 => ?_)
    · have hx' := hx
      have hs := hs.drop
      obtain ⟨xe, xl, xs, xa, x1, x2⟩ := x
      refine Sep.ldB hs 1 rfl rfl ?_
      cases xa
      · simp only [Bool.not_false, mIf_true, mBind_ap]
        refine (Report_s hs).mono ?_
        rintro v h ⟨rfl, hs⟩
        simp only [Dog.repA, sStill, Bool.false_eq_true, if_false, unS_string, beq_self_eq_true, Bool.not_true, mIf_false]
        exact d43 hx'.rep hi ih hs
      · simp only [Bool.not_true, mIf_false]
        refine Sep.ldI hs 1 rfl rfl ?_; refine Sep.ldI hs 1 rfl rfl ?_
        refine mIf_dec (fun hd => ?_) (fun hd => ?_)
        · (refine Sep.st hs 1 rfl rfl rfl fun h hs => ?_; simp only [List.set_cons_zero, List.set_cons_succ] at hs); refine Sep.ldI hs 1 rfl rfl ?_; (refine Sep.st hs 1 rfl rfl rfl fun h hs => ?_; simp only [List.set_cons_zero, List.set_cons_succ] at hs)
          rw [mBind_ap]
          refine (Report_s hs).mono ?_
          rintro v h ⟨rfl, hs⟩
          simp only [Dog.repA, sEarly, if_true, if_pos hd, unS_string, beq_self_eq_true, Bool.not_true, mIf_false]
          refine d43 hx'.rep hi ih ?_
          have e : (⟨xe, xl, xs, true, x1, x2⟩ : Dog).rep = ⟨xe, xl, xs, false, IntKind.i64.wrap (x1 + 1), x2⟩ := by unfold Dog.rep; simp only [if_true, if_pos hd]
          rw [e] at hs ⊢
          exact hs
        · (refine Sep.st hs 1 rfl rfl rfl fun h hs => ?_; simp only [List.set_cons_zero, List.set_cons_succ] at hs)
          rw [mBind_ap]
          refine (Report_s hs).mono ?_
          rintro v h ⟨rfl, hs⟩
          simp only [Dog.repA, sFine, if_true, if_neg hd, unS_string, beq_self_eq_true, Bool.not_true, mIf_false]
          refine d43 hx'.rep hi ih ?_
          have e : (⟨xe, xl, xs, true, x1, x2⟩ : Dog).rep = ⟨xe, xl, 0, true, x1, x2⟩ := by unfold Dog.rep; simp only [if_true, if_neg hd]
          rw [e] at hs ⊢
          exact hs
    refine mIf_intro (fun hc2 => ?_) (fun hc2 => ?_)
    · refine Sep.ldI hs 0 rfl rfl ?_; refine Sep.ldB hs 2 rfl rfl ?_
      rw [clamp_eq, mBind_ap]
      have hs' : Sep h0 h [aBlk b x.enc, aBlk p x.enc, aBlk nb f.enc] := hs.perm (by
        refine (List.Perm.swap _ _ _).trans ?_
        exact (List.Perm.swap _ _ _).cons _)
      have go : K_signalboxlaw52_WatchdogPlays_36 (some ⟨b, 0, none⟩) ⟨p, 0, none⟩ ⟨nb, 0, none⟩ (clamp f.ticks) (clamp f.ticks) sNone 1 ls (ls.n : Int) (i : Int) h (DFin h0) := by
        have hcl := clamp_b f.ticks
        cases hxa : x.awake
        · have e1 : x.pass f.ticks = x := by unfold Dog.pass; rw [if_neg (by simp [hxa])]
          have e2 : x.passN f.ticks = clamp f.ticks := by unfold Dog.passN; rw [if_neg (by simp [hxa])]
          have e3 : x.passS f.ticks = sNone := by unfold Dog.passS; rw [if_neg (by simp [hxa])]
          have := d36end (f := f) (n := 1) hx hi ih (by rw [e1]; exact hs') (by intro hh; rw [e1, hxa] at hh; cases hh)
          rw [e2, e3] at this
          exact this
        · have hlt := hx.a hxa
          have := d36 (f := f) hx hxa hi ih (a := nb) (clamp f.ticks).toNat 0 h (by omega) (by simpa using hlt) (by simpa using hs')
          simpa using this
      refine mIf_intro (fun hd => ?_) (fun hd => ?_)
      · refine Sep.ldI hs 2 rfl rfl ?_; refine Sep.ldI hs 2 rfl rfl ?_
        rw [mRet_ap]
        exact mIf_intro (fun _ => ⟨rfl, hs.under⟩) (fun _ => go)
      · rw [mRet_ap, mIf_false]; exact go
    · exact d43 hx hi ih hs.drop
theorem WatchdogPlays_ok {h : Hp} {early late : Int} {ls : Sl} {acts : List DAct} (_ : -9223372036854775808 ≤ early ∧ early ≤ 9223372036854775807) (_ : -9223372036854775808 ≤ late ∧ late ≤ 9223372036854775807) (hl : RdE h.size h DAct.enc 2 ls acts) (hok : ∀ x ∈ acts, x.ok) :
    N_signalboxlaw52_WatchdogPlays early late ls h (fun v h' => v = .bool true ∧ Under h.size h h') := by
  apply S_signalboxlaw52_WatchdogPlays
  unfold B_signalboxlaw52_WatchdogPlays
  rw [mBind_ap]
  refine (dfixed_s (Sep.init h)).mono ?_
  rintro v h1 ⟨rfl, hs⟩
  simp only [unB_bool, Bool.not_true, mIf_false]
  have hln := hl.n
  refine mIf_dec (fun hc => ⟨rfl, hs.under⟩) (fun hc => ?_)
  rw [mBind_ap]
  cases hb : dogBad early late
  · refine (dNew_s hs early late hb).mono ?_
    rintro v h2 ⟨b, rfl, hs⟩
    simp only [unP_pointer]
    refine mIf_neg hb ?_
    refine Sep.new hs fun p h hs => ?_
    unfold dogBad at hb
    simp at hb
    refine dLoop hl hok (by omega) acts.length 0 (by omega) h ⟨early, late, 0, false, 0, 0⟩ ⟨by simp only; omega, by simp only; omega, by simp only; omega, by simp⟩ hs.swap
  · refine (dNew_bad h1 early late hb).mono ?_
    rintro v h2 ⟨rfl, rfl⟩
    simp only [unP_pointer]
    refine mIf_pos hb ?_
    rw [mBind_ap]
    refine (Start_nil h2).mono ?_
    rintro v h3 rfl
    rw [mBind_ap]
    refine (Pass_nil h3 3).mono ?_
    rintro v h4 ⟨rfl, rfl⟩
    simp only [un2_tuple, unI_int, unS_string, mBind_ap]
    refine (Left_nil h4).mono ?_
    rintro v h5 ⟨rfl, rfl⟩
    simp only [un3_tuple, unI_int, unB_bool, mBind_ap, Option.isNone_none, mIf_true]
    refine (Report_nil h5).mono ?_
    rintro v h6 ⟨rfl, rfl⟩
    simp only [unS_string, mRet_ap, sStill, sNone, beq_self_eq_true, Bool.true_and, Bool.not_false, Bool.and_true]
    rw [show ((clamp 3 : Int) == 3) = true by decide, mIf_true, mBind_ap]
    refine (Awake_nil h6).mono ?_
    rintro v h7 ⟨rfl, rfl⟩
    exact ⟨rfl, hs.under⟩
end play
end Go.Proofs.Ytkmenmagclojmaa
