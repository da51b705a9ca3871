/- The watchdog: what each call answers, over what is owned; the law WatchdogKept. Conditions: none. -/
import Derived.Test.YtkmenmagclojmaaDogM
import Derived.Test.YtkmenmagclojmaaSbS
namespace Go.Proofs.Ytkmenmagclojmaa
open Go Go.Sb

structure Dog where
  early : Int
  late : Int
  since : Int
  awake : Bool
  soon : Int
  overdue : Int
def Dog.enc (x : Dog) : List Value := [.int .i64 x.early, .int .i64 x.late, .int .i64 x.since, .bool x.awake, .int .i64 x.soon, .int .i64 x.overdue]
structure Dog.ok (x : Dog) : Prop where
  e : 0 ≤ x.early ∧ x.early ≤ x.late
  l : 1 ≤ x.late ∧ x.late ≤ 16777216
  s : 0 ≤ x.since ∧ x.since ≤ x.late
  a : x.awake = true → x.since < x.late
def sStill : ByteArray := ByteArray.mk #[115, 116, 105, 108, 108]
def sEarly : ByteArray := ByteArray.mk #[101, 97, 114, 108, 121]
def sFine : ByteArray := ByteArray.mk #[102, 105, 110, 101]
def sLate : ByteArray := ByteArray.mk #[108, 97, 116, 101]
def sNone : ByteArray := ByteArray.mk #[]
def Dog.start (x : Dog) : Dog := { x with awake := true, since := 0 }
def Dog.rep (x : Dog) : Dog := if x.awake then (if x.since < x.early then { x with awake := false, soon := IntKind.i64.wrap (x.soon + 1) } else { x with since := 0 }) else x
def Dog.repA (x : Dog) : ByteArray := if x.awake then (if x.since < x.early then sEarly else sFine) else sStill
def clamp (t : Int) : Int := min (max t 0) 16777216
theorem clamp_eq (t : Int) : (if (16777216 : Int) < (if (0 : Int) > t then (0 : Int) else t) then (16777216 : Int) else (if (0 : Int) > t then (0 : Int) else t)) = clamp t := by unfold clamp; omega
theorem clamp_b (t : Int) : 0 ≤ clamp t ∧ clamp t ≤ 16777216 := by unfold clamp; omega
def Dog.pass (x : Dog) (t : Int) : Dog := if x.awake then (if clamp t ≥ x.late - x.since then { x with since := x.late, awake := false, overdue := IntKind.i64.wrap (x.overdue + 1) } else { x with since := x.since + clamp t }) else x
def Dog.passN (x : Dog) (t : Int) : Int := if x.awake then (if clamp t ≥ x.late - x.since then x.late - x.since else clamp t) else clamp t
def Dog.passS (x : Dog) (t : Int) : ByteArray := if x.awake then (if clamp t ≥ x.late - x.since then sLate else sNone) else sNone
variable {h0 h : Hp} {R : List As} {b : Nat} {x : Dog}
theorem Dog.ok.pass {x : Dog} (hx : x.ok) (t : Int) : (x.pass t).ok := by
  obtain ⟨e, l, s, a⟩ := hx
  have := clamp_b t
  unfold Dog.pass
  split
  · split
    · exact ⟨e, l, by simp only; omega, by simp⟩
    · exact ⟨e, l, by simp only; omega, fun _ => by simp only; omega⟩
  · exact ⟨e, l, s, a⟩
theorem Dog.ok.rep {x : Dog} (hx : x.ok) : (x.rep).ok := by
  obtain ⟨e, l, s, a⟩ := hx
  unfold Dog.rep
  split
  · split
    · exact ⟨e, l, s, by simp⟩
    · exact ⟨e, l, by simp only; omega, fun _ => by simp only; omega⟩
  · exact ⟨e, l, s, a⟩
theorem Dog.ok.start {x : Dog} (hx : x.ok) : (x.start).ok := by
  obtain ⟨e, l, s, a⟩ := hx
  exact ⟨e, l, by simp only [Dog.start]; omega, fun _ => by simp only [Dog.start]; omega⟩
theorem Awake_s (hs : Sep h0 h (aBlk b x.enc :: R)) : N_watchdog_Dog_Awake (some ⟨b, 0, none⟩) h (fun v h' => v = .bool x.awake ∧ h' = h) := by
  apply S_watchdog_Dog_Awake
  unfold B_watchdog_Dog_Awake
  simp only [mBind_ap, Option.isNone_some, Bool.not_false, mIf_true, mNil_some, add_mk, Nat.zero_add]
  refine Sep.ldB hs 0 rfl rfl ?_
  exact ⟨rfl, rfl⟩
theorem Awake_nil (h : Hp) : N_watchdog_Dog_Awake none h (fun v h' => v = .bool false ∧ h' = h) := by
  apply S_watchdog_Dog_Awake
  unfold B_watchdog_Dog_Awake
  simp
theorem Start_s (hs : Sep h0 h (aBlk b x.enc :: R)) : N_watchdog_Dog_Start (some ⟨b, 0, none⟩) h (fun _ h' => Sep h0 h' (aBlk b x.start.enc :: R)) := by
  apply S_watchdog_Dog_Start
  unfold B_watchdog_Dog_Start
  simp only [Option.isNone_some, Bool.not_false, mIf_true, mNil_some, add_mk, Nat.zero_add]
  (refine Sep.st hs 0 rfl rfl rfl fun h hs => ?_; simp only [List.set_cons_zero, List.set_cons_succ] at hs); (refine Sep.st hs 0 rfl rfl rfl fun h hs => ?_; simp only [List.set_cons_zero, List.set_cons_succ] at hs)
  exact hs
theorem Start_nil (h : Hp) : N_watchdog_Dog_Start none h (fun _ h' => h' = h) := by
  apply S_watchdog_Dog_Start
  unfold B_watchdog_Dog_Start
  simp
theorem bite4_s (hs : Sep h0 h (aBlk b x.enc :: R)) (what : ByteArray) : N_watchdog_Dog_bite (some ⟨b, 0, none⟩) (some ⟨b, 4, none⟩) what h (fun v h' => v = .string what ∧ Sep h0 h' (aBlk b ({ x with awake := false, soon := IntKind.i64.wrap (x.soon + 1) } : Dog).enc :: R)) := by
  apply S_watchdog_Dog_bite
  unfold B_watchdog_Dog_bite
  simp only [mNil_some, add_mk, Nat.zero_add]
  refine Sep.ldI hs 0 rfl rfl ?_; (refine Sep.st hs 0 rfl rfl rfl fun h hs => ?_; simp only [List.set_cons_zero, List.set_cons_succ] at hs); (refine Sep.st hs 0 rfl rfl rfl fun h hs => ?_; simp only [List.set_cons_zero, List.set_cons_succ] at hs)
  exact ⟨rfl, hs⟩
theorem bite5_s (hs : Sep h0 h (aBlk b x.enc :: R)) (what : ByteArray) : N_watchdog_Dog_bite (some ⟨b, 0, none⟩) (some ⟨b, 5, none⟩) what h (fun v h' => v = .string what ∧ Sep h0 h' (aBlk b ({ x with awake := false, overdue := IntKind.i64.wrap (x.overdue + 1) } : Dog).enc :: R)) := by
  apply S_watchdog_Dog_bite
  unfold B_watchdog_Dog_bite
  simp only [mNil_some, add_mk, Nat.zero_add]
  refine Sep.ldI hs 0 rfl rfl ?_; (refine Sep.st hs 0 rfl rfl rfl fun h hs => ?_; simp only [List.set_cons_zero, List.set_cons_succ] at hs); (refine Sep.st hs 0 rfl rfl rfl fun h hs => ?_; simp only [List.set_cons_zero, List.set_cons_succ] at hs)
  exact ⟨rfl, hs⟩
theorem Report_s (hs : Sep h0 h (aBlk b x.enc :: R)) : N_watchdog_Dog_Report (some ⟨b, 0, none⟩) h (fun v h' => v = .string x.repA ∧ Sep h0 h' (aBlk b x.rep.enc :: R)) := by
  apply S_watchdog_Dog_Report
  unfold B_watchdog_Dog_Report
  rw [mBind_ap]
  refine (Awake_s hs).mono ?_
  rintro v h' ⟨rfl, rfl⟩
  unfold Dog.rep Dog.repA
  simp only [unB_bool]
  obtain ⟨xe, xl, xs, xa, x1, x2⟩ := x
  cases xa
  · exact ⟨rfl, hs⟩
  · simp only [Bool.not_true, mIf_false, mNil_some, add_mk, Nat.zero_add, if_true]
    refine Sep.ldI hs 0 rfl rfl ?_; refine Sep.ldI hs 0 rfl rfl ?_
    refine mIf_dec (fun hc => ?_) (fun hc => ?_)
    · rw [mBind_ap, if_pos hc, if_pos hc]
      refine (bite4_s hs _).mono ?_
      rintro v h ⟨rfl, hs⟩
      exact ⟨rfl, hs⟩
    · rw [if_neg hc, if_neg hc]
      (refine Sep.st hs 0 rfl rfl rfl fun h hs => ?_; simp only [List.set_cons_zero, List.set_cons_succ] at hs)
      exact ⟨rfl, hs⟩
theorem Report_nil (h : Hp) : N_watchdog_Dog_Report none h (fun v h' => v = .string sStill ∧ h' = h) := by
  apply S_watchdog_Dog_Report
  unfold B_watchdog_Dog_Report
  rw [mBind_ap]
  refine (Awake_nil h).mono ?_
  rintro v h' ⟨rfl, rfl⟩
  simp [sStill]
theorem Pass_s (hs : Sep h0 h (aBlk b x.enc :: R)) (hx : x.ok) (t : Int) : N_watchdog_Dog_Pass (some ⟨b, 0, none⟩) t h (fun v h' => v = .tuple #[.int .i64 (x.passN t), .string (x.passS t)] ∧ Sep h0 h' (aBlk b (x.pass t).enc :: R)) := by
  obtain ⟨e, l, s, a⟩ := hx
  have hcl := clamp_b t
  apply S_watchdog_Dog_Pass
  unfold B_watchdog_Dog_Pass
  rw [mBind_ap]
  refine (Awake_s hs).mono ?_
  rintro v h' ⟨rfl, rfl⟩
  rw [clamp_eq]
  unfold Dog.pass Dog.passN Dog.passS
  simp only [unB_bool]
  obtain ⟨xe, xl, xs, xa, x1, x2⟩ := x
  simp only at e l s a
  cases xa
  · exact ⟨rfl, hs⟩
  · simp only [Bool.not_true, mIf_false, mNil_some, add_mk, Nat.zero_add, if_true]
    refine Sep.ldI hs 0 rfl rfl ?_; refine Sep.ldI hs 0 rfl rfl ?_
    simp only
    rw [wrap64 _ (by omega)]
    refine mIf_dec (fun hc => ?_) (fun hc => ?_)
    · rw [if_pos hc, if_pos hc, if_pos hc]
      refine Sep.ldI hs 0 rfl rfl ?_; (refine Sep.st hs 0 rfl rfl rfl fun h hs => ?_; simp only [List.set_cons_zero, List.set_cons_succ] at hs)
      rw [mBind_ap]
      refine (bite5_s (x := ⟨xe, xl, xl, true, x1, x2⟩) hs _).mono ?_
      rintro v h ⟨rfl, hs⟩
      exact ⟨rfl, hs⟩
    · rw [if_neg hc, if_neg hc, if_neg hc]
      refine Sep.ldI hs 0 rfl rfl ?_; (refine Sep.st hs 0 rfl rfl rfl fun h hs => ?_; simp only [List.set_cons_zero, List.set_cons_succ] at hs)
      rw [wrap64 _ (by omega)] at hs
      exact ⟨rfl, hs⟩
theorem Pass_nil (h : Hp) (t : Int) : N_watchdog_Dog_Pass none t h (fun v h' => v = .tuple #[.int .i64 (clamp t), .string sNone] ∧ h' = h) := by
  apply S_watchdog_Dog_Pass
  unfold B_watchdog_Dog_Pass
  rw [mBind_ap]
  refine (Awake_nil h).mono ?_
  rintro v h' ⟨rfl, rfl⟩
  rw [clamp_eq]
  simp [sNone]
theorem Left_s (hs : Sep h0 h (aBlk b x.enc :: R)) : N_watchdog_Dog_Left (some ⟨b, 0, none⟩) h (fun v h' => v = (if x.awake then .tuple #[.int .i64 (if (0 : Int) > IntKind.i64.wrap (x.early - x.since) then 0 else IntKind.i64.wrap (x.early - x.since)), .int .i64 (IntKind.i64.wrap (x.late - x.since)), .bool true] else .tuple #[.int .i64 0, .int .i64 0, .bool false]) ∧ h' = h) := by
  apply S_watchdog_Dog_Left
  unfold B_watchdog_Dog_Left
  rw [mBind_ap]
  refine (Awake_s hs).mono ?_
  rintro v h' ⟨rfl, rfl⟩
  simp only [unB_bool]
  cases ha : x.awake
  · exact ⟨rfl, rfl⟩
  · simp only [Bool.not_true, mIf_false, mNil_some, add_mk, Nat.zero_add]
    refine Sep.ldI hs 0 rfl rfl ?_; refine Sep.ldI hs 0 rfl rfl ?_; refine Sep.ldI hs 0 rfl rfl ?_; refine Sep.ldI hs 0 rfl rfl ?_
    exact ⟨rfl, rfl⟩
theorem Left_nil (h : Hp) : N_watchdog_Dog_Left none h (fun v h' => v = .tuple #[.int .i64 0, .int .i64 0, .bool false] ∧ h' = h) := by
  apply S_watchdog_Dog_Left
  unfold B_watchdog_Dog_Left
  rw [mBind_ap]
  refine (Awake_nil h).mono ?_
  rintro v h' ⟨rfl, rfl⟩
  simp
theorem Bites_s (hs : Sep h0 h (aBlk b x.enc :: R)) : N_watchdog_Dog_Bites (some ⟨b, 0, none⟩) h (fun v h' => v = .tuple #[.int .i64 x.soon, .int .i64 x.overdue] ∧ h' = h) := by
  apply S_watchdog_Dog_Bites
  unfold B_watchdog_Dog_Bites
  simp only [Option.isNone_some, mIf_false, mNil_some, add_mk, Nat.zero_add]
  refine Sep.ldI hs 0 rfl rfl ?_; refine Sep.ldI hs 0 rfl rfl ?_
  exact ⟨rfl, rfl⟩
def dogBad (e l : Int) : Bool := (((decide (e < (0 : Int))) || (decide (l < e))) || (decide (l < (1 : Int)))) || (decide (l > (16777216 : Int)))
theorem dNew_s (hs : Sep h0 h R) (e l : Int) (hb : dogBad e l = false) : N_watchdog_New e l h (fun v h' => ∃ b, v = .pointer (some ⟨b, 0, none⟩) ∧ Sep h0 h' (aBlk b (⟨e, l, 0, false, 0, 0⟩ : Dog).enc :: R)) := by
  apply S_watchdog_New
  unfold B_watchdog_New
  refine mIf_neg hb ?_
  (refine Sep.new hs fun nb h hs => ?_; try simp only [List.toList_toArray] at hs)
  exact ⟨nb, rfl, hs⟩
theorem dNew_bad (h : Hp) (e l : Int) (hb : dogBad e l = true) : N_watchdog_New e l h (fun v h' => v = .pointer none ∧ h' = h) := by
  apply S_watchdog_New
  unfold B_watchdog_New
  exact mIf_pos hb ⟨rfl, rfl⟩
theorem dfixed_s (hs : Sep h0 h R) : N_signalboxlaw52_fixed h (fun v h' => v = .bool true ∧ Sep h0 h' R) := by
  apply S_signalboxlaw52_fixed
  unfold B_signalboxlaw52_fixed
  rw [mBind_ap]
  refine (dNew_s hs 2 5 (by decide)).mono ?_
  rintro v h ⟨b, rfl, hs⟩
  have k0 : (⟨2, 5, 0, false, 0, 0⟩ : Dog).ok := ⟨by decide, by decide, by decide, by simp⟩
  simp only [unP_pointer, mBind_ap]
  refine (Report_s hs).mono ?_
  rintro v h ⟨rfl, hs⟩
  simp only [unS_string, mBind_ap]
  refine (Start_s hs).mono ?_
  rintro v h hs
  refine (Pass_s hs k0.rep.start 1).mono ?_
  rintro v h ⟨rfl, hs⟩
  simp only [un2_tuple, unI_int, unS_string, mBind_ap]
  refine (Report_s hs).mono ?_
  rintro v h ⟨rfl, hs⟩
  simp only [unS_string, mBind_ap]
  refine (Start_s hs).mono ?_
  rintro v h hs
  refine (Pass_s hs (k0.rep.start.pass 1).rep.start 9).mono ?_
  rintro v h ⟨rfl, hs⟩
  simp only [un2_tuple, unI_int, unS_string, mBind_ap]
  refine (Bites_s hs).mono ?_
  rintro v h' ⟨rfl, rfl⟩
  simp only [un2_tuple, unI_int, mBind_ap]
  have f0 : (⟨2, 5, 0, false, 0, 0⟩ : Dog).repA = sStill := rfl
  have f1 : ((⟨2, 5, 0, false, 0, 0⟩ : Dog).rep.start.passN 1) = 1 := by decide
  have f2 : ((⟨2, 5, 0, false, 0, 0⟩ : Dog).rep.start.passS 1) = sNone := rfl
  have f3 : ((⟨2, 5, 0, false, 0, 0⟩ : Dog).rep.start.pass 1).repA = sEarly := rfl
  have f4 : (((⟨2, 5, 0, false, 0, 0⟩ : Dog).rep.start.pass 1).rep.start.passN 9) = 5 := by decide
  have f5 : (((⟨2, 5, 0, false, 0, 0⟩ : Dog).rep.start.pass 1).rep.start.passS 9) = sLate := rfl
  have f6 : (((⟨2, 5, 0, false, 0, 0⟩ : Dog).rep.start.pass 1).rep.start.pass 9).soon = 1 := by decide
  have f7 : (((⟨2, 5, 0, false, 0, 0⟩ : Dog).rep.start.pass 1).rep.start.pass 9).overdue = 1 := by decide
  have f8 : (((⟨2, 5, 0, false, 0, 0⟩ : Dog).rep.start.pass 1).rep.start.pass 9).awake = false := rfl
  rw [f0, f1, f2, f3, f4, f5, f6, f7]
  simp only [sStill, sNone, sEarly, sLate, beq_self_eq_true, Bool.and_self, mIf_true, mBind_ap]
  refine (Awake_s hs).mono ?_
  rintro v h' ⟨rfl, rfl⟩
  rw [f8]
  simp only [unB_bool, mRet_ap, Bool.not_false, mIf_true, mBind_ap]
  refine (dNew_bad h' 3 2 (by decide)).mono ?_
  rintro v h' ⟨rfl, rfl⟩
  exact ⟨rfl, hs.drop⟩
theorem WatchdogKept_ok {h : Hp} {early more : Int} {ls : Sl} {zs : List Int} {soon : Bool} (he : 0 ≤ early ∧ early ≤ 255) (hm : 0 ≤ more ∧ more ≤ 255) (hl : RdI h.size h .u8 ls zs) :
    N_signalboxlaw52_WatchdogKept early more ls soon h (fun v h' => v = .bool true ∧ Under h.size h h') := by
  apply S_signalboxlaw52_WatchdogKept
  unfold B_signalboxlaw52_WatchdogKept
  rw [mBind_ap]
  refine (dfixed_s (Sep.init h)).mono ?_
  rintro v h1 ⟨rfl, hs⟩
  simp only [unB_bool, Bool.not_true, mIf_false]
  have hln := hl.n
  refine mIf_dec (fun hc => ⟨rfl, hs.under⟩) (fun hc => ?_)
  rw [wrap64 early (by omega), wrap64 more (by omega), wrap64 (early + 1) (by omega), wrap64 (early + 1 + more) (by omega), mBind_ap]
  generalize hla : early + 1 + more = late
  refine (dNew_s hs early late (by unfold dogBad; simp; omega)).mono ?_
  rintro v h2 ⟨b, rfl, hs⟩
  simp only [unP_pointer, mBind_ap]
  refine (Start_s hs).mono ?_
  rintro v h3 hs
  have loop : ∀ (d i : Nat) (h3 : Hp) (s o : Int), i + d = zs.length → Sep h h3 [aBlk b (⟨early, late, 0, true, s, o⟩ : Dog).enc] →
      K_signalboxlaw52_WatchdogKept_10 soon early late (some ⟨b, 0, none⟩) ls (ls.n : Int) (i : Int) h3 (fun v h' => v = .bool true ∧ Under h.size h h') := by
    intro d
    induction d with
    | zero =>
      intro i h3 s o hid hs
      have k0 : (⟨early, late, 0, true, s, o⟩ : Dog).ok := ⟨⟨he.1, by simp only; omega⟩, by simp only; omega, by simp only; omega, fun _ => by simp only; omega⟩
      apply S_signalboxlaw52_WatchdogKept_10
      unfold B_signalboxlaw52_WatchdogKept_10
      rw [decide_eq_false (by omega), mIf_false]
      refine mIf_intro (fun hc => ?_) (fun hc => ?_)
      · simp only [Bool.and_eq_true, decide_eq_true_eq] at hc
        rw [wrap64 _ (by omega), mBind_ap]
        refine (Pass_s hs k0 (early - 1)).mono ?_
        rintro v h4 ⟨rfl, hs⟩
        simp only [un2_tuple, unI_int, unS_string, mBind_ap]
        have hcl : clamp (early - 1) = early - 1 := by unfold clamp; omega
        have hp : (⟨early, late, 0, true, s, o⟩ : Dog).pass (early - 1) = ⟨early, late, early - 1, true, s, o⟩ := by
          unfold Dog.pass; simp only [if_true]; rw [hcl, if_neg (by omega)]; simp
        rw [hp] at hs
        refine (Report_s hs).mono ?_
        rintro v h5 ⟨rfl, hs⟩
        have hr : (⟨early, late, early - 1, true, s, o⟩ : Dog).repA = sEarly := by unfold Dog.repA; simp only [if_true]; rw [if_pos (by omega)]
        have hr2 : (⟨early, late, early - 1, true, s, o⟩ : Dog).rep.awake = false := by unfold Dog.rep; simp only [if_true]; rw [if_pos (by omega)]
        rw [hr]
        simp only [sEarly, unS_string, beq_self_eq_true, mIf_true, mBind_ap]
        refine (Awake_s hs).mono ?_
        rintro v h6 ⟨rfl, rfl⟩
        rw [hr2]
        exact ⟨rfl, hs.under⟩
      · rw [mBind_ap]
        refine (Pass_s hs k0 late).mono ?_
        rintro v h4 ⟨rfl, hs⟩
        have hcl : clamp late = late := by unfold clamp; omega
        have hp : ((⟨early, late, 0, true, s, o⟩ : Dog).pass late).awake = false := by
          unfold Dog.pass; simp only [if_true]; rw [hcl, if_pos (by omega)]
        have hn : ((⟨early, late, 0, true, s, o⟩ : Dog).passN late) = late := by
          unfold Dog.passN; simp only [if_true]; rw [hcl, if_pos (by omega)]; omega
        have hS : ((⟨early, late, 0, true, s, o⟩ : Dog).passS late) = sLate := by
          unfold Dog.passS; simp only [if_true]; rw [hcl, if_pos (by omega)]
        rw [hn, hS]
        simp only [un2_tuple, unI_int, unS_string, mBind_ap, sLate, beq_self_eq_true, Bool.and_self, mIf_true]
        refine (Awake_s hs).mono ?_
        rintro v h6 ⟨rfl, rfl⟩
        rw [hp]
        exact ⟨rfl, hs.under⟩
    | succ d ih =>
      intro i h3 s o hid hs
      have k0 : (⟨early, late, 0, true, s, o⟩ : Dog).ok := ⟨⟨he.1, by simp only; omega⟩, by simp only; omega, by simp only; omega, fun _ => by simp only; omega⟩
      apply S_signalboxlaw52_WatchdogKept_10
      unfold B_signalboxlaw52_WatchdogKept_10
      rw [decide_eq_true (by omega), mIf_true]
      refine hs.argI hl (by omega) (by omega) ?_
      have hlt : (i : Int).toNat < zs.length := by omega
      have hz := hl.wf _ (List.getElem_mem hlt)
      rw [show IntKind.u8.min = 0 by decide, show IntKind.u8.max = 255 by decide] at hz
      generalize zs[(i : Int).toNat] = z at hz
      rw [wrap64 z (by omega), wrap64 (late - early) (by omega)]
      have hmod : Int.tmod z (late - early) = z % (late - early) := Int.tmod_eq_emod_of_nonneg hz.1
      have m1 : 0 ≤ z % (late - early) := Int.emod_nonneg _ (by omega)
      have m2 : z % (late - early) < late - early := Int.emod_lt_of_pos _ (by omega)
      rw [hmod, wrap64 _ (by omega), mGuard_ap]
      refine ⟨by omega, ?_⟩
      generalize hq : early + z % (late - early) = q
      rw [mBind_ap]
      refine (Pass_s hs k0 q).mono ?_
      rintro v h4 ⟨rfl, hs⟩
      have hcl : clamp q = q := by unfold clamp; omega
      have hp : ((⟨early, late, 0, true, s, o⟩ : Dog).pass q) = ⟨early, late, q, true, s, o⟩ := by
        unfold Dog.pass; simp only [if_true]; rw [hcl, if_neg (by omega)]; simp
      have hn : ((⟨early, late, 0, true, s, o⟩ : Dog).passN q) = q := by
        unfold Dog.passN; simp only [if_true]; rw [hcl, if_neg (by omega)]
      have hS : ((⟨early, late, 0, true, s, o⟩ : Dog).passS q) = sNone := by
        unfold Dog.passS; simp only [if_true]; rw [hcl, if_neg (by omega)]
      rw [hn, hS]
      rw [hp] at hs
      simp only [un2_tuple, unI_int, unS_string, mBind_ap, sNone, beq_self_eq_true, Bool.not_true, mIf_false, mGuard_ap, mRet_ap, bne_self_eq_false]
      refine ⟨by omega, ?_⟩
      refine (Report_s hs).mono ?_
      rintro v h5 ⟨rfl, hs⟩
      have hr : (⟨early, late, q, true, s, o⟩ : Dog).repA = sFine := by unfold Dog.repA; simp only [if_true]; rw [if_neg (by omega)]
      have hr2 : (⟨early, late, q, true, s, o⟩ : Dog).rep = ⟨early, late, 0, true, s, o⟩ := by unfold Dog.rep; simp only [if_true]; rw [if_neg (by omega)]
      rw [hr]
      rw [hr2] at hs
      simp only [sFine, unS_string, beq_self_eq_true, Bool.not_true, mIf_false]
      rw [wrap64 _ (by omega), show (i : Int) + 1 = ((i + 1 : Nat) : Int) by omega]
      exact ih (i + 1) h5 s o (by omega) hs
  exact loop zs.length 0 h3 0 0 (by omega) hs
end Go.Proofs.Ytkmenmagclojmaa
