/- Configurations as bytes: what the program reads. Conditions: none. -/
import Derived.Test.YtimpaammdmeocaaCodeT
import Derived.Test.YtimpaammdmeocaaSbW
namespace Go.Proofs.Ytimpaammdmeocaa
open Go Go.Sb
set_option linter.unusedSimpArgs false
set_option linter.unusedVariables false
set_option linter.unusedVariables false
section
variable {h0 h : Hp} {R L : List As} {r : Nat} {s : Cur}
theorem sep_all : ∀ (A R : List As), Sep h0 h (aAll A :: R) ↔ Sep h0 h (A ++ R)
  | [], R => Sep.all_nil
  | x :: A, R => by
    rw [Sep.all]
    constructor
    · intro hs
      have := (sep_all A (x :: R)).1 hs.swap
      refine this.perm ?_
      exact List.perm_middle
    · intro hs
      refine Sep.swap ?_
      rw [sep_all A (x :: R)]
      exact hs.perm List.perm_middle.symm
abbrev fO (p : PTask × Sl) : As := aRow encO 3 p.2 p.1.ops
theorem all_push {ts : List (PTask × Sl)} {p : PTask × Sl} (hs : Sep h0 h (fO p :: aAll (ts.map fO) :: R)) : Sep h0 h (aAll ((ts ++ [p]).map fO) :: R) := by
  rw [sep_all, List.map_append, List.append_assoc]
  have := (sep_all _ _).1 hs.swap
  exact this
theorem crd_of {C : PCfg} {sm sc se st sl : Sl} {ts : List (PTask × Sl)} (ht : ts.map (·.1) = C.tasks) (h1 : ∀ n ∈ C.mail, okN n) (h2 : ∀ n ∈ C.counts, okN n) (h3 : ∀ n ∈ C.ceils, okN n) (h4 : ∀ n ∈ C.lines, okN n)
    (hs : Sep h0 h (aRow encI 1 sl C.lines :: aRow encT 7 st ts :: aAll (ts.map fO) :: aRow encI 1 sm C.mail :: aRow encI 1 sc C.counts :: aRow encI 1 se C.ceils :: R)) : CRd h C sm sc se st sl ts := by
  have wf : ∀ {l : List Int}, (∀ n ∈ l, okN n) → ∀ z ∈ l, IntKind.i64.min ≤ z ∧ z ≤ IntKind.i64.max := by
    intro l hl z hz
    have := hl z hz
    unfold okN at this
    rw [show IntKind.i64.min = -9223372036854775808 by decide, show IntKind.i64.max = 9223372036854775807 by decide]
    omega
  refine ⟨hs.rowI 3 rfl (wf h1), hs.rowI 4 rfl (wf h2), hs.rowI 5 rfl (wf h3), hs.rowI 0 rfl (wf h4), hs.rowE 1 rfl (fun _ => rfl) (by omega), hs.rowCap 1 rfl, ht, fun p hp => ?_⟩
  have hs := (sep_all _ _).1 (hs.front 2 rfl)
  obtain ⟨k, hk, rfl⟩ := List.mem_iff_getElem.1 hp
  have hkk : ∀ L : List As, (ts.map fO ++ L)[k]? = some (fO ts[k]) := by
    intro L
    rw [List.getElem?_append_left (by simpa using hk), List.getElem?_map, List.getElem?_eq_getElem hk]; rfl
  exact ⟨hs.rowE k (hkk _) (fun _ => rfl) (by omega), hs.rowCap k (hkk _)⟩
theorem crd_nil : CRd h c0Cfg ⟨none, 0, 0⟩ ⟨none, 0, 0⟩ ⟨none, 0, 0⟩ ⟨none, 0, 0⟩ ⟨none, 0, 0⟩ [] :=
  ⟨rdI_nil, rdI_nil, rdI_nil, rdI_nil, ⟨rfl, fun i z hz => by simp at hz⟩, Nat.le_refl _, rfl, fun p hp => by cases hp⟩
/-- what a configuration that was read owns -/
abbrev cfgA (C : PCfg) (sm sc se st sl : Sl) (ts : List (PTask × Sl)) : List As := [aRow encI 1 sl C.lines, aRow encT 7 st ts, aAll (ts.map fO), aRow encI 1 sm C.mail, aRow encI 1 sc C.counts, aRow encI 1 se C.ceils]
structure OkL (C : PCfg) (ts : List (PTask × Sl)) : Prop where
  ts : ts.map (·.1) = C.tasks
  mail : ∀ n ∈ C.mail, okN n
  counts : ∀ n ∈ C.counts, okN n
  ceils : ∀ n ∈ C.ceils, okN n
  lines : ∀ n ∈ C.lines, okN n
theorem crd_own {C : PCfg} {sm sc se st sl : Sl} {ts : List (PTask × Sl)} (ho : OkL C ts) (hs : Sep h0 h (cfgA C sm sc se st sl ts ++ R)) : CRd h C sm sc se st sl ts := crd_of ho.ts ho.mail ho.counts ho.ceils ho.lines hs
theorem cfg_drop {C : PCfg} {sm sc se st sl : Sl} {ts : List (PTask × Sl)} (hs : Sep h0 h (cfgA C sm sc se st sl ts ++ R)) : Sep h0 h R := hs.drop.drop.drop.drop.drop.drop
/-- what was read, behind what else is owned -/
theorem cfg_back {C : PCfg} {sm sc se st sl : Sl} {ts : List (PTask × Sl)} (hs : Sep h0 h (cfgA C sm sc se st sl ts ++ R)) : Sep h0 h (R ++ cfgA C sm sc se st sl ts) := hs.perm List.perm_append_comm
theorem cfg_front {C : PCfg} {sm sc se st sl : Sl} {ts : List (PTask × Sl)} (hs : Sep h0 h (R ++ cfgA C sm sc se st sl ts)) : Sep h0 h (cfgA C sm sc se st sl ts ++ R) := hs.perm List.perm_append_comm
theorem nilCfg (hs : Sep h0 h R) : Sep h0 h (cfgA c0Cfg ⟨none, 0, 0⟩ ⟨none, 0, 0⟩ ⟨none, 0, 0⟩ ⟨none, 0, 0⟩ ⟨none, 0, 0⟩ [] ++ R) :=
  (Sep.all_nil.2 (((hs.nilRow encI 1).nilRow encI 1).nilRow encI 1)).nilRow encT 7 |>.nilRow encI 1
theorem okL_nil : OkL c0Cfg [] := ⟨rfl, fun n hn => (by cases hn), fun n hn => (by cases hn), fun n hn => (by cases hn), fun n hn => (by cases hn)⟩
/-- what reading a configuration answers -/
abbrev PaQ (h0 : Hp) (R : List As) (E : PCfg × Int) : Value → Hp → Prop := fun v h' => ∃ sm sc se st sl ts, v = .tuple #[.agg (cfgC E.1 sm sc se st sl).toArray, .int .i64 E.2] ∧ OkL E.1 ts ∧ Sep h0 h' (cfgA E.1 sm sc se st sl ts ++ R)
theorem cutPrefix_s {b x : Sl} {l : List Int} (hr : RdI h0.size h0 .u8 b l) (hc : b.n ≤ b.c) (hs : Sep h0 h (aRow encB 1 x [83, 66] :: L)) : N_bytes_CutPrefix b x h (fun v h' => ∃ y : Sl, v = .tuple #[.slice y.p y.n y.c, .bool (!(begO l).2)] ∧ RdI h0.size h0 .u8 y (begO l).1 ∧ y.n ≤ y.c ∧ Sep h0 h' L) := by
  have hn := hr.n
  have hxn := hs.rowLen 0 rfl
  have hxn : x.n = 2 := hxn
  have hxr := (rowB hs (k := 0) rfl (by intro z hz; simp at hz; omega)).1
  apply S_bytes_CutPrefix
  unfold B_bytes_CutPrefix
  rw [mBind_ap]
  apply S_bytes_HasPrefix
  unfold B_bytes_HasPrefix
  rw [mBind_ap, hxn]
  have no : l.take 2 ≠ [83, 66] → ∃ y : Sl, (Value.tuple #[.slice b.p b.n b.c, .bool false]) = .tuple #[.slice y.p y.n y.c, .bool (!(begO l).2)] ∧ RdI h0.size h0 .u8 y (begO l).1 ∧ y.n ≤ y.c ∧ Sep h0 h L := by
    intro e
    unfold begO
    rw [if_neg e]
    exact ⟨b, rfl, hr, hc, hs.drop⟩
  refine mIf_intro (fun h2 => ?_) (fun h2 => ?_)
  · have h2 : 2 ≤ l.length := by simp at h2; omega
    refine hr.slc hc (by omega) (by omega) (by omega) rfl fun y hy hyc => ?_
    simp only [Int.toNat_zero, List.drop_zero] at hy
    have hy : RdI h0.size h0 .u8 y (l.take 2) := hy
    rw [mBind_ap]
    apply S_bytes_Equal
    unfold B_bytes_Equal
    refine (hy.under hs.under).str ?_
    refine hxr.str ?_
    rw [str_eq (rdI_B hy) (by intro z hz; simp at hz; omega)]
    simp only [mRet_ap, unB_bool]
    by_cases e : l.take 2 = [83, 66]
    · refine mIf_neg (by simp [e]) ?_
      refine hr.slc hc (by omega) (by omega) (by omega) rfl fun z hz hzc => ?_
      rw [mRet_ap]
      unfold begO
      rw [if_pos e]
      refine ⟨z, rfl, ?_, hzc, hs.drop⟩
      rw [hn] at hz
      simp only [Int.toNat_natCast] at hz
      rw [List.take_of_length_le (Nat.le_refl _)] at hz
      exact hz
    · refine mIf_pos (by simp [e]) ?_
      rw [mRet_ap]
      exact no e
  · have h2 : l.length < 2 := by simp at h2; omega
    simp only [mRet_ap, unB_bool]
    refine mIf_pos rfl ?_
    rw [mRet_ap]
    refine no fun e => ?_
    have := congrArg List.length e
    rw [List.length_take] at this
    simp at this
    omega
abbrev nilS : Sl := ⟨none, 0, 0⟩
/-- the end: what is told -/
theorem parseEnd {t2 c n : Nat} {C : PCfg} {sm sc se st : Sl} {ts : List (PTask × Sl)} (hn : n ≤ 1000000) (ht : ts.map (·.1) = C.tasks) (h1 : ∀ n ∈ C.mail, okN n) (h2 : ∀ n ∈ C.counts, okN n) (h3 : ∀ n ∈ C.ceils, okN n) (hl : s.1.length ≤ 1000000)
    (hs : CurAt h0 r s h (aBlk t2 (cfgC c0Cfg nilS nilS nilS nilS nilS) :: aBlk c (cfgC C sm sc se st nilS) :: aRow encT 7 st ts :: aAll (ts.map fO) :: aRow encI 1 sm C.mail :: aRow encI 1 sc C.counts :: aRow encI 1 se C.ceils :: R)) :
    K_code_Parse_16 ⟨t2, 0, none⟩ ⟨r, 0, none⟩ ⟨c, 0, none⟩ (n : Int) (n : Int) h (PaQ h0 R (if (cList s).2.2 || decide (0 < (cList s).2.1.length) then (c0Cfg, 2) else if checkN { C with lines := (cList s).1 } ≠ 0 then (c0Cfg, checkN { C with lines := (cList s).1 }) else ({ C with lines := (cList s).1 }, 0))) := by
  apply S_code_Parse_16
  unfold B_code_Parse_16
  refine mIf_neg (by simp) ?_
  rw [mBind_ap]
  refine (clist_s hl hs).mono ?_
  rintro v h ⟨sl, rfl, b, hr, hc, hs⟩
  obtain ⟨_, _, hol⟩ := list_len s
  generalize cList s = q at hr hs hol ⊢
  obtain ⟨ls, l, od⟩ := q
  simp only at hr hs hol ⊢
  have hbn := hr.n
  simp only [unL_slice, add_mk, Nat.zero_add]
  refine hs.st 3 rfl rfl rfl fun h hs => ?_
  simp only [List.set_cons_succ, List.set_cons_zero] at hs
  have hs : Sep h0 h (aBlk r [.slice b.p b.n b.c, .bool od] :: aRow encI 1 sl ls :: aBlk t2 (cfgC c0Cfg nilS nilS nilS nilS nilS) :: aBlk c (cfgC { C with lines := ls } sm sc se st sl) :: aRow encT 7 st ts :: aAll (ts.map fO) :: aRow encI 1 sm C.mail :: aRow encI 1 sc C.counts :: aRow encI 1 se C.ceils :: R) := hs
  have bad : ∀ h (e : Int), Sep h0 h (aBlk r [.slice b.p b.n b.c, .bool od] :: aRow encI 1 sl ls :: aBlk t2 (cfgC c0Cfg nilS nilS nilS nilS nilS) :: aBlk c (cfgC { C with lines := ls } sm sc se st sl) :: aRow encT 7 st ts :: aAll (ts.map fO) :: aRow encI 1 sm C.mail :: aRow encI 1 sc C.counts :: aRow encI 1 se C.ceils :: R) → ∃ sm sc se st sl ts, (Value.tuple #[.agg (cfgC c0Cfg nilS nilS nilS nilS nilS).toArray, .int .i64 e]) = .tuple #[.agg (cfgC c0Cfg sm sc se st sl).toArray, .int .i64 e] ∧ OkL c0Cfg ts ∧ Sep h0 h (cfgA c0Cfg sm sc se st sl ts ++ R) :=
    fun h e hs => ⟨nilS, nilS, nilS, nilS, nilS, [], rfl, okL_nil, nilCfg hs.drop.drop.drop.drop.drop.drop.drop.drop.drop⟩
  have hb : ((decide ((b.n : Int) > 0))) = decide (0 < l.length) := by rw [hbn]; rw [Bool.eq_iff_iff]; simp
  (refine Sep.ldB hs 0 rfl rfl ?_; simp only [mBind_ap])
  cases od with
  | true =>
    (simp only [Bool.true_or, mIf_true]; rw [mRet_ap]; simp only [mIf_true]; (refine Sep.st hs 2 rfl rfl rfl fun h hs => ?_; simp only [List.set_cons_zero, List.set_cons_succ] at hs); (refine Sep.st hs 2 rfl rfl rfl fun h hs => ?_; simp only [List.set_cons_zero, List.set_cons_succ] at hs); (refine Sep.st hs 2 rfl rfl rfl fun h hs => ?_; simp only [List.set_cons_zero, List.set_cons_succ] at hs); (refine Sep.st hs 2 rfl rfl rfl fun h hs => ?_; simp only [List.set_cons_zero, List.set_cons_succ] at hs); (refine Sep.st hs 2 rfl rfl rfl fun h hs => ?_; simp only [List.set_cons_zero, List.set_cons_succ] at hs); (refine Sep.st hs 2 rfl rfl rfl fun h hs => ?_; simp only [List.set_cons_zero, List.set_cons_succ] at hs); (refine Sep.st hs 2 rfl rfl rfl fun h hs => ?_; simp only [List.set_cons_zero, List.set_cons_succ] at hs); (refine Sep.st hs 2 rfl rfl rfl fun h hs => ?_; simp only [List.set_cons_zero, List.set_cons_succ] at hs); (refine Sep.st hs 2 rfl rfl rfl fun h hs => ?_; simp only [List.set_cons_zero, List.set_cons_succ] at hs); (refine Sep.st hs 2 rfl rfl rfl fun h hs => ?_; simp only [List.set_cons_zero, List.set_cons_succ] at hs); refine Sep.ldI hs 2 rfl rfl ?_; refine Sep.ldI hs 2 rfl rfl ?_; refine Sep.ldI hs 2 rfl rfl ?_; refine Sep.ldI hs 2 rfl rfl ?_; refine Sep.ldL' hs 2 rfl rfl ?_; refine Sep.ldI hs 2 rfl rfl ?_; refine Sep.ldL' hs 2 rfl rfl ?_; refine Sep.ldL' hs 2 rfl rfl ?_; refine Sep.ldL' hs 2 rfl rfl ?_; refine Sep.ldL' hs 2 rfl rfl ?_)
    exact bad h 2 hs
  | false =>
    (simp only [Bool.false_or, mIf_false]; refine Sep.ldL hs 0 rfl rfl ?_; rw [mRet_ap])
    rw [hb]
    refine mIf_intro (fun hc2 => ?_) (fun hc2 => ?_)
    · rw [if_pos hc2]
      ((refine Sep.st hs 2 rfl rfl rfl fun h hs => ?_; simp only [List.set_cons_zero, List.set_cons_succ] at hs); (refine Sep.st hs 2 rfl rfl rfl fun h hs => ?_; simp only [List.set_cons_zero, List.set_cons_succ] at hs); (refine Sep.st hs 2 rfl rfl rfl fun h hs => ?_; simp only [List.set_cons_zero, List.set_cons_succ] at hs); (refine Sep.st hs 2 rfl rfl rfl fun h hs => ?_; simp only [List.set_cons_zero, List.set_cons_succ] at hs); (refine Sep.st hs 2 rfl rfl rfl fun h hs => ?_; simp only [List.set_cons_zero, List.set_cons_succ] at hs); (refine Sep.st hs 2 rfl rfl rfl fun h hs => ?_; simp only [List.set_cons_zero, List.set_cons_succ] at hs); (refine Sep.st hs 2 rfl rfl rfl fun h hs => ?_; simp only [List.set_cons_zero, List.set_cons_succ] at hs); (refine Sep.st hs 2 rfl rfl rfl fun h hs => ?_; simp only [List.set_cons_zero, List.set_cons_succ] at hs); (refine Sep.st hs 2 rfl rfl rfl fun h hs => ?_; simp only [List.set_cons_zero, List.set_cons_succ] at hs); (refine Sep.st hs 2 rfl rfl rfl fun h hs => ?_; simp only [List.set_cons_zero, List.set_cons_succ] at hs); refine Sep.ldI hs 2 rfl rfl ?_; refine Sep.ldI hs 2 rfl rfl ?_; refine Sep.ldI hs 2 rfl rfl ?_; refine Sep.ldI hs 2 rfl rfl ?_; refine Sep.ldL' hs 2 rfl rfl ?_; refine Sep.ldI hs 2 rfl rfl ?_; refine Sep.ldL' hs 2 rfl rfl ?_; refine Sep.ldL' hs 2 rfl rfl ?_; refine Sep.ldL' hs 2 rfl rfl ?_; refine Sep.ldL' hs 2 rfl rfl ?_)
      exact bad h 2 hs
    · rw [if_neg (by rw [hc2]; decide)]
      (refine Sep.ldI hs 3 rfl rfl ?_; refine Sep.ldI hs 3 rfl rfl ?_; refine Sep.ldI hs 3 rfl rfl ?_; refine Sep.ldI hs 3 rfl rfl ?_; refine Sep.ldL hs 3 rfl rfl ?_; refine Sep.ldI hs 3 rfl rfl ?_; refine Sep.ldL hs 3 rfl rfl ?_; refine Sep.ldL hs 3 rfl rfl ?_; refine Sep.ldL hs 3 rfl rfl ?_; refine Sep.ldL hs 3 rfl rfl ?_; simp only [mBind_ap])
      have hcrd : CRd h { C with lines := ls } sm sc se st sl ts := crd_of (C := { C with lines := ls }) ht h1 h2 h3 hol (hs.reT 9 [1, 4, 5, 6, 7, 8, 0, 2, 3] rfl (by simp))
      refine (pConf_s hcrd (Sep.init h)).mono ?_
      rintro v h' ⟨rfl, hs'⟩
      have hs := hs.more hs'.under
      simp only [unI_int]
      generalize hk : checkN { C with lines := ls } = e
      refine mIf_intro (fun he => ?_) (fun he => ?_)
      · rw [if_pos (by simpa using he)]
        ((refine Sep.st hs 2 rfl rfl rfl fun h hs => ?_; simp only [List.set_cons_zero, List.set_cons_succ] at hs); (refine Sep.st hs 2 rfl rfl rfl fun h hs => ?_; simp only [List.set_cons_zero, List.set_cons_succ] at hs); (refine Sep.st hs 2 rfl rfl rfl fun h hs => ?_; simp only [List.set_cons_zero, List.set_cons_succ] at hs); (refine Sep.st hs 2 rfl rfl rfl fun h hs => ?_; simp only [List.set_cons_zero, List.set_cons_succ] at hs); (refine Sep.st hs 2 rfl rfl rfl fun h hs => ?_; simp only [List.set_cons_zero, List.set_cons_succ] at hs); (refine Sep.st hs 2 rfl rfl rfl fun h hs => ?_; simp only [List.set_cons_zero, List.set_cons_succ] at hs); (refine Sep.st hs 2 rfl rfl rfl fun h hs => ?_; simp only [List.set_cons_zero, List.set_cons_succ] at hs); (refine Sep.st hs 2 rfl rfl rfl fun h hs => ?_; simp only [List.set_cons_zero, List.set_cons_succ] at hs); (refine Sep.st hs 2 rfl rfl rfl fun h hs => ?_; simp only [List.set_cons_zero, List.set_cons_succ] at hs); (refine Sep.st hs 2 rfl rfl rfl fun h hs => ?_; simp only [List.set_cons_zero, List.set_cons_succ] at hs); refine Sep.ldI hs 2 rfl rfl ?_; refine Sep.ldI hs 2 rfl rfl ?_; refine Sep.ldI hs 2 rfl rfl ?_; refine Sep.ldI hs 2 rfl rfl ?_; refine Sep.ldL' hs 2 rfl rfl ?_; refine Sep.ldI hs 2 rfl rfl ?_; refine Sep.ldL' hs 2 rfl rfl ?_; refine Sep.ldL' hs 2 rfl rfl ?_; refine Sep.ldL' hs 2 rfl rfl ?_; refine Sep.ldL' hs 2 rfl rfl ?_)
        exact bad _ e hs
      · rw [if_neg (by simpa using he)]
        (refine Sep.ldI hs 3 rfl rfl ?_; refine Sep.ldI hs 3 rfl rfl ?_; refine Sep.ldI hs 3 rfl rfl ?_; refine Sep.ldI hs 3 rfl rfl ?_; refine Sep.ldL hs 3 rfl rfl ?_; refine Sep.ldI hs 3 rfl rfl ?_; refine Sep.ldL hs 3 rfl rfl ?_; refine Sep.ldL hs 3 rfl rfl ?_; refine Sep.ldL hs 3 rfl rfl ?_; refine Sep.ldL hs 3 rfl rfl ?_; (refine Sep.st hs 2 rfl rfl rfl fun h hs => ?_; simp only [List.set_cons_zero, List.set_cons_succ] at hs); (refine Sep.st hs 2 rfl rfl rfl fun h hs => ?_; simp only [List.set_cons_zero, List.set_cons_succ] at hs); (refine Sep.st hs 2 rfl rfl rfl fun h hs => ?_; simp only [List.set_cons_zero, List.set_cons_succ] at hs); (refine Sep.st hs 2 rfl rfl rfl fun h hs => ?_; simp only [List.set_cons_zero, List.set_cons_succ] at hs); (refine Sep.st hs 2 rfl rfl rfl fun h hs => ?_; simp only [List.set_cons_zero, List.set_cons_succ] at hs); (refine Sep.st hs 2 rfl rfl rfl fun h hs => ?_; simp only [List.set_cons_zero, List.set_cons_succ] at hs); (refine Sep.st hs 2 rfl rfl rfl fun h hs => ?_; simp only [List.set_cons_zero, List.set_cons_succ] at hs); (refine Sep.st hs 2 rfl rfl rfl fun h hs => ?_; simp only [List.set_cons_zero, List.set_cons_succ] at hs); (refine Sep.st hs 2 rfl rfl rfl fun h hs => ?_; simp only [List.set_cons_zero, List.set_cons_succ] at hs); (refine Sep.st hs 2 rfl rfl rfl fun h hs => ?_; simp only [List.set_cons_zero, List.set_cons_succ] at hs); refine Sep.ldI hs 2 rfl rfl ?_; refine Sep.ldI hs 2 rfl rfl ?_; refine Sep.ldI hs 2 rfl rfl ?_; refine Sep.ldI hs 2 rfl rfl ?_; refine Sep.ldL hs 2 rfl rfl ?_; refine Sep.ldI hs 2 rfl rfl ?_; refine Sep.ldL hs 2 rfl rfl ?_; refine Sep.ldL hs 2 rfl rfl ?_; refine Sep.ldL hs 2 rfl rfl ?_; refine Sep.ldL hs 2 rfl rfl ?_)
        exact ⟨sm, sc, se, st, sl, ts, rfl, ⟨ht, h1, h2, h3, hol⟩, (hs.reT 9 [0, 2, 3, 1, 4, 5, 6, 7, 8] rfl (by simp)).drop.drop.drop⟩
theorem parse16 {t2 c : Nat} {C : PCfg} {sm sc se : Sl} (h1 : ∀ n ∈ C.mail, okN n) (h2 : ∀ n ∈ C.counts, okN n) (h3 : ∀ n ∈ C.ceils, okN n) {E : List PTask → Cur → PCfg × Int}
    (hE : ∀ ts s, E ts s = if (cList s).2.2 || decide (0 < (cList s).2.1.length) then (c0Cfg, 2) else if checkN { C with tasks := ts, lines := (cList s).1 } ≠ 0 then (c0Cfg, checkN { C with tasks := ts, lines := (cList s).1 }) else ({ C with tasks := ts, lines := (cList s).1 }, 0)) :
    ∀ (d j n : Nat) (ts : List (PTask × Sl)) (st : Sl) (s : Cur) (h : Hp), j + d = n → n ≤ 1000000 → ts.length = j → s.1.length ≤ 1000000 →
    CurAt h0 r s h (aBlk t2 (cfgC c0Cfg nilS nilS nilS nilS nilS) :: aBlk c (cfgC C sm sc se st nilS) :: aRow encT 7 st ts :: aAll (ts.map fO) :: aRow encI 1 sm C.mail :: aRow encI 1 sc C.counts :: aRow encI 1 se C.ceils :: R) →
    K_code_Parse_16 ⟨t2, 0, none⟩ ⟨r, 0, none⟩ ⟨c, 0, none⟩ (n : Int) (j : Int) h (PaQ h0 R (E (ts.map (·.1) ++ (cTasks d s).1) (cTasks d s).2))
  | 0, j, n, ts, st, s, h, hj, hn, htl, hl, hs => by
    have hj : j = n := by omega
    subst hj
    rw [hE]
    simp only [cTasks, List.append_nil]
    exact parseEnd (C := { C with tasks := ts.map (·.1) }) hn rfl h1 h2 h3 hl hs
  | d + 1, j, n, ts, st, s, h, hj, hn, htl, hl, hs => by
    have hw := wrapS j (by omega)
    have fin : ∀ h (o st' : Sl), CurAt h0 r (cTask s).2 h (aBlk t2 (cfgC c0Cfg nilS nilS nilS nilS nilS) :: aBlk c (cfgC C sm sc se st' nilS) :: aRow encT 7 st' (ts ++ [((cTask s).1, o)]) :: aRow encO 3 o (cTask s).1.ops :: aAll (ts.map fO) :: aRow encI 1 sm C.mail :: aRow encI 1 sc C.counts :: aRow encI 1 se C.ceils :: R) →
        K_code_Parse_16 ⟨t2, 0, none⟩ ⟨r, 0, none⟩ ⟨c, 0, none⟩ (n : Int) (IntKind.i64.wrap ((j : Int) + 1)) h (PaQ h0 R (E (ts.map (·.1) ++ (cTasks (d + 1) s).1) (cTasks (d + 1) s).2)) := by
      rintro h o st' ⟨b, hr, hc, hs⟩
      rw [hw]
      have hs := all_push (p := ((cTask s).1, o)) ((hs.reT 6 [4, 5, 0, 1, 2, 3] rfl (by simp)))
      have := parse16 h1 h2 h3 hE d (j + 1) n (ts ++ [((cTask s).1, o)]) st' (cTask s).2 h (by omega) hn (by simp; omega) (Nat.le_trans (task_len s) hl) ⟨b, hr, hc, hs.reT 5 [1, 2, 3, 4, 0] rfl (by simp)⟩
      simpa [cTasks] using this
    apply S_code_Parse_16
    unfold B_code_Parse_16
    refine mIf_pos (by simp; omega) ?_
    refine mAnd_intro ?_ ?_
    · obtain ⟨b, hr, hc, hs⟩ := hs
      (refine Sep.ldL hs 2 rfl rfl ?_; simp only [add_mk, Nat.zero_add, mBind_ap])
      refine (ctask_cur hl ⟨b, hr, hc, hs⟩).mono ?_
      rintro v h ⟨o, rfl, b, hr, hc, hs⟩
      (simp only [unA_agg, unC_cons, unE_nil, unL_slice, unI_int]; (refine Sep.new hs fun nb h hs => ?_; try simp only [List.toList_toArray] at hs))
      refine hs.app1 5 0 ((cTask s).1, o) rfl rfl (fun _ => rfl) (by intro v hv; simp at hv; rcases hv with rfl | rfl | rfl | rfl | rfl | rfl | rfl <;> rfl) rfl (by omega) (by omega) fun st' h hn' hs => ?_
      simp only [List.set_cons_succ, List.set_cons_zero] at hs
      ((refine Sep.st hs 4 rfl rfl rfl fun h hs => ?_; simp only [List.set_cons_zero, List.set_cons_succ] at hs))
      exact fin h o st' ⟨b, hr, hc, (hs.drop.reT 5 [0, 2, 3, 4, 1] rfl (by simp))⟩
    · rw [mBind_ap]
      refine (ctask_cur hl hs).mono ?_
      rintro v h ⟨o, rfl, b, hr, hc, hs⟩
      simp only [unA_agg, unC_cons, unI_int, unL_slice, unE_nil, List.toList_toArray]
      refine mAnd_intro ?_ ?_
      · (refine Sep.ldL hs 3 rfl rfl ?_; (refine Sep.new hs fun nb h hs => ?_; try simp only [List.toList_toArray] at hs); simp only [add_mk, Nat.zero_add])
        refine hs.app1 5 0 ((cTask s).1, o) rfl rfl (fun _ => rfl) (by intro v hv; simp at hv; rcases hv with rfl | rfl | rfl | rfl | rfl | rfl | rfl <;> rfl) rfl (by omega) (by omega) fun st' h hn' hs => ?_
        simp only [List.set_cons_succ, List.set_cons_zero] at hs
        ((refine Sep.st hs 4 rfl rfl rfl fun h hs => ?_; simp only [List.set_cons_zero, List.set_cons_succ] at hs))
        exact fin h o st' ⟨b, hr, hc, (hs.drop.reT 5 [0, 2, 3, 4, 1] rfl (by simp))⟩
      · ((refine Sep.new hs fun nb h hs => ?_; try simp only [List.toList_toArray] at hs); refine Sep.ldL hs 4 rfl rfl ?_; simp only [add_mk, Nat.zero_add])
        refine hs.app1 5 0 ((cTask s).1, o) rfl rfl (fun _ => rfl) (by intro v hv; simp at hv; rcases hv with rfl | rfl | rfl | rfl | rfl | rfl | rfl <;> rfl) rfl (by omega) (by omega) fun st' h hn' hs => ?_
        simp only [List.set_cons_succ, List.set_cons_zero] at hs
        ((refine Sep.st hs 4 rfl rfl rfl fun h hs => ?_; simp only [List.set_cons_zero, List.set_cons_succ] at hs))
        exact fin h o st' ⟨b, hr, hc, (hs.drop.reT 5 [0, 2, 3, 4, 1] rfl (by simp))⟩
theorem parse8 {t2 c p : Nat} {s0 : Cur} (hl0 : s0.1.length ≤ 1000000) {E : PCfg × Int}
    (hE : E = if (cCfg s0).2.2 || decide (0 < (cCfg s0).2.1.length) then (c0Cfg, 2) else if checkN (cCfg s0).1 ≠ 0 then (c0Cfg, checkN (cCfg s0).1) else ((cCfg s0).1, 0)) :
    ∀ (d k : Nat) (xs : List Int) (s : Cur) (h : Hp), k + d = 4 → xs.length = k → (xs ++ (cNums d s).1, (cNums d s).2) = cNums 4 s0 → CurAt h0 r s h (aBlk p (ptrs c 4) :: aBlk c ((xs ++ List.replicate d 0).map (Value.int .i64 ·) ++ [.slice none 0 0, .int .i64 0, .slice none 0 0, .slice none 0 0, .slice none 0 0, .slice none 0 0]) :: aBlk t2 (cfgC c0Cfg nilS nilS nilS nilS nilS) :: R) →
    K_code_Parse_8 ⟨t2, 0, none⟩ ⟨r, 0, none⟩ ⟨c, 0, none⟩ ⟨some ⟨p, 0, none⟩, 4, 4⟩ 4 (k : Int) h (PaQ h0 R E)
  | 0, k, xs, s, h, hk, hx, he, hs => by
    obtain ⟨b, hr, hc, hs⟩ := hs
    apply S_code_Parse_8
    unfold B_code_Parse_8
    refine mIf_neg (by simp; omega) ?_
    have e1 : xs = (cNums 4 s0).1 := by rw [← he]; simp [cNums]
    have e2 : s = (cNums 4 s0).2 := by rw [← he]; simp [cNums]
    obtain ⟨l1, l2, _⟩ := nums_len 4 s0
    have hx4 : xs.length = 4 := by omega
    clear he
    subst e1
    subst e2
    have hxf := four hx4
    rw [hxf] at hs
    have hs : Sep h0 h (aBlk r [.slice b.p b.n b.c, .bool (cNums 4 s0).2.2] :: aBlk p (ptrs c 4) :: aBlk c (cfgC ⟨(cNums 4 s0).1.getD 0 0, (cNums 4 s0).1.getD 1 0, (cNums 4 s0).1.getD 2 0, (cNums 4 s0).1.getD 3 0, [], 0, [], [], [], []⟩ nilS nilS nilS nilS nilS) :: aBlk t2 (cfgC c0Cfg nilS nilS nilS nilS nilS) :: R) := hs
    have hsl : (cNums 4 s0).2.1.length ≤ 1000000 := by omega
    rw [mBind_ap]
    refine (clist_s hsl ⟨b, hr, hc, hs⟩).mono ?_
    rintro v h ⟨sm, rfl, b, hr, hc, hs⟩
    obtain ⟨a1, _, a3⟩ := list_len (cNums 4 s0).2
    simp only [unL_slice, add_mk, Nat.zero_add]
    refine hs.st 3 rfl rfl rfl fun h hs => ?_
    simp only [List.set_cons_succ, List.set_cons_zero] at hs
    rw [mBind_ap]
    refine (number_s ⟨b, hr, hc, hs⟩).mono ?_
    rintro v h ⟨rfl, b, hr, hc, hs⟩
    have g1 := num_len (cList (cNums 4 s0).2).2
    simp only [unI_int]
    refine hs.st 3 rfl rfl rfl fun h hs => ?_
    simp only [List.set_cons_succ, List.set_cons_zero] at hs
    rw [mBind_ap]
    refine (clist_s (by omega) ⟨b, hr, hc, hs⟩).mono ?_
    rintro v h ⟨sc, rfl, b, hr, hc, hs⟩
    obtain ⟨c1, _, c3⟩ := list_len (cNum (cList (cNums 4 s0).2).2).2
    simp only [unL_slice]
    rw [mBind_ap]
    refine (clist_s (by omega) ⟨b, hr, hc, hs⟩).mono ?_
    rintro v h ⟨se, rfl, b, hr, hc, hs⟩
    obtain ⟨f1, _, f3⟩ := list_len (cList (cNum (cList (cNums 4 s0).2).2).2).2
    simp only [unL_slice]
    refine hs.st 5 rfl rfl rfl fun h hs => ?_
    simp only [List.set_cons_succ, List.set_cons_zero] at hs
    refine hs.st 5 rfl rfl rfl fun h hs => ?_
    simp only [List.set_cons_succ, List.set_cons_zero] at hs
    rw [mBind_ap]
    refine (many_s ⟨b, hr, hc, hs⟩).mono ?_
    rintro v h ⟨rfl, b, hr, hc, hs⟩
    simp only [unI_int]
    obtain ⟨m1, m2⟩ := many_rng (cList (cList (cNum (cList (cNums 4 s0).2).2).2).2).2
    have m3 := many_len (cList (cList (cNum (cList (cNums 4 s0).2).2).2).2).2
    have em : (cMany (cList (cList (cNum (cList (cNums 4 s0).2).2).2).2).2).1 = (((cMany (cList (cList (cNum (cList (cNums 4 s0).2).2).2).2).2).1.toNat : Nat) : Int) := by omega
    rw [em]
    have hs := (hs.nilRow encT 7)
    have hs := Sep.all_nil.2 hs
    have := parse16 (R := R) (r := r) (t2 := t2) (c := c) (C := ⟨(cNums 4 s0).1.getD 0 0, (cNums 4 s0).1.getD 1 0, (cNums 4 s0).1.getD 2 0, (cNums 4 s0).1.getD 3 0, (cList (cNums 4 s0).2).1, (cNum (cList (cNums 4 s0).2).2).1, (cList (cNum (cList (cNums 4 s0).2).2).2).1, (cList (cList (cNum (cList (cNums 4 s0).2).2).2).2).1, [], []⟩) (sm := sm) (sc := sc) (se := se) a3 c3 f3 (E := fun ts s' => if (cList s').2.2 || decide (0 < (cList s').2.1.length) then (c0Cfg, 2) else if checkN ⟨(cNums 4 s0).1.getD 0 0, (cNums 4 s0).1.getD 1 0, (cNums 4 s0).1.getD 2 0, (cNums 4 s0).1.getD 3 0, (cList (cNums 4 s0).2).1, (cNum (cList (cNums 4 s0).2).2).1, (cList (cNum (cList (cNums 4 s0).2).2).2).1, (cList (cList (cNum (cList (cNums 4 s0).2).2).2).2).1, ts, (cList s').1⟩ ≠ 0 then (c0Cfg, checkN ⟨(cNums 4 s0).1.getD 0 0, (cNums 4 s0).1.getD 1 0, (cNums 4 s0).1.getD 2 0, (cNums 4 s0).1.getD 3 0, (cList (cNums 4 s0).2).1, (cNum (cList (cNums 4 s0).2).2).1, (cList (cNum (cList (cNums 4 s0).2).2).2).1, (cList (cList (cNum (cList (cNums 4 s0).2).2).2).2).1, ts, (cList s').1⟩) else (⟨(cNums 4 s0).1.getD 0 0, (cNums 4 s0).1.getD 1 0, (cNums 4 s0).1.getD 2 0, (cNums 4 s0).1.getD 3 0, (cList (cNums 4 s0).2).1, (cNum (cList (cNums 4 s0).2).2).1, (cList (cNum (cList (cNums 4 s0).2).2).2).1, (cList (cList (cNum (cList (cNums 4 s0).2).2).2).2).1, ts, (cList s').1⟩, 0)) (fun _ _ => rfl)
      (cMany (cList (cList (cNum (cList (cNums 4 s0).2).2).2).2).2).1.toNat 0 (cMany (cList (cList (cNum (cList (cNums 4 s0).2).2).2).2).2).1.toNat [] nilS (cMany (cList (cList (cNum (cList (cNums 4 s0).2).2).2).2).2).2 h (Nat.zero_add _) (by omega) rfl (by omega) ⟨b, hr, hc, (hs.reT 9 [6, 2, 8, 7, 1, 0, 5, 4, 3] rfl (by simp)).drop⟩
    rw [hE]
    exact this
  | d + 1, k, xs, s, h, hk, hx, he, hs => by
    apply S_code_Parse_8
    unfold B_code_Parse_8
    refine mIf_pos (by simp; omega) ?_
    refine mIdx_of (by omega) (by omega) ?_
    rw [Int.toNat_natCast, Nat.mul_one, add_mk, Nat.zero_add]
    obtain ⟨b, hr, hc, hs'⟩ := hs
    refine hs'.ldP 1 rfl (n := some ⟨c, k, none⟩) (by unfold ptrs; rw [List.getElem?_map, List.getElem?_range (by omega)]; rfl) ?_
    rw [mBind_ap]
    refine (number_s ⟨b, hr, hc, hs'⟩).mono ?_
    rintro v h ⟨rfl, b, hr, hc, hs⟩
    simp only [unI_int, mNil_some]
    refine hs.st 2 rfl (by rw [List.getElem?_append_left (by simp; omega)]; simp; omega) rfl fun h hs => ?_
    simp only [List.set_cons_succ, List.set_cons_zero] at hs
    rw [← hx, pad_set] at hs
    rw [wrapS k (by omega)]
    refine parse8 hl0 hE d (k + 1) (xs ++ [(cNum s).1]) (cNum s).2 h (by omega) (by simp; omega) ?_ ⟨b, hr, hc, hs⟩
    rw [← he]
    simp [cNums]
theorem Parse_s {b : Sl} {raw : List Int} (hr : RdI h0.size h0 .u8 b raw) (hc : b.n ≤ b.c) (hl : raw.length ≤ 1000000) (hs : Sep h0 h R) : N_code_Parse b h (PaQ h0 R (parseC raw)) := by
  have hn := hr.n
  apply S_code_Parse
  unfold B_code_Parse
  refine Sep.new hs fun t2 h hs => ?_
  simp only [List.toList_toArray] at hs
  have hs : Sep h0 h (aBlk t2 (cfgC c0Cfg nilS nilS nilS nilS nilS) :: R) := hs
  have bad : ∀ h, Sep h0 h (aBlk t2 (cfgC c0Cfg nilS nilS nilS nilS nilS) :: R) → ∃ sm sc se st sl ts, (Value.tuple #[.agg (cfgC c0Cfg nilS nilS nilS nilS nilS).toArray, .int .i64 2]) = .tuple #[.agg (cfgC c0Cfg sm sc se st sl).toArray, .int .i64 2] ∧ OkL c0Cfg ts ∧ Sep h0 h (cfgA c0Cfg sm sc se st sl ts ++ R) :=
    fun h hs => ⟨nilS, nilS, nilS, nilS, nilS, [], rfl, okL_nil, nilCfg hs.drop⟩
  unfold parseC
  rw [mBind_ap]
  by_cases hz : raw.length = 0
  · rw [if_pos (.inl hz)]
    refine mIf_pos (by rw [hn, hz]; decide) ?_
    (rw [mRet_ap]; simp only [add_mk, Nat.zero_add, mIf_true]; (refine Sep.st hs 0 rfl rfl rfl fun h hs => ?_; simp only [List.set_cons_zero, List.set_cons_succ] at hs); (refine Sep.st hs 0 rfl rfl rfl fun h hs => ?_; simp only [List.set_cons_zero, List.set_cons_succ] at hs); (refine Sep.st hs 0 rfl rfl rfl fun h hs => ?_; simp only [List.set_cons_zero, List.set_cons_succ] at hs); (refine Sep.st hs 0 rfl rfl rfl fun h hs => ?_; simp only [List.set_cons_zero, List.set_cons_succ] at hs); (refine Sep.st hs 0 rfl rfl rfl fun h hs => ?_; simp only [List.set_cons_zero, List.set_cons_succ] at hs); (refine Sep.st hs 0 rfl rfl rfl fun h hs => ?_; simp only [List.set_cons_zero, List.set_cons_succ] at hs); (refine Sep.st hs 0 rfl rfl rfl fun h hs => ?_; simp only [List.set_cons_zero, List.set_cons_succ] at hs); (refine Sep.st hs 0 rfl rfl rfl fun h hs => ?_; simp only [List.set_cons_zero, List.set_cons_succ] at hs); (refine Sep.st hs 0 rfl rfl rfl fun h hs => ?_; simp only [List.set_cons_zero, List.set_cons_succ] at hs); (refine Sep.st hs 0 rfl rfl rfl fun h hs => ?_; simp only [List.set_cons_zero, List.set_cons_succ] at hs); refine Sep.ldI hs 0 rfl rfl ?_; refine Sep.ldI hs 0 rfl rfl ?_; refine Sep.ldI hs 0 rfl rfl ?_; refine Sep.ldI hs 0 rfl rfl ?_; refine Sep.ldL' hs 0 rfl rfl ?_; refine Sep.ldI hs 0 rfl rfl ?_; refine Sep.ldL' hs 0 rfl rfl ?_; refine Sep.ldL' hs 0 rfl rfl ?_; refine Sep.ldL' hs 0 rfl rfl ?_; refine Sep.ldL' hs 0 rfl rfl ?_)
    exact bad h hs
  · have hw : IntKind.i64.wrap ((b.n : Int) - 1) = ((raw.length - 1 : Nat) : Int) := by rw [wrap64 _ (by omega)]; omega
    rw [hw]
    refine mIf_neg (by simp) ?_
    refine hr.slc hc (by omega) (by omega) (by omega) rfl fun x hx hxc => ?_
    simp only [Int.toNat_natCast, Int.toNat_zero, List.drop_zero] at hx
    rw [← List.dropLast_eq_take] at hx
    refine mQ_intro _ (Sum_s (hx.under hs.under) (by simp; omega)) ?_
    simp only [unI_int]
    refine hs.argIn hr (j := raw.length - 1) (by omega) ?_
    rw [mRet_ap]
    have hlast : raw[raw.length - 1]'(by omega) = raw.getLastD 0 := by
      rw [List.getLastD_eq_getLast?, List.getLast?_eq_getElem?, List.getElem?_eq_getElem (by omega)]
      rfl
    rw [hlast]
    by_cases hsum : sumB raw.dropLast = raw.getLastD 0
    · rw [if_neg (by omega)]
      refine mIf_neg (by simp [hsum]) ?_
      refine hr.slc hc (by omega) (by omega) (by omega) rfl fun x hx hxc => ?_
      simp only [Int.toNat_natCast, Int.toNat_zero, List.drop_zero] at hx
      rw [← List.dropLast_eq_take] at hx
      rw [mBind_ap]
      apply S_code_begin
      unfold B_code_begin
      refine Sep.new hs fun g h hs => ?_
      rw [mRet_ap]
      simp only [unL_slice]
      have hs := Blk.row (enc := encB) (xs := [83, 66]) (sz := 1) (n := 2) hs 0 rfl rfl rfl
      simp only [List.set_cons_zero] at hs
      rw [mBind_ap]
      refine (cutPrefix_s hx hxc hs).mono ?_
      rintro v h ⟨y, rfl, hy, hyc, hs⟩
      simp only [un2_tuple, unL_slice, unB_bool, Bool.not_not]
      refine Sep.new hs fun r h hs => ?_
      refine Sep.new hs fun c h hs => ?_
      refine Sep.new hs fun p h hs => ?_
      simp only [List.toList_toArray, add_mk, Nat.zero_add] at hs ⊢
      have hs : Sep h0 h (aBlk p (ptrs c 4) :: aBlk c (([] ++ List.replicate 4 (0 : Int)).map (Value.int .i64 ·) ++ [.slice none 0 0, .int .i64 0, .slice none 0 0, .slice none 0 0, .slice none 0 0, .slice none 0 0]) :: aBlk r [.slice y.p y.n y.c, .bool (begO raw.dropLast).2] :: aBlk t2 (cfgC c0Cfg nilS nilS nilS nilS nilS) :: R) := hs
      have hbl : (begO raw.dropLast).1.length ≤ 1000000 := by
        unfold begO
        split
        · simp; omega
        · simp; omega
      exact parse8 (s0 := begO raw.dropLast) hbl rfl 4 0 [] (begO raw.dropLast) h rfl rfl (by simp) ⟨y, hy, hyc, hs.reT 3 [2, 0, 1] rfl (by simp)⟩
    · rw [if_pos (.inr hsum)]
      refine mIf_pos (bne_iff_ne.2 hsum) ?_
      ((refine Sep.st hs 0 rfl rfl rfl fun h hs => ?_; simp only [List.set_cons_zero, List.set_cons_succ] at hs); (refine Sep.st hs 0 rfl rfl rfl fun h hs => ?_; simp only [List.set_cons_zero, List.set_cons_succ] at hs); (refine Sep.st hs 0 rfl rfl rfl fun h hs => ?_; simp only [List.set_cons_zero, List.set_cons_succ] at hs); (refine Sep.st hs 0 rfl rfl rfl fun h hs => ?_; simp only [List.set_cons_zero, List.set_cons_succ] at hs); (refine Sep.st hs 0 rfl rfl rfl fun h hs => ?_; simp only [List.set_cons_zero, List.set_cons_succ] at hs); (refine Sep.st hs 0 rfl rfl rfl fun h hs => ?_; simp only [List.set_cons_zero, List.set_cons_succ] at hs); (refine Sep.st hs 0 rfl rfl rfl fun h hs => ?_; simp only [List.set_cons_zero, List.set_cons_succ] at hs); (refine Sep.st hs 0 rfl rfl rfl fun h hs => ?_; simp only [List.set_cons_zero, List.set_cons_succ] at hs); (refine Sep.st hs 0 rfl rfl rfl fun h hs => ?_; simp only [List.set_cons_zero, List.set_cons_succ] at hs); (refine Sep.st hs 0 rfl rfl rfl fun h hs => ?_; simp only [List.set_cons_zero, List.set_cons_succ] at hs); refine Sep.ldI hs 0 rfl rfl ?_; refine Sep.ldI hs 0 rfl rfl ?_; refine Sep.ldI hs 0 rfl rfl ?_; refine Sep.ldI hs 0 rfl rfl ?_; refine Sep.ldL' hs 0 rfl rfl ?_; refine Sep.ldI hs 0 rfl rfl ?_; refine Sep.ldL' hs 0 rfl rfl ?_; refine Sep.ldL' hs 0 rfl rfl ?_; refine Sep.ldL' hs 0 rfl rfl ?_; refine Sep.ldL' hs 0 rfl rfl ?_)
      exact bad h hs
end
end Go.Proofs.Ytimpaammdmeocaa
