/- Who waits for whom: a graph made of pairs, beside the plain one. Conditions: none. -/
import Derived.Test.YtimpaammdmeocaaDoorWaiT
import Derived.Test.YtimpaammdmeocaaDoorWaiA
import Derived.Test.YtimpaammdmeocaaDoorSbW
namespace Go.Proofs.YtimpaammdmeocaaDoor
open Go Go.Sb
set_option linter.unusedSimpArgs false
set_option linter.unusedVariables false
def goW (rows : List Nat) (p : WPair) : List Nat := if p.stop then stopR rows p.a p.b else waitR rows p.a p.b
def madeW (ps : List WPair) : List Nat := ps.foldl goW (List.replicate 64 0)
abbrev pB (pb : Nat) (a b : Int) (st : Bool) : As := aBlk pb [.int .i64 a, .int .i64 b, .bool st]
section
variable {h0 h : Hp} {L R : List As} {g r pb k : Nat} {rows : List Nat} {a b : Int} {st : Bool} {t14 : Sl} {Q : Value → Hp → Prop}
theorem in4 {K : Bool → M Value} (hs : Sep h0 h (pB pb a b st :: L)) (hK : K (inP a && inP b) h Q) :
    (mLdI .i64 ⟨pb, 0, none⟩ fun (x21 : Int) =>
    mBind (mIf (decide (x21 ≥ (0 : Int))) (mLdI .i64 ⟨pb, 0, none⟩ fun (x25 : Int) =>
      mRet (decide (x25 < (64 : Int)))) (mRet false)) fun (b11 : Bool) =>
    mBind (mIf b11 (mLdI .i64 ((⟨pb, 0, none⟩ : Addr).add 1) fun (x30 : Int) =>
      mRet (decide (x30 ≥ (0 : Int)))) (mRet false)) fun (b14 : Bool) =>
    mBind (mIf b14 (mLdI .i64 ((⟨pb, 0, none⟩ : Addr).add 1) fun (x35 : Int) =>
      mRet (decide (x35 < (64 : Int)))) (mRet false)) K) h Q := by
  rw [add_mk]
  have no : (inP a && inP b) = false → K false h Q := fun e => by rw [e] at hK; exact hK
  refine hs.ldI 0 rfl rfl ?_
  rw [mBind_ap]
  refine mIf_intro (fun h1 => ?_) (fun h1 => ?_)
  · refine hs.ldI 0 rfl rfl ?_
    rw [mRet_ap, mBind_ap]
    refine mIf_intro (fun h2 => ?_) (fun h2 => ?_)
    · refine hs.ldI 0 rfl rfl ?_
      rw [mRet_ap, mBind_ap]
      refine mIf_intro (fun h3 => ?_) (fun h3 => ?_)
      · refine hs.ldI 0 rfl rfl ?_
        rw [mRet_ap]
        have e : (inP a && inP b) = decide (b < 64) := by
          unfold inP
          simp at h1 h2 h3
          simp [h1, h2, h3]
        rw [e] at hK
        exact hK
      · rw [mRet_ap]
        exact no (by unfold inP; simp at h3 ⊢; omega)
    · rw [mRet_ap, mBind_ap]
      refine mIf_neg rfl ?_
      rw [mRet_ap]
      exact no (by unfold inP; simp at h2 ⊢; omega)
  · rw [mRet_ap, mBind_ap]
    refine mIf_neg rfl ?_
    rw [mRet_ap, mBind_ap]
    refine mIf_neg rfl ?_
    rw [mRet_ap]
    exact no (by unfold inP; simp at h1 ⊢; omega)
theorem mk17 (hg : GOk rows) (hk : k < 100) (next : ∀ h, Sep h0 h (aBlk g (cellsN (waitR rows a b)) :: aBlk r (gCells (waitR rows a b)) :: R) → K_signalboxlaw39_made_3 (some ⟨g, 0, none⟩) ⟨r, 0, none⟩ t14 (t14.n : Int) ((k + 1 : Nat) : Int) h Q)
    (hs : Sep h0 h (pB pb a b st :: aBlk g (cellsN rows) :: aBlk r (gCells (waitR rows a b)) :: R)) : K_signalboxlaw39_made_17 (some ⟨g, 0, none⟩) ⟨r, 0, none⟩ ⟨pb, 0, none⟩ (waitV rows a b) t14 (t14.n : Int) (k : Int) h Q := by
  apply S_signalboxlaw39_made_17
  unfold B_signalboxlaw39_made_17
  refine hs.ldI 0 rfl rfl ?_
  rw [add_mk]
  refine hs.ldI 0 rfl rfl ?_
  rw [mBind_ap]
  refine (Wait_s hg a b hs.swap).mono ?_
  rintro v h ⟨rfl, hs⟩
  simp only [unI_int]
  refine mIf_neg (by simp) ?_
  rw [wrap64 _ (by omega), show (k : Int) + 1 = ((k + 1 : Nat) : Int) by omega]
  exact next h hs.swap.drop
theorem mk9 (hg : GOk rows) (hk : k < 100) (next : ∀ h, Sep h0 h (aBlk g (cellsN (stopR rows a b)) :: aBlk r (gCells (stopR rows a b)) :: R) → K_signalboxlaw39_made_3 (some ⟨g, 0, none⟩) ⟨r, 0, none⟩ t14 (t14.n : Int) ((k + 1 : Nat) : Int) h Q)
    (hs : Sep h0 h (pB pb a b st :: aBlk g (cellsN (stopR rows a b)) :: aBlk r (gCells rows) :: R)) : K_signalboxlaw39_made_9 (some ⟨g, 0, none⟩) ⟨r, 0, none⟩ ⟨pb, 0, none⟩ (inP a && inP b) t14 (t14.n : Int) (k : Int) h Q := by
  apply S_signalboxlaw39_made_9
  unfold B_signalboxlaw39_made_9
  rw [wrap64 _ (by omega), show (k : Int) + 1 = ((k + 1 : Nat) : Int) by omega, add_mk]
  refine mIf_intro (fun hc => ?_) (fun hc => ?_)
  · obtain ⟨i, rfl⟩ : ∃ i : Nat, a = i := ⟨a.toNat, by simp [inP] at hc; omega⟩
    obtain ⟨j, rfl⟩ : ∃ i : Nat, b = i := ⟨b.toNat, by simp [inP] at hc; omega⟩
    have hi : i < 64 := by simp [inP] at hc; omega
    have hj : j < 64 := by simp [inP] at hc; omega
    have fin : ∀ h, Sep h0 h ((pB pb (i : Int) (j : Int) st :: aBlk g (cellsN (stopR rows (i : Int) (j : Int))) :: aBlk r (gCells rows) :: R).set 2 (aBlk r ((gCells rows).set (64 * i + j) (.bool false)))) → K_signalboxlaw39_made_3 (some ⟨g, 0, none⟩) ⟨r, 0, none⟩ t14 (t14.n : Int) ((k + 1 : Nat) : Int) h Q := by
      intro h hs
      simp only [List.set_cons_succ, List.set_cons_zero] at hs
      rw [gCells_set hg hi hj] at hs
      simp only [Bool.false_eq_true, if_false] at hs
      refine next h ?_
      have e : stopR rows (i : Int) (j : Int) = rows.set i (offN (rows.getD i 0) (2 ^ j)) := by unfold stopR; simp only [hc, if_true, Int.toNat_natCast]
      rw [e] at hs ⊢
      exact hs.drop
    refine mAnd_intro ?_ ?_
    · refine hs.ldI 0 rfl rfl ?_
      refine mIdx_of (by omega) (by omega) ?_
      refine hs.ldI 0 rfl rfl ?_
      refine mIdx_of (by omega) (by omega) ?_
      rw [Int.toNat_natCast, Int.toNat_natCast, add_mk, add_mk, Nat.zero_add, Nat.mul_one, Nat.mul_comm i 64]
      exact hs.st 2 rfl (by rw [gCells_at hi hj]; rfl) rfl fin
    · refine hs.ldI 0 rfl rfl ?_
      refine hs.ldI 0 rfl rfl ?_
      refine gg_ix hi hj ?_
      exact hs.st 2 rfl (by rw [gCells_at hi hj]; rfl) rfl fin
  · have e : stopR rows a b = rows := by unfold stopR; rw [hc]; rfl
    refine next h ?_
    rw [e] at hs ⊢
    exact hs.drop
theorem made3 {ps : List WPair} (hl : RdE h0.size h0 WPair.enc 3 t14 ps) (hps : ps.length ≤ 60) (next : ∀ rows h, GOk rows → Sep h0 h (aBlk g (cellsN rows) :: aBlk r (gCells rows) :: R) → Q (.tuple #[.pointer (some ⟨g, 0, none⟩), .pointer (some ⟨r, 0, none⟩), .bool true]) h) : ∀ (d k : Nat) (rows : List Nat) (h : Hp), k + d = ps.length → GOk rows → Sep h0 h (aBlk g (cellsN rows) :: aBlk r (gCells rows) :: R) →
    K_signalboxlaw39_made_3 (some ⟨g, 0, none⟩) ⟨r, 0, none⟩ t14 (t14.n : Int) (k : Int) h Q
  | 0, k, rows, h, hk, hg, hs => by
    have hn := hl.n
    apply S_signalboxlaw39_made_3
    unfold B_signalboxlaw39_made_3
    refine mIf_neg (by simp; omega) ?_
    exact next rows h hg hs
  | d + 1, k, rows, h, hk, hg, hs => by
    have ih := made3 hl hps next d (k + 1)
    have hn := hl.n
    apply S_signalboxlaw39_made_3
    unfold B_signalboxlaw39_made_3
    refine mIf_pos (by simp; omega) ?_
    refine hs.argEn hl (j := k) (by omega) fun x18 ha => ?_
    generalize ps[k]'(by omega) = p at ha
    refine ha.ldI0 (n := p.a) rfl ?_
    refine ha.ldI (j := 1) (n := p.b) rfl ?_
    refine ha.ldB (j := 2) (n := p.stop) rfl ?_
    refine Sep.new hs fun pb h hs => ?_
    simp only [add_mk]
    refine hs.st 0 rfl rfl rfl fun h hs => ?_
    refine hs.st 0 rfl rfl rfl fun h hs => ?_
    refine hs.st 0 rfl rfl rfl fun h hs => ?_
    obtain ⟨a, b, st⟩ := p
    have hs : Sep h0 h (pB pb a b st :: aBlk g (cellsN rows) :: aBlk r (gCells rows) :: R) := hs
    refine in4 (st := st) hs ?_
    refine hs.ldB 0 rfl rfl ?_
    refine mIf_intro (fun hst => ?_) (fun hst => ?_)
    · have stopped : ∀ h, Sep h0 h (pB pb a b st :: aBlk g (cellsN (stopR rows a b)) :: aBlk r (gCells rows) :: R) → K_signalboxlaw39_made_9 (some ⟨g, 0, none⟩) ⟨r, 0, none⟩ ⟨pb, 0, none⟩ (inP a && inP b) t14 (t14.n : Int) (k : Int) h Q := by
        intro h hs
        refine mk9 hg (by omega) (fun h hs => ih (stopR rows a b) h (by omega) (stopR_ok hg a b) hs) hs
      have both : ∀ h', Sep h0 h' (aBlk g (cellsN (stopR rows a b)) :: pB pb a b st :: aBlk r (gCells rows) :: R) → (mIf (inP a && inP b) (
          mAnd (
            mLdI .i64 ⟨pb, 0, none⟩ fun (x50 : Int) =>
            mIdx ⟨(some ⟨r, 0, none⟩), 64, 64⟩ x50 64 fun (x54 : Addr) =>
            mLdI .i64 ⟨pb, 1, none⟩ fun (x52 : Int) =>
            mIdx ⟨(some x54), 64, 64⟩ x52 1 fun (x55 : Addr) =>
            mLdB x55 fun (x56 : Bool) =>
            mIf (!(stopV rows a b == (match true with | true => x56 | false => false))) (
              K_signalboxlaw39_made_8 (some ⟨g, 0, none⟩) ⟨r, 0, none⟩) (
              K_signalboxlaw39_made_9 (some ⟨g, 0, none⟩) ⟨r, 0, none⟩ ⟨pb, 0, none⟩ (inP a && inP b) t14 (t14.n : Int) (k : Int))) (
            mLdI .i64 ⟨pb, 1, none⟩ fun (x52 : Int) =>
            mLdI .i64 ⟨pb, 0, none⟩ fun (x50 : Int) =>
            mIdx ⟨(some ⟨r, 0, none⟩), 64, 64⟩ x50 64 fun (x54 : Addr) =>
            mIdx ⟨(some x54), 64, 64⟩ x52 1 fun (x55 : Addr) =>
            mLdB x55 fun (x56 : Bool) =>
            mIf (!(stopV rows a b == (match true with | true => x56 | false => false))) (
              K_signalboxlaw39_made_8 (some ⟨g, 0, none⟩) ⟨r, 0, none⟩) (
              K_signalboxlaw39_made_9 (some ⟨g, 0, none⟩) ⟨r, 0, none⟩ ⟨pb, 0, none⟩ (inP a && inP b) t14 (t14.n : Int) (k : Int)))) (
          mAnd (
            mIf (!(stopV rows a b == false)) (
              K_signalboxlaw39_made_8 (some ⟨g, 0, none⟩) ⟨r, 0, none⟩) (
              K_signalboxlaw39_made_9 (some ⟨g, 0, none⟩) ⟨r, 0, none⟩ ⟨pb, 0, none⟩ (inP a && inP b) t14 (t14.n : Int) (k : Int))) (
            mIf (!(stopV rows a b == false)) (
              K_signalboxlaw39_made_8 (some ⟨g, 0, none⟩) ⟨r, 0, none⟩) (
              K_signalboxlaw39_made_9 (some ⟨g, 0, none⟩) ⟨r, 0, none⟩ ⟨pb, 0, none⟩ (inP a && inP b) t14 (t14.n : Int) (k : Int))))) h' Q := by
        intro h' hs
        have hs := hs.swap
        refine mIf_intro (fun hc => ?_) (fun hc => ?_)
        · have hi : a.toNat < 64 := by simp [inP] at hc; omega
          have hj : b.toNat < 64 := by simp [inP] at hc; omega
          have ea : a = (a.toNat : Int) := by simp [inP] at hc; omega
          have eb : b = (b.toNat : Int) := by simp [inP] at hc; omega
          have ev : stopV rows a b = (rows.getD a.toNat 0).testBit b.toNat := by unfold stopV; rw [hc, Bool.true_and]
          rw [ev]
          refine mAnd_intro ?_ ?_
          · refine hs.ldI 0 rfl rfl ?_
            refine mIdx_of (by omega) (by omega) ?_
            refine hs.ldI 0 rfl rfl ?_
            refine mIdx_of (by omega) (by omega) ?_
            rw [add_mk, add_mk, Nat.zero_add, Nat.mul_one, Nat.mul_comm _ 64]
            refine hs.ldB 2 rfl (gCells_at hi hj) ?_
            refine mIf_neg (by simp) (stopped h' hs)
          · refine hs.ldI 0 rfl rfl ?_
            refine hs.ldI 0 rfl rfl ?_
            refine mIdx_of (by omega) (by omega) ?_
            refine mIdx_of (by omega) (by omega) ?_
            rw [add_mk, add_mk, Nat.zero_add, Nat.mul_one, Nat.mul_comm _ 64]
            refine hs.ldB 2 rfl (gCells_at hi hj) ?_
            refine mIf_neg (by simp) (stopped h' hs)
        · have ev : stopV rows a b = false := by unfold stopV; rw [hc, Bool.false_and]
          rw [ev]
          exact mAnd_intro (mIf_neg rfl (stopped h' hs)) (mIf_neg rfl (stopped h' hs))
      refine mAnd_intro ?_ ?_
      · refine hs.ldI 0 rfl rfl ?_
        refine hs.ldI 0 rfl rfl ?_
        rw [mBind_ap]
        refine (Stop_s hg a b hs.swap).mono ?_
        rintro v h ⟨rfl, hs⟩
        simp only [unB_bool]
        exact both h hs
      · refine hs.ldI 0 rfl rfl ?_
        refine hs.ldI 0 rfl rfl ?_
        rw [mBind_ap]
        refine (Stop_s hg a b hs.swap).mono ?_
        rintro v h ⟨rfl, hs⟩
        simp only [unB_bool]
        exact both h hs
    · have go : ∀ h w, w = waitV rows a b → Sep h0 h (pB pb a b st :: aBlk g (cellsN rows) :: aBlk r (gCells (waitR rows a b)) :: R) → K_signalboxlaw39_made_17 (some ⟨g, 0, none⟩) ⟨r, 0, none⟩ ⟨pb, 0, none⟩ w t14 (t14.n : Int) (k : Int) h Q := by
        rintro h w rfl hs
        exact mk17 hg (by omega) (fun h hs => ih (waitR rows a b) h (by omega) (waitR_ok hg a b) hs) hs
      refine mIf_intro (fun hc => ?_) (fun hc => ?_)
      · have hc : (inP a && inP b) = false := by cases e : (inP a && inP b) with
          | false => rfl
          | true => rw [e] at hc; cases hc
        refine go h 5 (by unfold waitV; rw [hc]; rfl) ?_
        have e : waitR rows a b = rows := by unfold waitR; rw [hc]; rfl
        rw [e]; exact hs
      · have hc : (inP a && inP b) = true := by cases e : (inP a && inP b) with
          | true => rfl
          | false => rw [e] at hc; cases hc
        have hi : a.toNat < 64 := by simp [inP] at hc; omega
        have hj : b.toNat < 64 := by simp [inP] at hc; omega
        have ea : a = (a.toNat : Int) := by simp [inP] at hc; omega
        have eb : b = (b.toNat : Int) := by simp [inP] at hc; omega
        refine hs.ldI 0 rfl rfl ?_
        refine hs.ldI 0 rfl rfl ?_
        refine mIdx_of (by omega) (by omega) ?_
        refine mIdx_of (by omega) (by omega) ?_
        rw [add_mk, add_mk, Nat.zero_add, Nat.mul_one, Nat.mul_comm _ 64]
        refine hs.ldB 2 rfl (gCells_at hi hj) ?_
        have er : waitR rows a b = rows.set a.toNat (rows.getD a.toNat 0 ||| 2 ^ b.toNat) := by unfold waitR; simp only [hc, if_true]
        refine mIf_intro (fun hb => ?_) (fun hb => ?_)
        · refine go h 10 (by unfold waitV; simp only [hc, hb, if_true]) ?_
          rw [er, or_same hb, set_same]; exact hs
        · have fin : ∀ h, Sep h0 h ((pB pb a b st :: aBlk g (cellsN rows) :: aBlk r (gCells rows) :: R).set 2 (aBlk r ((gCells rows).set (64 * a.toNat + b.toNat) (.bool true)))) → K_signalboxlaw39_made_17 (some ⟨g, 0, none⟩) ⟨r, 0, none⟩ ⟨pb, 0, none⟩ 0 t14 (t14.n : Int) (k : Int) h Q := by
            intro h hs
            simp only [List.set_cons_succ, List.set_cons_zero] at hs
            rw [gCells_set hg hi hj] at hs
            refine go h 0 (by unfold waitV; simp only [hc, hb, if_true, Bool.false_eq_true, if_false]) ?_
            rw [er]; simpa using hs
          refine mAnd_intro ?_ ?_
          · refine hs.ldI 0 rfl rfl ?_
            refine mIdx_of (by omega) (by omega) ?_
            refine hs.ldI 0 rfl rfl ?_
            refine mIdx_of (by omega) (by omega) ?_
            rw [add_mk, add_mk, Nat.zero_add, Nat.mul_one, Nat.mul_comm _ 64]
            exact hs.st 2 rfl (by rw [gCells_at hi hj]; rfl) rfl fin
          · refine hs.ldI 0 rfl rfl ?_
            refine hs.ldI 0 rfl rfl ?_
            refine mIdx_of (by omega) (by omega) ?_
            refine mIdx_of (by omega) (by omega) ?_
            rw [add_mk, add_mk, Nat.zero_add, Nat.mul_one, Nat.mul_comm _ 64]
            exact hs.st 2 rfl (by rw [gCells_at hi hj]; rfl) rfl fin
theorem New_s (hs : Sep h0 h R) : N_waits_New h (fun v h' => ∃ g, v = .pointer (some ⟨g, 0, none⟩) ∧ Sep h0 h' (aBlk g (cellsN (List.replicate 64 0)) :: R)) := by
  apply S_waits_New
  unfold B_waits_New
  refine Sep.new hs fun g h hs => ?_
  exact ⟨g, rfl, hs⟩
theorem g0_ok : GOk (List.replicate 64 0) := ⟨by simp, fun w hw => by rw [List.eq_of_mem_replicate hw]; exact Nat.two_pow_pos 64⟩
theorem gCells_zero : ∀ n : Nat, ((List.range n).map fun i => Value.bool (((List.replicate 64 0).getD (i / 64) 0).testBit (i % 64))) = List.replicate n (.bool false)
  | 0 => rfl
  | n + 1 => by
    have e : List.replicate (n + 1) (Value.bool false) = List.replicate n (Value.bool false) ++ [Value.bool false] := List.replicate_succ'
    rw [List.range_succ, List.map_append, gCells_zero n, e]
    congr 1
    rw [List.map_singleton, List.getD_eq_getElem?_getD, List.getElem?_replicate]
    split <;> simp
theorem made_s {ps : List WPair} (hl : RdE h0.size h0 WPair.enc 3 t14 ps) (hps : ps.length ≤ 60) (hs : Sep h0 h R) : N_signalboxlaw39_made t14 h (fun v h' => ∃ g r rows, v = .tuple #[.pointer (some ⟨g, 0, none⟩), .pointer (some ⟨r, 0, none⟩), .bool true] ∧ GOk rows ∧ Sep h0 h' (aBlk g (cellsN rows) :: aBlk r (gCells rows) :: R)) := by
  apply S_signalboxlaw39_made
  unfold B_signalboxlaw39_made
  rw [mBind_ap]
  refine (New_s hs).mono ?_
  rintro v h ⟨g, rfl, hs⟩
  simp only [unP_pointer]
  refine Sep.new hs fun r h hs => ?_
  refine made3 hl hps (fun rows h hg hs => ⟨g, r, rows, rfl, hg, hs⟩) ps.length 0 _ h (Nat.zero_add _) g0_ok ?_
  have e : gCells (List.replicate 64 0) = List.replicate 4096 (.bool false) := gCells_zero 4096
  rw [e]
  exact hs.swap
end
end Go.Proofs.YtimpaammdmeocaaDoor
