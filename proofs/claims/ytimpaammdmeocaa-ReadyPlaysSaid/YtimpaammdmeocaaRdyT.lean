/- The law ReadyPlays: its loop. Conditions: none. -/
import Derived.Test.YtimpaammdmeocaaRdyO
import Derived.Test.YtimpaammdmeocaaRdyA
import Derived.Test.YtimpaammdmeocaaSbW
namespace Go.Proofs.Ytimpaammdmeocaa
open Go Go.Sb
set_option linter.unusedSimpArgs false
set_option linter.unusedVariables false
abbrev RFin (h0 : Hp) : Value → Hp → Prop := fun v h' => v = .bool true ∧ Under h0.size h0 h'
/-- the queues are those of the configuration's tasks -/
structure LInv (C : PCfg) (ys : List PQ) : Prop where
  len : ys.length = C.tasks.length
  pr : ∀ (i : Nat) (y : PQ), ys[i]? = some y → prA C i = y.pr
  q4 : ∀ y ∈ ys, y.q.length ≤ 4
theorem LInv.set {C : PCfg} {ys : List PQ} (hI : LInv C ys) {i : Nat} {y : PQ} (hi : ys[i]? = some y) (z : PQ) (hp : z.pr = y.pr) (hq : z.q.length ≤ 4) : LInv C (ys.set i z) := by
  refine ⟨by rw [List.length_set]; exact hI.len, fun j w hj => ?_, fun w hw => ?_⟩
  · rw [List.getElem?_set] at hj
    split at hj
    · rename_i e; subst e
      have hil := (List.getElem?_eq_some_iff.1 hi).1
      first | rw [if_pos hil] at hj | skip
      cases hj
      rw [hp]; exact hI.pr i y hi
    · exact hI.pr j w hj
  · rcases List.mem_or_eq_of_mem_set hw with h | rfl
    · exact hI.q4 w h
    · exact hq
theorem sumQ_set : ∀ (ys : List PQ) (i : Nat) (y z : PQ), ys[i]? = some y → sumQ (ys.set i z) + y.q.length = sumQ ys + z.q.length
  | [], i, y, z, h => by simp at h
  | x :: ys, 0, y, z, h => by
    simp only [List.getElem?_cons_zero, Option.some.injEq] at h
    subst h
    simp only [sumQ, List.set_cons_zero, List.map_cons, List.sum_cons]
    omega
  | x :: ys, i + 1, y, z, h => by
    rw [List.getElem?_cons_succ] at h
    have := sumQ_set ys i y z h
    simp only [sumQ, List.set_cons_succ, List.map_cons, List.sum_cons] at this ⊢
    omega
theorem sumQ_le : ∀ (ys : List PQ), (∀ y ∈ ys, y.q.length ≤ 4) → sumQ ys ≤ 4 * ys.length
  | [], _ => by simp [sumQ]
  | y :: ys, h => by
    have h1 := h y (by simp)
    have h2 := sumQ_le ys fun z hz => h z (by simp [hz])
    simp only [sumQ, List.map_cons, List.sum_cons, List.length_cons] at h2 ⊢
    omega
/-- does anything wait there -/
def hasB (ys : List PQ) (i : Nat) : Bool := match ys[i]? with
  | some y => !y.q.isEmpty
  | none => false
/-- the first of a row that has something -/
def fstL (ys : List PQ) (l : List Nat) : Int := match l.find? (hasB ys) with
  | some i => (i : Int)
  | none => -1
theorem fstL_cons (ys : List PQ) (i : Nat) (l : List Nat) : fstL ys (i :: l) = if hasB ys i then (i : Int) else fstL ys l := by
  unfold fstL
  rw [List.find?_cons]
  by_cases h : hasB ys i = true
  · rw [h]; rfl
  · have h : hasB ys i = false := by simpa using h
    rw [h]; rfl
theorem hasB_some {ys : List PQ} {i : Nat} {y : PQ} (h : ys[i]? = some y) : hasB ys i = decide (y.q ≠ []) := by
  unfold hasB
  rw [h]
  cases hq : y.q <;> simp [hq]
theorem first_none {ys : List PQ} {l : List Nat} (h : ∀ y ∈ ys, y.q = []) : fstL ys l = -1 := by
  unfold fstL
  have : l.find? (hasB ys) = none := by
    refine List.find?_eq_none.2 fun i _ hi => ?_
    unfold hasB at hi
    split at hi
    · rename_i y hy
      rw [h y (List.mem_of_getElem? hy)] at hi
      simp at hi
    · cases hi
  rw [this]
theorem IsTop.uniq {C : PCfg} (hk : PrOk C) {ys : List PQ} (hI : LInv C ys) {i j : Nat} {y z : PQ} (hi : IsTop ys i y) (hj : ys[j]? = some z) (hz : z.q ≠ []) (hp : y.pr ≤ z.pr) : i = j := by
  have h1 := hi.top j z hj hz
  have e1 := hI.pr i y hi.at_
  have e2 := hI.pr j z hj
  have hl := hI.len
  have il := (List.getElem?_eq_some_iff.1 hi.at_).1
  have jl := (List.getElem?_eq_some_iff.1 hj).1
  have t1 : C.tasks[i]? = some C.tasks[i] := List.getElem?_eq_getElem (by omega)
  have t2 : C.tasks[j]? = some C.tasks[j] := List.getElem?_eq_getElem (by omega)
  refine hk.inj i j _ _ t1 t2 ?_
  unfold prA at e1 e2
  rw [t1] at e1
  rw [t2] at e2
  simp only [Option.map_some, Option.getD_some] at e1 e2
  omega
theorem first_top {C : PCfg} (hk : PrOk C) {ys : List PQ} (hI : LInv C ys) {l : List Nat} (ho : OrdOk C C.tasks.length l) {i : Nat} {y : PQ} (hi : IsTop ys i y) : fstL ys l = (i : Int) := by
  have il := (List.getElem?_eq_some_iff.1 hi.at_).1
  have hl := hI.len
  have hm := (ho.mem i).2 (by omega)
  have hne : hasB ys i = true := by rw [hasB_some hi.at_]; simpa using hi.ne
  unfold fstL
  cases hf : l.find? (hasB ys) with
  | none => exact absurd hne (List.find?_eq_none.1 hf i hm)
  | some j =>
    obtain ⟨hj, pre, bs, e, hb⟩ := List.find?_eq_some_iff_append.1 hf
    have hj' : ∃ z, ys[j]? = some z ∧ z.q ≠ [] := by
      unfold hasB at hj
      split at hj
      · rename_i z hz
        exact ⟨z, hz, by simpa using hj⟩
      · cases hj
    obtain ⟨z, hz, hzq⟩ := hj'
    have : i = j := by
      rw [e] at hm
      rcases List.mem_append.1 hm with hm | hm
      · have := hb i hm
        rw [hne] at this
        simp at this
      · rcases List.mem_cons.1 hm with h | h
        · exact h
        · have hs := ho.sorted
          rw [e] at hs
          have h3 := List.rel_of_pairwise_cons (List.pairwise_append.1 hs).2.1 h
          refine hi.uniq hk hI hz hzq ?_
          rw [← hI.pr i y hi.at_, ← hI.pr j z hz]
          exact h3
    simp only [this]
section
variable {h0 h : Hp} {R : List As} {b c : Nat} {C : PCfg} {sm sc se st sl : Sl} {ts : List (PTask × Sl)} {rows nx ord ls : Sl} {l : List Nat} {acts : List RAct} {ys : List PQ} {k : Nat}
theorem appV {m : M Bool} {P : Bool → Hp → Prop} (z : Bool) (hk : P z h) (hm : ∀ Q' : Bool → Hp → Prop, Q' z h → m h Q') : m h P := hm _ hk
theorem appS {m : M Bool} {P : Bool → Hp → Prop} (hk : P false h) (hm : ∀ Q' : Bool → Hp → Prop, Q' false h → m h Q') : m h P := hm _ hk
/-- a row of the rows -/
theorem gridLd {α : Type} {Q : α → Hp → Prop} {xss : List (List PJob)} {s : Sl} {L : List As} (hs : Sep h0 h (aGrid encJ 3 s xss :: L)) {i : Nat} (hi : i < xss.length) {K : Sl → M α} (hK : ∀ (x : Sl) (L' : List As), x.n = (xss[i]).length → Sep h0 h (aRow encJ 3 x xss[i] :: L') → K x h Q) : mIdx s (i : Int) 1 (fun a => mLdL a K) h Q := by
  obtain ⟨ss, hl, hs⟩ := hs.gOpen i hi
  refine Sep.idx hs 1 rfl (by omega) (by omega) fun a ha => ?_
  rw [Int.toNat_natCast] at ha
  refine hs.rldL0 1 rfl (fun _ => rfl) ha (List.getElem?_eq_getElem (by omega)) rfl ?_
  exact hK _ _ (hs.rowLen 0 rfl) hs
/-- what the loop owns -/
abbrev St (C : PCfg) (sm sc se st sl rows nx ord : Sl) (b c : Nat) (l : List Nat) (ys : List PQ) (R : List As) : List As :=
  aGrid encJ 3 rows (ys.map PQ.q) :: aRow encI 1 nx (ys.map PQ.nx) :: aReady b ys :: aRow encI 1 ord (l.map Int.ofNat) :: aBlk c (cfgC C sm sc se st sl) :: R
theorem k56 (hI : LInv C ys) (hn : ys.length ≤ 64) {i : Nat} {y : PQ} (hi : ys[i]? = some y) {w : Sl} (next : ∀ (R : List As) (h : Hp), Sep h0 h (St C sm sc se st sl rows nx ord b c l ys R) → K_signalboxlaw16_ReadyPlays_50 (some ⟨b, 0, none⟩) rows (ys.length : Int) ((i + 1 : Nat) : Int) h (RFin h0)) : ∀ (d j : Nat) (h : Hp), j + d = y.q.length → Sep h0 h (aGrid encJ 3 rows (ys.map PQ.q) :: aRow encI 1 nx (ys.map PQ.nx) :: aReady b ys :: aRow encI 1 ord (l.map Int.ofNat) :: aBlk c (cfgC C sm sc se st sl) :: aRow encJ 3 w y.q :: R) →
    K_signalboxlaw16_ReadyPlays_56 (some ⟨b, 0, none⟩) rows (i : Int) w (ys.length : Int) (i : Int) (y.q.length : Int) (j : Int) h (RFin h0)
  | 0, j, h, hj, hs => by
    have hil := (List.getElem?_eq_some_iff.1 hi).1
    apply S_signalboxlaw16_ReadyPlays_56
    unfold B_signalboxlaw16_ReadyPlays_56
    refine mIf_neg (by simp; omega) ?_
    rw [wrapS _ (by omega)]
    exact next _ h hs
  | d + 1, j, h, hj, hs => by
    obtain ⟨hil, hie⟩ := List.getElem?_eq_some_iff.1 hi
    have hq4 := hI.q4 y (List.mem_of_getElem? hi)
    have ih := k56 hI hn hi (w := w) next d (j + 1) h (by omega) hs
    have hjl : j < y.q.length := by omega
    apply S_signalboxlaw16_ReadyPlays_56
    unfold B_signalboxlaw16_ReadyPlays_56
    refine mIf_pos (by simp; omega) ?_
    refine Sep.idx hs 5 rfl (by omega) (by omega) fun a ha => ?_
    rw [Int.toNat_natCast] at ha
    refine hs.rldI0 5 rfl (fun _ => rfl) ha (List.getElem?_eq_getElem hjl) rfl ?_
    refine hs.rldI 5 rfl (fun _ => rfl) ha (List.getElem?_eq_getElem hjl) rfl ?_
    refine hs.rldI 5 rfl (fun _ => rfl) ha (List.getElem?_eq_getElem hjl) rfl ?_
    refine gridLd hs (i := i) (by rw [List.length_map]; exact hil) fun x L' hxn hs2 => ?_
    rw [List.getElem_map, hie] at hs2
    refine Sep.idx hs2 0 rfl (by omega) (by omega) fun a2 ha2 => ?_
    rw [Int.toNat_natCast] at ha2
    refine hs2.rldI0 0 rfl (fun _ => rfl) ha2 (List.getElem?_eq_getElem hjl) rfl ?_
    refine hs2.rldI 0 rfl (fun _ => rfl) ha2 (List.getElem?_eq_getElem hjl) rfl ?_
    refine hs2.rldI 0 rfl (fun _ => rfl) ha2 (List.getElem?_eq_getElem hjl) rfl ?_
    refine mIf_neg (by simp) ?_
    rw [wrapS _ (by omega)]
    exact ih
theorem k50 (hI : LInv C ys) (hn : ys.length ≤ 64) : ∀ (d i : Nat) (R : List As) (h : Hp), i + d = ys.length → Sep h0 h (St C sm sc se st sl rows nx ord b c l ys R) →
    K_signalboxlaw16_ReadyPlays_50 (some ⟨b, 0, none⟩) rows (ys.length : Int) (i : Int) h (RFin h0)
  | 0, i, R, h, hi, hs => by
    apply S_signalboxlaw16_ReadyPlays_50
    unfold B_signalboxlaw16_ReadyPlays_50
    refine mIf_neg (by simp; omega) ?_
    rw [mBind_ap]
    have hs2 : Sep h0 h (aReady b ys :: _) := hs.reT 5 [2, 0, 1, 3, 4] rfl (by simp)
    refine (Waiting_no hs2 (i := -1) (by omega)).mono ?_
    rintro v h' ⟨rfl, rfl⟩
    simp only [unL_slice]
    exact ⟨rfl, hs.under⟩
  | d + 1, i, R, h, hi, hs => by
    have ih := fun R h hs => k50 hI hn d (i + 1) R h (by omega) hs
    have hil : i < ys.length := by omega
    have hiy := List.getElem?_eq_getElem hil
    apply S_signalboxlaw16_ReadyPlays_50
    unfold B_signalboxlaw16_ReadyPlays_50
    refine mIf_pos (by simp; omega) ?_
    rw [mBind_ap]
    have hs2 : Sep h0 h (aReady b ys :: aGrid encJ 3 rows (ys.map PQ.q) :: aRow encI 1 nx (ys.map PQ.nx) :: aRow encI 1 ord (l.map Int.ofNat) :: aBlk c (cfgC C sm sc se st sl) :: R) := hs.reT 5 [2, 0, 1, 3, 4] rfl (by simp)
    refine (Waiting_s hs2 hiy).mono ?_
    rintro v h ⟨o, rfl, hs⟩
    simp only [unL_slice]
    have hs : Sep h0 h (aGrid encJ 3 rows (ys.map PQ.q) :: aRow encI 1 nx (ys.map PQ.nx) :: aReady b ys :: aRow encI 1 ord (l.map Int.ofNat) :: aBlk c (cfgC C sm sc se st sl) :: aRow encJ 3 o (ys[i]).q :: R) := hs.reT 6 [2, 3, 1, 4, 5, 0] rfl (by simp)
    have hon := hs.rowLen 5 rfl
    refine gridLd hs (i := i) (by rw [List.length_map]; exact hil) fun x L' hxn hs2 => ?_
    rw [List.getElem_map] at hxn
    refine mIf_neg (by simp; omega) ?_
    have h56 := k56 (w := o) hI hn hiy ih _ 0 h (Nat.zero_add _) hs
    rw [← hon] at h56
    exact h56
end
end Go.Proofs.Ytimpaammdmeocaa
