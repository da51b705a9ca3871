/- Locks for many readers: the reference's own steps. Conditions: none. -/
import Derived.Test.YtbpnpmknamghkaaRwP
import Derived.Test.YtbpnpmknamghkaaSbW
namespace Go.Proofs.Ytbpnpmknamghkaa
open Go Go.Sb
set_option linter.unusedSimpArgs false
set_option linter.unusedVariables false
section
variable {h0 h : Hp} {L R : List As} {b : Nat} {x y : Sl} {hold wait : List P} {who : Int}
theorem place2 {ls : Sl} {l : List P} (hl : RdE h0.size h0 P.enc 2 ls l) (hn : l.length ≤ 1000) : ∀ (d k : Nat) (h : Hp), k + d = l.length → Sep h0 h [] →
    K_signalboxlaw38_place_2 who ls (ls.n : Int) (k : Int) h (fun v h' => v = .int .i64 (fnd who (l.drop k) k) ∧ Sep h0 h' [])
  | 0, k, h, hk, hs => by
    have hln := hl.n
    apply S_signalboxlaw38_place_2
    unfold B_signalboxlaw38_place_2
    refine mIf_neg (by simp; omega) ?_
    rw [List.drop_of_length_le (by omega)]
    exact ⟨rfl, hs⟩
  | d + 1, k, h, hk, hs => by
    have ih := fun h => place2 hl hn d (k + 1) h (by omega)
    have hln := hl.n
    have hkl : k < l.length := by omega
    apply S_signalboxlaw38_place_2
    unfold B_signalboxlaw38_place_2
    refine mIf_pos (by simp; omega) ?_
    (refine Sep.argEn hs hl (by first | omega | (simp only [List.length_set, List.length_map, List.length_replicate, List.length_append, List.length_cons, List.length_nil, List.length_reverse, List.length_range]; omega) | (simp; omega)) fun aa haa => ?_; refine Arg.ldI0 haa rfl ?_; refine Arg.ldB haa rfl ?_; (refine Sep.new hs fun nb h hs => ?_; try simp only [List.toList_toArray] at hs); (refine Sep.st hs 0 rfl rfl rfl fun h hs => ?_; simp only [List.set_cons_zero, List.set_cons_succ] at hs); (refine Sep.st hs 0 rfl rfl rfl fun h hs => ?_; simp only [List.set_cons_zero, List.set_cons_succ] at hs); refine Sep.ldI hs 0 rfl rfl ?_)
    rw [List.drop_eq_getElem_cons hkl]
    unfold fnd
    refine mIf_intro (fun hc => ?_) (fun hc => ?_)
    · rw [if_pos (by simpa using hc)]
      exact ⟨rfl, hs.drop⟩
    · rw [if_neg (by simpa using hc)]
      rw [wrap64 _ (by omega)]
      exact ih h hs.drop
theorem place_s {ls : Sl} {l : List P} (hl : RdE h.size h P.enc 2 ls l) (hn : l.length ≤ 1000) : N_signalboxlaw38_place ls who h (fun v h' => v = .int .i64 (fnd who l 0) ∧ Sep h h' []) := by
  apply S_signalboxlaw38_place
  unfold B_signalboxlaw38_place
  exact place2 hl hn l.length 0 h (by omega) (Sep.init h)
theorem same4 {ls ns : Sl} {l : List P} {zs : List Int} (hl : RdE h.size h P.enc 2 ls l) (hz : RdE h.size h encZ 1 ns zs) (he : l.map (·.who) = zs) (hn : l.length ≤ 1000) : ∀ (d k : Nat), k + d = l.length →
    K_signalboxlaw38_same_4 ls ns (ls.n : Int) (k : Int) h (fun v h' => v = .bool true ∧ h' = h)
  | 0, k, hk => by
    have hln := hl.n
    apply S_signalboxlaw38_same_4
    unfold B_signalboxlaw38_same_4
    refine mIf_neg (by simp; omega) ?_
    exact ⟨rfl, rfl⟩
  | d + 1, k, hk => by
    have ih := same4 hl hz he hn d (k + 1) (by omega)
    have hln := hl.n
    have hzn := hz.n
    have hs := Sep.init h
    have hkl : k < l.length := by omega
    have hkz : k < zs.length := by rw [← he]; simpa using hkl
    have hzk : zs[k] = l[k].who := by simp [← he]
    apply S_signalboxlaw38_same_4
    unfold B_signalboxlaw38_same_4
    refine mIf_pos (by simp; omega) ?_
    (refine Sep.argEn hs hl (by first | omega | (simp only [List.length_set, List.length_map, List.length_replicate, List.length_append, List.length_cons, List.length_nil, List.length_reverse, List.length_range]; omega) | (simp; omega)) fun aa haa => ?_; refine Arg.ldI0 haa rfl ?_; refine Sep.argEn hs hz (by first | omega | (simp only [List.length_set, List.length_map, List.length_replicate, List.length_append, List.length_cons, List.length_nil, List.length_reverse, List.length_range]; omega) | (simp; omega)) fun aa_1 haa_1 => ?_; refine Arg.ldI0 haa_1 rfl ?_)
    refine mIf_neg (by rw [hzk]; simp) ?_
    rw [wrap64 _ (by omega), show (k : Int) + 1 = ((k + 1 : Nat) : Int) by omega]
    exact ih
theorem same_s {ls ns : Sl} {l : List P} {zs : List Int} (hl : RdE h.size h P.enc 2 ls l) (hz : RdE h.size h encZ 1 ns zs) (he : l.map (·.who) = zs) (hn : l.length ≤ 1000) : N_signalboxlaw38_same ls ns h (fun v h' => v = .bool true ∧ h' = h) := by
  have hln := hl.n
  have hzn := hz.n
  have : zs.length = l.length := by rw [← he]; simp
  apply S_signalboxlaw38_same
  unfold B_signalboxlaw38_same
  refine mIf_neg (by rw [hln, hzn, this]; simp) ?_
  exact same4 hl hz he hn l.length 0 (by omega)
theorem flat_one (l : List P) : ∀ v ∈ l.flatMap P.enc, v.oneCell' = true := by
  intro v hv
  obtain ⟨x, _, hx⟩ := List.mem_flatMap.1 hv
  exact P.one x v hx
theorem refdel {Q : Value → Hp → Prop} (hs : Sep h0 h L) (k : Nat) {s : Sl} {l : List P} (hk : L[k]? = some (aRow P.enc 2 s l)) {i : Nat} (hi : i < l.length) (hn : l.length ≤ 1000) {K : Sl → M Value}
    (hK : ∀ s' h', Sep h0 h' (aRow P.enc 2 s' (l.eraseIdx i) :: L) → K s' h' Q) :
    (mSlc s 2 0 (i : Int) (s.c : Int) fun x74 => mSlc s 2 ((i : Int) + 1) (s.n : Int) (s.c : Int) fun x79 => mNew #[] 84 fun x71 => mApp 84 2 16 #[.int .i64 (0 : Int), .bool false] ⟨(some x71), 0, 0⟩ x74 fun x75 => mApp 84 2 16 #[.int .i64 (0 : Int), .bool false] x75 x79 K) h Q := by
  have hcap := hs.rowCap k hk
  have hln := hs.rowLen k hk
  refine vslc (sz := 2) (by omega) (by omega) (by omega) (by omega) fun x74 hv1 hn1 hc1 => ?_
  refine vslc (sz := 2) (by omega) (by omega) (by omega) (by omega) fun x79 hv2 hn2 hc2 => ?_
  refine hs.new fun nb h hs => ?_
  have hs := Blk.row (enc := P.enc) (sz := 2) (xs := []) (n := 0) hs 0 rfl rfl rfl
  simp only [List.set_cons_zero] at hs
  rw [show ((0 : Int)).toNat = 0 from rfl] at hv1 hn1
  have hc1 := hs.vcells (enc := P.enc) (sz := 2) (s := s) (xs := l) (k + 1) (x := x74) (m := x74.n) (by simpa using hk) (fun _ => rfl) hv1 (Nat.le_refl _) (by omega)
  rw [List.drop_zero, show x74.n = i by omega] at hc1
  refine hs.app_ 0 (l.take i) rfl (fun _ => rfl) (by rw [show x74.n = i by omega]; exact hc1) (by rw [List.length_take]; omega) (flat_one _) rfl (by omega) (by simp; omega) fun s1 h hn3 hs => ?_
  simp only [List.set_cons_zero, List.nil_append] at hs
  have hc2 := hs.vcells (enc := P.enc) (sz := 2) (s := s) (xs := l) (k + 1) (x := x79) (m := x79.n) (by simpa using hk) (fun _ => rfl) hv2 (Nat.le_refl _) (by omega)
  rw [show ((i : Int) + 1).toNat = i + 1 by omega, List.take_of_length_le (by rw [List.length_drop]; omega)] at hc2
  refine hs.app_ 0 (l.drop (i + 1)) rfl (fun _ => rfl) hc2 (by rw [List.length_drop]; omega) (flat_one _) rfl (by omega) (by simp; omega) fun s2 h hn4 hs => ?_
  simp only [List.set_cons_zero] at hs
  rw [← List.eraseIdx_eq_take_drop_succ] at hs
  exact hK s2 h hs
theorem grant_spec : ∀ (w hold : List P) (out : List Int), ∃ g W, grantR hold w out = (hold ++ g, W, out ++ g.map (·.who)) ∧ w = g ++ W ∧ (W = [] ∨ ∃ p W', W = p :: W' ∧ may (hold ++ g) p = false)
  | [], hold, out => ⟨[], [], by simp [grantR], rfl, .inl rfl⟩
  | p :: w, hold, out => by
    unfold grantR
    by_cases hm : may hold p = true
    · rw [if_pos hm]
      obtain ⟨g, W, h1, h2, h3⟩ := grant_spec w (hold ++ [p]) (out ++ [p.who])
      refine ⟨p :: g, W, by rw [h1]; simp, by rw [h2]; rfl, ?_⟩
      rw [List.append_assoc] at h3
      exact h3
    · rw [if_neg hm]
      exact ⟨[], p :: w, by simp, rfl, .inr ⟨p, w, rfl, by simpa using hm⟩⟩
/-- one writer holds alone -/
def WOk (l : List P) : Prop := l.length ≤ 1 ∨ ∀ p ∈ l, p.w = false
theorem WOk.grant : ∀ (w hold : List P) (out : List Int), WOk hold → WOk (grantR hold w out).1
  | [], hold, out, hw => hw
  | p :: w, hold, out, hw => by
    unfold grantR
    split
    · rename_i hm
      refine WOk.grant w _ _ ?_
      cases hold with
      | nil => exact .inl (by simp)
      | cons q l =>
        have hm' : (!p.w && !q.w) = true := hm
        simp only [Bool.and_eq_true, Bool.not_eq_true'] at hm'
        right
        intro r hr
        rcases List.mem_append.1 hr with hr | hr
        · rcases hw with hw | hw
          · have : l = [] := by simpa using hw
            subst this
            simp at hr
            rw [hr]; exact hm'.2
          · exact hw r hr
        · simp at hr; rw [hr]; exact hm'.1
    · exact hw
theorem WOk.rm {who : Int} {l : List P} (hw : WOk l) : WOk (rm who l) := by
  unfold Ytbpnpmknamghkaa.rm
  split
  · exact hw
  · rcases hw with hw | hw
    · left; rw [List.length_eraseIdx]; split <;> omega
    · exact .inr fun p hp => hw p (List.mem_of_mem_eraseIdx hp)
end
end Go.Proofs.Ytbpnpmknamghkaa
