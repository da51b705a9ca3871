/- Configurations: whether a program nests, by the program and by the plain text. Conditions: none. -/
import Derived.Test.YtimpaammdmeocaaCfgQ
import Derived.Test.YtimpaammdmeocaaSbW
namespace Go.Proofs.Ytimpaammdmeocaa
open Go Go.Sb
set_option linter.unusedSimpArgs false
set_option linter.unusedVariables false
set_option linter.unusedVariables false
section
variable {h0 h : Hp} {R : List As}
theorem row1 {α : Type} {Q : α → Hp → Prop} {L : List As} {k : Nat} {s : Sl} {xs : List Int} {K : Int → M α} (hs : Sep h0 h L) (hk : L[k]? = some (aRow encI 1 s xs)) {i : Nat} (hi : i < xs.length) (hK : K (xs[i]'hi) h Q) : mIdx s (i : Int) 1 (fun x => mLdI .i64 x K) h Q := by
  refine hs.idx k hk (by omega) (by omega) fun x hx => ?_
  rw [Int.toNat_natCast] at hx
  exact hs.ild k hk hx hi hK
/-! ### the plain text -/
theorem ne13 {lk : List Int} {de op : Int} {L : Sl} {x k : Nat} {o : POp} {t : Sl} {e : Bool} (hl : lk.length ≤ 300) {Q : Value → Hp → Prop}
    (no : ∀ h, Sep h0 h R → lk.contains o.a = true → Q (.bool false) h)
    (yes : ∀ h L', Sep h0 h (aRow encI 1 L' (lk ++ [o.a]) :: R) → lk.contains o.a = false → (mIf ((decide (op < (0 : Int))) || (decide (de < (0 : Int)))) (mRet (.bool false) : M Value) (K_signalboxref06_Nest_4 e op de L' t (t.n : Int) (IntKind.i64.wrap ((k : Int) + (1 : Int))))) h Q) :
    ∀ (d j : Nat) (h : Hp), j + d = lk.length → (lk.take j).contains o.a = false → Sep h0 h (aBlk x (encO o) :: aRow encI 1 L lk :: R) →
      K_signalboxref06_Nest_13 e op de L ⟨x, 0, none⟩ t (t.n : Int) (k : Int) L (L.n : Int) (j : Int) h Q
  | 0, j, h, hj, hc, hs => by
    have hn := hs.rowLen 1 rfl
    rw [List.take_of_length_le (by omega)] at hc
    apply S_signalboxref06_Nest_13
    unfold B_signalboxref06_Nest_13
    refine mIf_neg (by simp; omega) ?_
    rw [add_mk]
    refine hs.ldI 0 rfl rfl ?_
    refine Sep.new hs fun b h hs => ?_
    refine hs.app1 2 0 o.a rfl rfl (fun _ => rfl) (by intro v hv; simp at hv; subst hv; rfl) rfl (by omega) (by omega) fun s' h hn' hs => ?_
    simp only [List.set_cons_succ, List.set_cons_zero] at hs
    exact yes h s' (hs.drop.drop) hc
  | d + 1, j, h, hj, hc, hs => by
    have ih := ne13 (L := L) (x := x) hl no yes d (j + 1)
    have hn := hs.rowLen 1 rfl
    have hjl : j < lk.length := by omega
    apply S_signalboxref06_Nest_13
    unfold B_signalboxref06_Nest_13
    refine mIf_pos (by simp; omega) ?_
    refine row1 (k := 1) hs rfl hjl ?_
    rw [add_mk]
    refine hs.ldI 0 rfl rfl ?_
    refine mIf_intro (fun h1 => ?_) (fun h1 => ?_)
    · refine no h hs.drop.drop ?_
      have h1 := eqT h1
      rw [← h1]
      simp
    · rw [wrapS j (by omega)]
      refine ih h (by omega) ?_ hs
      have h1 := eqF h1
      rw [Bool.eq_false_iff] at hc ⊢
      intro hm
      rw [List.contains_iff_mem, List.take_succ_eq_append_getElem hjl, List.mem_append] at hm
      rcases hm with hm | hm
      · exact hc (List.contains_iff_mem.2 hm)
      · simp at hm
        exact h1 hm.symm
theorem nest4 {t : Sl} {ops : List POp} (hr : RdE h0.size h0 encO 3 t ops) (e : Bool) (hol : ops.length ≤ 100) : ∀ (d k : Nat) (st : NSt) (L : Sl) (h : Hp), k + d = ops.length → st.2.2.length ≤ k → Sep h0 h (aRow encI 1 L st.2.2 :: R) →
    K_signalboxref06_Nest_4 e st.1 st.2.1 L t (t.n : Int) (k : Int) h (fun v h' => v = .bool (match nestF st (ops.drop k) with
      | some s => !e || (s.1 == 0 && s.2.2.length == 0)
      | none => false) ∧ Sep h0 h' R)
  | 0, k, st, L, h, hk, hl, hs => by
    have hn := hr.n
    have hln := hs.rowLen 0 rfl
    apply S_signalboxref06_Nest_4
    unfold B_signalboxref06_Nest_4
    refine mIf_neg (by simp; omega) ?_
    rw [List.drop_of_length_le (by omega)]
    rw [mBind_ap]
    unfold nestF
    refine mIf_intro (fun hc => ?_) (fun hc => ?_)
    · rw [mRet_ap, hc]
      exact ⟨rfl, hs.drop⟩
    · rw [mRet_ap, hln, hc]
      refine ⟨?_, hs.drop⟩
      simp only [Bool.false_or]
      congr 2
      rw [Bool.eq_iff_iff]
      simp
  | d + 1, k, st, L, h, hk, hl, hs => by
    have ih := nest4 hr e hol d (k + 1)
    have hn := hr.n
    have hln := hs.rowLen 0 rfl
    have hkl : k < ops.length := by omega
    rw [List.drop_eq_getElem_cons hkl]
    apply S_signalboxref06_Nest_4
    unfold B_signalboxref06_Nest_4
    refine mIf_pos (by simp; omega) ?_
    refine hr.ix hs hkl fun a ha => ?_
    generalize ops[k] = o at ha ⊢
    have hw := wrapS k (by omega)
    (refine Arg.ldI0 ha rfl ?_; refine Arg.ldI ha rfl ?_; refine Arg.ldI ha rfl ?_; (refine Sep.new hs fun nb h hs => ?_; try simp only [List.toList_toArray] at hs); (refine Sep.st hs 0 rfl rfl rfl fun h hs => ?_; simp only [List.set_cons_zero, List.set_cons_succ] at hs); (refine Sep.st hs 0 rfl rfl rfl fun h hs => ?_; simp only [List.set_cons_zero, List.set_cons_succ] at hs); (refine Sep.st hs 0 rfl rfl rfl fun h hs => ?_; simp only [List.set_cons_zero, List.set_cons_succ] at hs); refine Sep.ldI hs 0 rfl rfl ?_; simp only [add_mk, Nat.zero_add])
    have hs : Sep h0 h (aBlk _ (encO o) :: aRow encI 1 L st.2.2 :: R) := hs
    have fin : ∀ h (op de : Int) (lk : List Int) (L' : Sl), nmid st o = some (op, de, lk) → lk.length ≤ k + 1 → Sep h0 h (aRow encI 1 L' lk :: R) →
        (mIf ((decide (op < (0 : Int))) || (decide (de < (0 : Int)))) (mRet (.bool false) : M Value) (K_signalboxref06_Nest_4 e op de L' t (t.n : Int) (IntKind.i64.wrap ((k : Int) + (1 : Int))))) h (fun v h' => v = .bool (match nestF st (o :: ops.drop (k + 1)) with
      | some s => !e || (s.1 == 0 && s.2.2.length == 0)
      | none => false) ∧ Sep h0 h' R) := by
      intro h op de lk L' hm hlk hs
      unfold nestF nstep
      rw [hm]
      unfold nok
      refine mIf_intro (fun hc => ?_) (fun hc => ?_)
      · simp only [hc, if_true]
        exact ⟨rfl, hs.drop⟩
      · simp only [hc, Bool.false_eq_true, if_false]
        rw [hw]
        exact ih (op, de, lk) L' h (by omega) hlk hs
    have none_ : ∀ h, nmid st o = none → Sep h0 h R → (mRet (.bool false) : M Value) h (fun v h' => v = .bool (match nestF st (o :: ops.drop (k + 1)) with
      | some s => !e || (s.1 == 0 && s.2.2.length == 0)
      | none => false) ∧ Sep h0 h' R) := by
      intro h hm hs
      unfold nestF nstep
      rw [hm]
      exact ⟨rfl, hs⟩
    have hdr := hs.drop
    refine mIf_intro (fun h3 => ?_) (fun h3 => ?_)
    · have h3 := eqT h3
      exact fin h _ _ _ L (by unfold nmid; rw [if_pos h3]) (by omega) hdr
    have h3 := eqF h3
    refine mIf_intro (fun h4 => ?_) (fun h4 => ?_)
    · have h4 := eqT h4
      exact fin h _ _ _ L (by unfold nmid; rw [if_neg h3, if_pos h4]) (by omega) hdr
    have h4 := eqF h4
    refine mIf_intro (fun h5 => ?_) (fun h5 => ?_)
    · have h5 := eqT h5
      refine ne13 (by omega) (fun h hs hc => ?_) (fun h L' hs hc => ?_) st.2.2.length 0 h (Nat.zero_add _) rfl hs
      · exact none_ h (by unfold nmid; rw [if_neg h3, if_neg h4, if_pos h5, if_pos hc]) hs
      · refine fin h _ _ _ L' (by unfold nmid; rw [if_neg h3, if_neg h4, if_pos h5, hc]; rfl) (by simp; omega) hs
    have h5 := eqF h5
    refine mIf_intro (fun h6 => ?_) (fun h6 => ?_)
    · have h6 := eqT h6
      have hnm : nmid st o = if st.2.2.getLast? = some o.a then some (st.1, st.2.1, st.2.2.dropLast) else none := by unfold nmid; rw [if_neg h3, if_neg h4, if_neg h5, if_pos h6]
      rw [mBind_ap, hln]
      by_cases hz : st.2.2 = []
      · refine mIf_pos (by rw [hz]; rfl) ?_
        rw [mRet_ap]
        refine mIf_pos rfl (none_ h (by rw [hnm, hz]; rfl) hdr.drop)
      · have hpos : 0 < st.2.2.length := List.length_pos_iff.2 hz
        refine mIf_neg (by simp; omega) ?_
        rw [wrap64 _ (by omega), show ((st.2.2.length : Int) - 1) = ((st.2.2.length - 1 : Nat) : Int) by omega]
        refine row1 (k := 1) hs rfl (i := st.2.2.length - 1) (by omega) ?_
        refine hs.ldI 0 rfl rfl ?_
        rw [mRet_ap]
        have hgl : st.2.2.getLast? = some (st.2.2[st.2.2.length - 1]'(by omega)) := by rw [List.getLast?_eq_getElem?, List.getElem?_eq_getElem (by omega)]
        refine mIf_intro (fun hc => ?_) (fun hc => ?_)
        · refine none_ h ?_ hdr.drop
          rw [hnm, hgl, if_neg]
          simpa using hc
        · refine hdr.slc 0 rfl (fun _ => rfl) (by omega) (by omega) (by omega) rfl fun s' hn' hs => ?_
          refine fin h _ _ _ s' (by rw [hnm, hgl, if_pos (by simpa using hc)]) (by simp; omega) ?_
          simp only [List.set_cons_zero, Int.toNat_natCast] at hs
          rw [List.dropLast_eq_take]
          simpa using hs
    have h6 := eqF h6
    refine mIf_intro (fun h7 => ?_) (fun h7 => ?_)
    · have h7 := eqT h7
      (refine Sep.ldI hs 0 rfl rfl ?_)
      exact fin h _ _ _ L (by unfold nmid; rw [if_neg h3, if_neg h4, if_neg h5, if_neg h6, if_pos h7]) (by omega) hdr
    have h7 := eqF h7
    refine mIf_intro (fun h8 => ?_) (fun h8 => ?_)
    · have h8 := eqT h8
      (refine Sep.ldI hs 0 rfl rfl ?_)
      exact fin h _ _ _ L (by unfold nmid; rw [if_neg h3, if_neg h4, if_neg h5, if_neg h6, if_neg h7, if_pos h8]) (by omega) hdr
    have h8 := eqF h8
    exact fin h _ _ _ L (by unfold nmid; rw [if_neg h3, if_neg h4, if_neg h5, if_neg h6, if_neg h7, if_neg h8]) (by omega) hdr
theorem rNest_s {t : Sl} {ops : List POp} (hr : RdE h0.size h0 encO 3 t ops) (e : Bool) (hol : ops.length ≤ 100) (hs : Sep h0 h R) : N_signalboxref06_Nest t e h (fun v h' => v = .bool (match nestF (0, 0, []) ops with
      | some s => !e || (s.1 == 0 && s.2.2.length == 0)
      | none => false) ∧ Sep h0 h' R) := by
  apply S_signalboxref06_Nest
  unfold B_signalboxref06_Nest
  exact nest4 hr e hol ops.length 0 (0, 0, []) ⟨none, 0, 0⟩ h (Nat.zero_add _) (Nat.le_refl _) (hs.nilRow encI 1)
theorem nestF_take {st : NSt} : ∀ (l : List POp) (k : Nat) (hk : k < l.length), nestF st (l.take (k + 1)) = match nestF st (l.take k) with
    | some s => nstep s l[k]
    | none => none := by
  intro l
  induction l generalizing st with
  | nil => intro k hk; simp at hk
  | cons o l ih =>
    intro k hk
    cases k with
    | zero =>
      simp only [List.take_succ_cons, List.take_zero, nestF, List.getElem_cons_zero]
      cases nstep st o <;> rfl
    | succ k =>
      rw [List.take_succ_cons, List.take_succ_cons]
      simp only [nestF, List.getElem_cons_succ]
      cases nstep st o with
      | none => rfl
      | some s => exact ih k (by simpa using hk)
theorem nstep_ge {s s' : NSt} {o : POp} (h : nstep s o = some s') : 0 ≤ s'.1 := by
  unfold nstep at h
  cases hm : nmid s o with
  | none => rw [hm] at h; cases h
  | some q =>
    rw [hm] at h
    unfold nok at h
    simp only at h
    split at h
    · cases h
    · rename_i hc
      cases h
      simp at hc
      omega
theorem nestF_ge : ∀ (l : List POp) (s s' : NSt), 0 ≤ s.1 → nestF s l = some s' → 0 ≤ s'.1
  | [], s, s', h0, h => by cases h; exact h0
  | o :: l, s, s', h0, h => by
    unfold nestF at h
    cases hm : nstep s o with
    | none => rw [hm] at h; cases h
    | some q => rw [hm] at h; exact nestF_ge l q s' (nstep_ge hm) h
theorem rCheck6 {t : Sl} {ops : List POp} (hr : RdE h0.size h0 encO 3 t ops) (hcap : t.n ≤ t.c) (bx gr ct ce : Int) (hol : ops.length ≤ 64) : ∀ (d k : Nat) (st : NSt) (h : Hp), k + d = ops.length → nestF (0, 0, []) (ops.take k) = some st → Sep h0 h R →
    K_signalboxref06_Check_6 t bx gr ct ce t (t.n : Int) (k : Int) h (fun v h' => v = .int .i64 (progF bx gr ct ce st (ops.drop k)) ∧ Sep h0 h' R)
  | 0, k, st, h, hk, hst, hs => by
    have hn := hr.n
    rw [List.take_of_length_le (by omega)] at hst
    apply S_signalboxref06_Check_6
    unfold B_signalboxref06_Check_6
    refine mIf_neg (by simp; omega) ?_
    rw [List.drop_of_length_le (by omega), mBind_ap]
    refine (rNest_s hr true (by omega) hs).mono ?_
    rintro v h ⟨rfl, hs⟩
    rw [hst]
    have hge := nestF_ge ops _ st (Int.le_refl _) hst
    simp only [unB_bool, Bool.not_true, Bool.false_or]
    unfold progF
    refine mIf_intro (fun hc => ?_) (fun hc => ?_)
    · rw [if_pos]
      · exact ⟨rfl, hs⟩
      · simp at hc ⊢
        by_cases hz : st.1 = 0
        · exact .inr (List.length_pos_iff.2 (hc.resolve_left fun e => e hz))
        · exact .inl (by omega)
    · rw [if_neg]
      · exact ⟨rfl, hs⟩
      · simp at hc ⊢
        rw [hc.1, hc.2]
        simp
  | d + 1, k, st, h, hk, hst, hs => by
    have hn := hr.n
    have hkl : k < ops.length := by omega
    have hnx := nestF_take (st := (0, 0, [])) ops k hkl
    rw [hst] at hnx
    simp only at hnx
    rw [List.drop_eq_getElem_cons hkl]
    have hw := wrapS k (by omega)
    apply S_signalboxref06_Check_6
    unfold B_signalboxref06_Check_6
    refine mIf_pos (by simp; omega) ?_
    refine hr.ix hs hkl fun a ha => ?_
    generalize hoe : ops[k] = o at ha hnx ⊢
    (refine Arg.ldI0 ha rfl ?_; refine Arg.ldI ha rfl ?_; refine Arg.ldI ha rfl ?_; (refine Sep.new hs fun nb h hs => ?_; try simp only [List.toList_toArray] at hs); (refine Sep.st hs 0 rfl rfl rfl fun h hs => ?_; simp only [List.set_cons_zero, List.set_cons_succ] at hs); (refine Sep.st hs 0 rfl rfl rfl fun h hs => ?_; simp only [List.set_cons_zero, List.set_cons_succ] at hs); (refine Sep.st hs 0 rfl rfl rfl fun h hs => ?_; simp only [List.set_cons_zero, List.set_cons_succ] at hs); refine Sep.ldI hs 0 rfl rfl ?_; refine Sep.ldI hs 0 rfl rfl ?_; refine Sep.ldI hs 0 rfl rfl ?_; simp only [mBind_ap])
    refine (rOp_s o bx gr ct ce hs).mono ?_
    rintro v h ⟨rfl, hs⟩
    simp only [unI_int]
    unfold progF
    refine mIf_intro (fun hc => ?_) (fun hc => ?_)
    · rw [if_pos (by simpa using hc)]
      exact ⟨rfl, hs.drop⟩
    · rw [if_neg (by simpa using hc), hw]
      refine hr.pre hcap (by omega) (by omega) rfl fun x hx hxc => ?_
      rw [Int.toNat_natCast] at hx
      rw [mBind_ap]
      refine (rNest_s hx false (by simp; omega) hs.drop).mono ?_
      rintro v h ⟨rfl, hs⟩
      simp only [unB_bool]
      rw [hnx]
      cases hq : nstep st o with
      | none => exact ⟨rfl, hs⟩
      | some q =>
        refine mIf_neg rfl ?_
        refine rCheck6 hr hcap bx gr ct ce hol d (k + 1) q h (by omega) ?_ hs
        rw [hnx, hq]
theorem rCheck_s {t : Sl} {ops : List POp} (hr : RdE h0.size h0 encO 3 t ops) (hcap : t.n ≤ t.c) (bx gr ct ce : Int) (hs : Sep h0 h R) : N_signalboxref06_Check t bx gr ct ce h (fun v h' => v = .int .i64 (progE ops bx gr ct ce) ∧ Sep h0 h' R) := by
  have hn := hr.n
  apply S_signalboxref06_Check
  unfold B_signalboxref06_Check progE
  rw [hn]
  refine mIf_intro (fun hc => ?_) (fun hc => ?_)
  · rw [if_pos (by simpa using hc)]; exact ⟨rfl, hs⟩
  · rw [if_neg (by simpa using hc)]
    refine mIf_intro (fun hc => ?_) (fun hc => ?_)
    · rw [if_pos (by simp at hc; omega)]; exact ⟨rfl, hs⟩
    · rw [if_neg (by simp at hc; omega)]
      rw [← hn]
      exact rCheck6 hr hcap bx gr ct ce (by simp at hc; omega) ops.length 0 (0, 0, []) h (Nat.zero_add _) rfl hs
end
end Go.Proofs.Ytimpaammdmeocaa
