/- Counts: what each call of the layer answers, over memory. Conditions: none. -/
import Derived.Test.YtkmenmagclojmaaCountM
namespace Go.Proofs.Ytkmenmagclojmaa
open Go Go.Sb

def encC (x : Int × Int) : List Value := [.int .i64 x.1, .int .i64 x.2]
theorem encC_len (x : Int × Int) : (encC x).length = 2 := rfl
/-- the counts that stand behind block b, their row in block q -/
def CRep (h : Hp) (b q : Nat) (l : List (Int × Int)) : Prop := ∃ s : Sl, Blk h b [.slice s.p s.n s.c] ∧ OwnS h s 2 (l.flatMap encC) ∧ s.n = l.length ∧ b ≠ q ∧ (l ≠ [] → s.p = some ⟨q, 0, none⟩)
def CWf (l : List (Int × Int)) : Prop := ∀ x ∈ l, 0 ≤ x.1 ∧ x.1 ≤ x.2 ∧ x.2 ≤ 8

theorem Len_ok {h : Hp} {b q : Nat} {l : List (Int × Int)} (hc : CRep h b q l) : N_count_Counts_Len (some ⟨b, 0, none⟩) h (fun v h' => v = .int .i64 l.length ∧ h' = h) := by
  obtain ⟨s, hb, ho, hn, hbq, hq⟩ := hc
  apply S_count_Counts_Len
  unfold B_count_Counts_Len
  simp only [Option.isNone_some, mIf_false, mNil_some]
  refine mLdL_of (by rw [hb.cell]; rfl) ?_
  simp [hn]
theorem Len_nil (h : Hp) : N_count_Counts_Len none h (fun v h' => v = .int .i64 0 ∧ h' = h) := by
  apply S_count_Counts_Len
  unfold B_count_Counts_Len
  simp

/-- what a change of a count answers, and leaves -/
def addA (l : List (Int × Int)) (i by_ ref : Int) : Int × Int := if i < 0 ∨ i ≥ l.length then (0, 6) else
  let x := l.getD i.toNat (0, 0)
  if x.1 + by_ < 0 ∨ x.1 + by_ > x.2 then (x.1, ref) else (x.1 + by_, 0)
def addL (l : List (Int × Int)) (i by_ : Int) : List (Int × Int) := if i < 0 ∨ i ≥ l.length then l else
  let x := l.getD i.toNat (0, 0)
  if x.1 + by_ < 0 ∨ x.1 + by_ > x.2 then l else l.set i.toNat (x.1 + by_, x.2)

theorem add_ok {h : Hp} {b q : Nat} {l : List (Int × Int)} (hc : CRep h b q l) (hw : CWf l) (i by_ ref : Int) (hby : -1 ≤ by_ ∧ by_ ≤ 1) :
    N_count_Counts_add (some ⟨b, 0, none⟩) i by_ ref h (fun v h' => v = .tuple #[.int .i64 (addA l i by_ ref).1, .int .i64 (addA l i by_ ref).2] ∧ CRep h' b q (addL l i by_) ∧ Keeps (· = q) h h') := by
  have hc0 := hc
  obtain ⟨s, hb, ho, hn, hbq, hq⟩ := hc
  apply S_count_Counts_add
  unfold B_count_Counts_add
  rw [mBind_ap]
  by_cases h0 : i < 0
  · simp [h0, addA, addL, hc0, Keeps.refl]
  · simp only [h0, decide_false, mIf_false, mBind_ap]
    refine (Len_ok hc0).mono ?_
    rintro v h' ⟨rfl, rfl⟩
    simp only [unI_int, mRet_ap]
    by_cases h1 : i ≥ l.length
    · simp [h0, h1, addA, addL, hc0, Keeps.refl]
    · simp only [h1, decide_false, mIf_false, mNil_some]
      obtain ⟨k, rfl⟩ := Int.eq_ofNat_of_zero_le (by omega : 0 ≤ i)
      have hk : k < l.length := by omega
      have hne : l ≠ [] := by intro e; subst e; simp at hk
      have hp := hq hne
      rcases ho with ⟨rfl, _⟩ | ⟨q', rest, hp', hl, hsn, hr, hblk⟩
      · simp at hp
      have : q' = q := by rw [hp] at hp'; simpa using hp'.symm
      subst this
      have hget : l[k]? = some l[k] := List.getElem?_eq_getElem hk
      have hgetD : l.getD k (0, 0) = l[k] := by simp [hk]
      obtain ⟨hx0, hx1, hx2⟩ := hw l[k] (List.getElem_mem hk)
      have hfl := flat_length encC_len l
      have c0 : hcell h' ⟨q', 0 + (Int.toNat (k : Int)) * 2, none⟩ = some (.int .i64 l[k].1) := by
        rw [hblk.cell, Int.toNat_natCast, Nat.zero_add, List.getElem?_append_left (by omega)]
        exact flat_get encC_len l k 0 l[k] hget (by omega)
      have c1 : hcell h' ⟨q', 0 + (Int.toNat (k : Int)) * 2 + 1, none⟩ = some (.int .i64 l[k].2) := by
        rw [hblk.cell, Int.toNat_natCast, Nat.zero_add, List.getElem?_append_left (by omega)]
        exact flat_get encC_len l k 1 l[k] hget (by omega)
      refine mLdL_of (by rw [hb.cell]; rfl) ?_
      rw [hp]
      refine mIdx_of (by omega) (by omega) ?_
      simp only [add_mk]
      refine mLdI_of c0 ?_
      rw [wrap64 _ (by omega)]
      have hA : addA l k by_ ref = if l[k].1 + by_ < 0 ∨ l[k].1 + by_ > l[k].2 then (l[k].1, ref) else (l[k].1 + by_, 0) := by
        unfold addA; rw [if_neg (by omega), Int.toNat_natCast, hgetD]
      have hL : addL l k by_ = if l[k].1 + by_ < 0 ∨ l[k].1 + by_ > l[k].2 then l else l.set k (l[k].1 + by_, l[k].2) := by
        unfold addL; rw [if_neg (by omega), Int.toNat_natCast, hgetD]
      by_cases h2 : l[k].1 + by_ < 0
      · simp only [h2, decide_true, mIf_true, mBind_ap, mRet_ap]
        refine mLdI_of c0 ?_
        rw [hA, hL]
        simp [h2, hc0, Keeps.refl]
      · simp only [h2, decide_false, mIf_false, mBind_ap]
        refine mLdI_of c1 ?_
        simp only [mRet_ap]
        by_cases h3 : l[k].1 + by_ > l[k].2
        · simp only [h3, decide_true, mIf_true]
          refine mLdI_of c0 ?_
          rw [hA, hL]
          simp [h3, hc0, Keeps.refl]
        · simp only [h3, decide_false, mIf_false]
          refine mLdI_of c0 ?_
          refine mSt_of rfl c0 (hblk.free _) ?_
          have hset := hblk.set (0 + (Int.toNat (k : Int)) * 2) (.int .i64 (l[k].1 + by_))
          have e : (l.flatMap encC ++ rest).set (0 + (Int.toNat (k : Int)) * 2) (.int .i64 (l[k].1 + by_)) = (l.set k (l[k].1 + by_, l[k].2)).flatMap encC ++ rest := by
            rw [Int.toNat_natCast, Nat.zero_add, List.set_append_left _ _ (by omega)]
            congr 1
            exact flat_set encC_len l k 0 l[k] _ _ hget (by omega) rfl
          rw [e] at hset
          rw [wrap64 _ (by omega)]
          refine mLdI_of (n := l[k].1 + by_) ?_ ?_
          · rw [hset.cell, List.getElem?_append_left (by rw [flat_length encC_len]; simp; omega), Int.toNat_natCast, Nat.zero_add]
            rw [show k * 2 = k * 2 + 0 by rfl, flat_get encC_len _ k 0 (l[k].1 + by_, l[k].2) (by simp [hk]) (by omega)]
            rfl
          · rw [hA, hL]
            simp only [h2, h3, or_self, if_false, mRet_ap, true_and]
            refine ⟨⟨s, hb.other _ hbq, .inr ⟨q', rest, hp, ?_, hsn, hr, hset⟩, by simp [hn], hbq, fun _ => hp⟩, .set _ _ _ rfl⟩
            rw [flat_length encC_len]; simp [hn]

/-- a pair of numbers, as a call hands it back -/
def pairV (x : Int × Int) : Value := .tuple #[.int .i64 x.1, .int .i64 x.2]

theorem Give_ok {h : Hp} {b q : Nat} {l : List (Int × Int)} (hc : CRep h b q l) (hw : CWf l) (i : Int) :
    N_count_Counts_Give (some ⟨b, 0, none⟩) i h (fun v h' => v = pairV (addA l i 1 7) ∧ CRep h' b q (addL l i 1) ∧ Keeps (· = q) h h') := by
  apply S_count_Counts_Give
  unfold B_count_Counts_Give
  rw [mBind_ap]
  refine (add_ok hc hw i 1 7 (by omega)).mono ?_
  rintro v h' ⟨rfl, h1, h2⟩
  simp [pairV, h1, h2]
theorem Take_ok {h : Hp} {b q : Nat} {l : List (Int × Int)} (hc : CRep h b q l) (hw : CWf l) (i : Int) :
    N_count_Counts_Take (some ⟨b, 0, none⟩) i h (fun v h' => v = pairV (addA l i (-1) 8) ∧ CRep h' b q (addL l i (-1)) ∧ Keeps (· = q) h h') := by
  apply S_count_Counts_Take
  unfold B_count_Counts_Take
  rw [mBind_ap]
  refine (add_ok hc hw i (-1) 8 (by omega)).mono ?_
  rintro v h' ⟨rfl, h1, h2⟩
  simp [pairV, h1, h2]
theorem addL_zero (l : List (Int × Int)) (i : Int) : addL l i 0 = l := by
  unfold addL
  split
  · rfl
  · rename_i h
    have hk : i.toNat < l.length := by omega
    simp only [Int.add_zero]
    split
    · rfl
    · have : l.getD i.toNat (0, 0) = l[i.toNat] := by simp [hk]
      rw [this]
      exact List.set_getElem_self hk
theorem Value_ok {h : Hp} {b q : Nat} {l : List (Int × Int)} (hc : CRep h b q l) (hw : CWf l) (i : Int) :
    N_count_Counts_Value (some ⟨b, 0, none⟩) i h (fun v h' => v = pairV (addA l i 0 0) ∧ CRep h' b q l ∧ Keeps (· = q) h h') := by
  apply S_count_Counts_Value
  unfold B_count_Counts_Value
  rw [mBind_ap]
  refine (add_ok hc hw i 0 0 (by omega)).mono ?_
  rintro v h' ⟨rfl, h1, h2⟩
  rw [addL_zero] at h1
  simp [pairV, h1, h2]
theorem Give_nil (h : Hp) (i : Int) : N_count_Counts_Give none i h (fun v h' => v = pairV (0, 6) ∧ h' = h) := by
  apply S_count_Counts_Give
  unfold B_count_Counts_Give
  rw [mBind_ap]
  refine Nf.mono (Q := fun v h' => v = pairV (0, 6) ∧ h' = h) ?_ ?_
  · refine S_count_Counts_add _ _ _ _ ?_
    unfold B_count_Counts_add
    rw [mBind_ap]
    by_cases h0 : i < 0
    · simp [h0, pairV]
    · simp only [h0, decide_false, mIf_false, mBind_ap]
      refine (Len_nil h).mono ?_
      rintro v h' ⟨rfl, rfl⟩
      have : i ≥ 0 := by omega
      simp [pairV, this]
  · rintro v h' ⟨rfl, rfl⟩
    simp [pairV]

/-! ### new counts -/
def mostOf (z : Int) : Int := if z < 1 ∨ z > 8 then 1 else z
def mk0 (zs : List Int) : List (Int × Int) := zs.map fun z => (0, mostOf z)
theorem mk0_wf (zs : List Int) : CWf (mk0 zs) := by
  intro x hx
  simp only [mk0, List.mem_map] at hx
  obtain ⟨z, _, rfl⟩ := hx
  unfold mostOf
  split <;> simp <;> omega
/-- the counts made so far, in block b; all else of B's is as it was -/
def NRep (B : Nat) (h : Hp) (b : Nat) (l : List (Int × Int)) : Prop := ∃ s : Sl, Blk h b [.slice s.p s.n s.c] ∧ OwnS h s 2 (l.flatMap encC) ∧ s.n = l.length ∧ B ≤ b ∧ ∀ q, s.at q → q ≠ b ∧ B ≤ q
theorem NRep.crep {B : Nat} {h : Hp} {b : Nat} {l : List (Int × Int)} (hr : NRep B h b l) : ∃ q, B ≤ q ∧ CRep h b q l := by
  obtain ⟨s, hb, ho, hn, hB, hq⟩ := hr
  rcases ho with ⟨hs, hl⟩ | ⟨q, rest, hp, hl, hsn, hrl, hblk⟩
  · have : l = [] := by
      cases l with
      | nil => rfl
      | cons a l => simp [encC] at hl
    subst this
    exact ⟨b + 1, by omega, s, hb, .inl ⟨hs, rfl⟩, hn, by omega, by simp⟩
  · obtain ⟨h1, h2⟩ := hq q ⟨0, hp⟩
    exact ⟨q, h2, s, hb, .inr ⟨q, rest, hp, hl, hsn, hrl, hblk⟩, hn, fun e => h1 e.symm, fun _ => hp⟩

theorem New_loop {B : Nat} {ms : Sl} {zs : List Int} (hlen : zs.length ≤ 1000000) (b : Nat) : ∀ (d i : Nat) (h : Hp), zs.length - i = d → i ≤ zs.length → B ≤ h.size → RdI B h .i64 ms zs → NRep B h b (mk0 (zs.take i)) →
    K_count_New_3 ⟨b, 0, none⟩ ms (ms.n : Int) (i : Int) h (fun v h' => v = .pointer (some ⟨b, 0, none⟩) ∧ NRep B h' b (mk0 zs) ∧ Under B h h') := by
  intro d
  induction d with
  | zero =>
    intro i h hd hi hB hrd hr
    have : i = zs.length := by omega
    subst this
    apply S_count_New_3
    unfold B_count_New_3
    rw [hrd.n]
    simp only [Int.lt_irrefl, decide_false, mIf_false, mRet_ap, true_and]
    rw [List.take_length] at hr
    exact ⟨hr, .refl _ _⟩
  | succ d ih =>
    intro i h hd hi hB hrd hr
    have hlt : i < zs.length := by omega
    apply S_count_New_3
    unfold B_count_New_3
    have hc : (i : Int) < (ms.n : Int) := by rw [hrd.n]; omega
    simp only [hc, decide_true, mIf_true]
    refine hrd.idx (by omega) (by omega) fun a ha => ?_
    refine mLdI_of ha ?_
    rw [Int.toNat_natCast]
    have step : K_count_New_7 ⟨b, 0, none⟩ (mostOf (zs.getD i 0)) ms (ms.n : Int) (i : Int) h (fun v h' => v = .pointer (some ⟨b, 0, none⟩) ∧ NRep B h' b (mk0 zs) ∧ Under B h h') := by
      apply S_count_New_7
      unfold B_count_New_7
      obtain ⟨s, hb, ho, hn, hbB, hq⟩ := hr
      refine mLdL_of (by rw [hb.cell]; rfl) ?_
      simp only [mNew_ap]
      have hx : Blk (h.push (.cells #[.int .i64 0, .int .i64 (mostOf (zs.getD i 0))] 103)) h.size (encC (0, mostOf (zs.getD i 0))) := Blk.new' h _ 103
      have hbl := hb.lt
      have ho2 : OwnS (h.push (.cells #[.int .i64 0, .int .i64 (mostOf (zs.getD i 0))] 103)) ⟨s.p, s.n, s.c⟩ 2 ((mk0 (zs.take i)).flatMap encC) := by
        rcases ho with ⟨hs, hl⟩ | ⟨q, rest, hp, hl, hsn, hrl, hblk⟩
        · exact .inl ⟨by rw [hs], hl⟩
        · exact .inr ⟨q, rest, hp, hl, hsn, hrl, hblk.push _⟩
      have hsn : s.n = i := by rw [hn]; simp [mk0]; omega
      refine mApp_own ho2 (xs := encC (0, mostOf (zs.getD i 0))) ?_ (by simp [encC, Value.oneCell']) rfl rfl (by omega) ?_ ?_
      · unfold slcells
        simp only []
        rw [hcells_blk hx _ 0 0 (by simp [encC])]
        simp [encC]
      · simp only; rw [hsn]; omega
      · intro s' h' hown hs'n hkeep hblk'
        have hb' : Blk h' b [.slice s.p s.n s.c] := by
          refine hkeep.blk (hb.push _) ?_
          rintro ⟨o, hp⟩
          exact (hq b ⟨o, hp⟩).1 rfl
        refine mSt_of rfl (by rw [hb'.cell]; rfl) (hb'.free _) ?_
        have hu1 : Under B h h' := (Under.push h _ hB).trans (Under.of_keeps hkeep (by simp; omega) fun q hq' => (hq q hq').2)
        have hu : Under B h (hset h' ⟨b, 0, none⟩ (.slice s'.p s'.n s'.c)) := hu1.trans (Under.set _ _ _ hbB)
        have hst := hb'.set 0 (.slice s'.p s'.n s'.c)
        rw [wrap64 _ (by omega), show (i : Int) + 1 = ((i + 1 : Nat) : Int) by omega]
        have hgd : zs.getD i 0 = zs[i] := by simp [hlt]
        have hmk : mk0 (zs.take (i + 1)) = mk0 (zs.take i) ++ [(0, mostOf (zs.getD i 0))] := by
          rw [hgd]; unfold mk0; rw [List.take_succ_eq_append_getElem hlt, List.map_append]; rfl
        have hlist : (mk0 (zs.take i)).flatMap encC ++ encC (0, mostOf (zs.getD i 0)) = (mk0 (zs.take (i + 1))).flatMap encC := by
          rw [hmk, List.flatMap_append]; simp
        rw [hlist] at hown
        have hq' : ∀ q, s'.at q → q ≠ b ∧ B ≤ q := by
          intro q hat
          rcases hblk' q hat with h1 | h1
          · exact hq q h1
          · simp at h1; omega
        have hown' : OwnS (hset h' ⟨b, 0, none⟩ (.slice s'.p s'.n s'.c)) s' 2 ((mk0 (zs.take (i + 1))).flatMap encC) := by
          rcases hown with ⟨hs, hl⟩ | ⟨q, rest, hp, hl, hsn, hrl, hblk⟩
          · exact .inl ⟨hs, hl⟩
          · exact .inr ⟨q, rest, hp, hl, hsn, hrl, hblk.other _ (hq' q ⟨0, hp⟩).1⟩
        have hsz : B ≤ (hset h' ⟨b, 0, none⟩ (.slice s'.p s'.n s'.c)).size := Nat.le_trans hB hu.size
        refine Cut.mono (ih (i + 1) _ (by omega) (by omega) hsz (hrd.under hu) ⟨s', hst, hown', ?_, hbB, hq'⟩) ?_
        · rw [hs'n]; simp only; rw [hsn]; simp [mk0]; omega
        · rintro v h'' ⟨rfl, h1, h2⟩
          exact ⟨rfl, h1, hu.trans h2⟩
    unfold mostOf at step
    by_cases hm : zs.getD i 0 < 1 ∨ zs.getD i 0 > 8
    · rw [if_pos hm] at step
      have : (decide (zs.getD i 0 < 1) || decide (zs.getD i 0 > 8)) = true := by simpa using hm
      simp only [this, mIf_true]; exact step
    · rw [if_neg hm] at step
      have : (decide (zs.getD i 0 < 1) || decide (zs.getD i 0 > 8)) = false := by simpa using hm
      simp only [this, mIf_false]; exact step

theorem New_ok {h : Hp} {ms : Sl} {zs : List Int} (hlen : zs.length ≤ 1000000) (hrd : RdI h.size h .i64 ms zs) :
    N_count_New ms h (fun v h' => ∃ b q, v = .pointer (some ⟨b, 0, none⟩) ∧ CRep h' b q (mk0 zs) ∧ h.size ≤ b ∧ h.size ≤ q ∧ Under h.size h h') := by
  apply S_count_New
  unfold B_count_New
  simp only [mNew_ap]
  have hu : Under h.size h (h.push (.cells #[.slice none 0 0] 101)) := .push _ _ (Nat.le_refl _)
  refine Cut.mono (New_loop hlen h.size zs.length 0 _ rfl (by omega) hu.size (hrd.under hu) ⟨⟨none, 0, 0⟩, Blk.new' h _ 101, .inl ⟨rfl, by simp [mk0]⟩, by simp [mk0], Nat.le_refl _, ?_⟩) ?_
  · rintro q ⟨o, ho⟩; cases ho
  · rintro v h' ⟨rfl, h1, h2⟩
    obtain ⟨q, hq, hc⟩ := h1.crep
    exact ⟨_, q, rfl, hc, Nat.le_refl _, hq, hu.trans h2⟩
end Go.Proofs.Ytkmenmagclojmaa
