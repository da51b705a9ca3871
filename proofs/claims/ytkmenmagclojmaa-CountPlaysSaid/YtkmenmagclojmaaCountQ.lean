/- Counts: the law CountPlays, over memory. Conditions: none. -/
import Derived.Test.YtkmenmagclojmaaCountL
namespace Go.Proofs.Ytkmenmagclojmaa
open Go Go.Sb

structure PInv (B : Nat) (h : Hp) (b q r : Nat) (l : List (Int × Int)) : Prop where
  rep : CRep h b q l
  now : Blk h r (l.map fun x => .int .i64 x.1)
  rb : r ≠ b
  rq : r ≠ q
  Bq : B ≤ q
  Br : B ≤ r
  size : B ≤ h.size
  wf : CWf l

theorem addL_snd (l : List (Int × Int)) (i by_ : Int) : (addL l i by_).map (·.2) = l.map (·.2) := by
  unfold addL
  split
  · rfl
  · rename_i h
    have hk : i.toNat < l.length := by omega
    simp only []
    split
    · rfl
    · rw [List.map_set]
      have : l.getD i.toNat (0, 0) = l[i.toNat] := by simp [hk]
      rw [this]
      apply List.ext_getElem?
      intro k
      rw [List.getElem?_set]
      by_cases e : i.toNat = k
      · subst e; simp [hk]
      · simp [e]
theorem addL_wf {l : List (Int × Int)} (h : CWf l) (i by_ : Int) : CWf (addL l i by_) := by
  unfold addL
  split
  · exact h
  · rename_i hi
    have hk : i.toNat < l.length := by omega
    simp only []
    split
    · exact h
    · rename_i hc
      intro x hx
      rcases List.mem_or_eq_of_mem_set hx with hx | rfl
      · exact h x hx
      · have : l.getD i.toNat (0, 0) = l[i.toNat] := by simp [hk]
        rw [this] at hc ⊢
        have := h l[i.toNat] (List.getElem_mem hk)
        simp only
        omega
theorem addL_length (l : List (Int × Int)) (i by_ : Int) : (addL l i by_).length = l.length := by
  unfold addL; simp only []; split
  · rfl
  · split <;> simp

section play
variable {B : Nat} {ms ts ls : Sl} {zs : List Int} {bs : List Bool} {is : List Int} {b q r n : Nat}

/-- the whole's answer -/
abbrev Fin (B : Nat) (h : Hp) : Value → Hp → Prop := fun v h' => v = .bool true ∧ Under B h h'

def KLoop (B : Nat) (ms ts ls : Sl) (zs : List Int) (bs : List Bool) (is : List Int) (b q r n : Nat) (i : Nat) : Prop :=
  ∀ (h : Hp) (l : List (Int × Int)), RdI B h .i64 ms zs → RdB B h ts bs → RdI B h .i64 ls is → PInv B h b q r l → l.map (·.2) = zs.map mostOf →
    K_signalboxlaw12_CountPlays_8 ms ts (some ⟨b, 0, none⟩) ⟨some ⟨r, 0, none⟩, n, n⟩ ls (ls.n : Int) (i : Int) h (Fin B h)

theorem now_idx {α : Type} {h : Hp} {l : List (Int × Int)} (hn : Blk h r (l.map fun x => .int .i64 x.1)) (hl : n = l.length) {j : Int} {K : Addr → M α} {Q : α → Hp → Prop} (h0 : 0 ≤ j) (h1 : j < l.length)
    (hk : hcell h ⟨r, j.toNat, none⟩ = some (.int .i64 (l.getD j.toNat (0, 0)).1) → K ⟨r, j.toNat, none⟩ h Q) : mIdx ⟨some ⟨r, 0, none⟩, n, n⟩ j 1 K h Q := by
  refine mIdx_of h0 (by omega) ?_
  have hlt : j.toNat < l.length := by omega
  rw [add_mk, Nat.mul_one, Nat.zero_add]
  refine hk ?_
  rw [hn.cell]
  simp [hlt]

theorem play30 {i : Nat} (hi : i < is.length) (hls : is.length ≤ 200) (hloop : KLoop B ms ts ls zs bs is b q r n (i + 1)) {h : Hp} {l : List (Int × Int)} (hms : RdI B h .i64 ms zs) (hts : RdB B h ts bs) (hl : RdI B h .i64 ls is)
    (hp : PInv B h b q r l) (hsnd : l.map (·.2) = zs.map mostOf) (hn : n = l.length) {j : Int} (h0 : 0 ≤ j) (h1 : j < l.length) {m e w : Int} (hm : m = (l.getD j.toNat (0, 0)).1) (he : e = w) :
    K_signalboxlaw12_CountPlays_30 ms ts (some ⟨b, 0, none⟩) ⟨some ⟨r, 0, none⟩, n, n⟩ j m e (l.getD j.toNat (0, 0)).2 w ls (ls.n : Int) (i : Int) h (Fin B h) := by
  apply S_signalboxlaw12_CountPlays_30
  unfold B_signalboxlaw12_CountPlays_30
  rw [mBind_ap]
  refine (Value_ok hp.rep hp.wf j).mono ?_
  rintro v h2 ⟨rfl, hc2, hk2⟩
  have hlt : j.toNat < l.length := by omega
  have hgd : l.getD j.toNat (0, 0) = l[j.toNat] := by simp [hlt]
  have hw := hp.wf _ (List.getElem_mem hlt)
  rw [hgd] at hm ⊢
  have hA : addA l j 0 0 = (l[j.toNat].1, 0) := by
    unfold addA
    rw [if_neg (by omega), hgd]
    simp
  have hnow2 : Blk h2 r (l.map fun x => .int .i64 x.1) := hk2.blk hp.now hp.rq
  have hu : Under B h h2 := Under.of_keeps hk2 hp.size fun x hx => by subst hx; exact hp.Bq
  rw [hA]
  simp only [pairV, unT_tuple, unC_cons, unI_int, unE_nil, mBind_ap]
  have e1 : (e != w) = false := by simp [he]
  rw [e1, mIf_false]
  refine now_idx hnow2 hn h0 h1 fun hcell => ?_
  refine mLdI_of hcell ?_
  rw [hgd]
  simp only [mRet_ap]
  have e2 : (m != l[j.toNat].1) = false := by simp [hm]
  rw [e2, mIf_false]
  refine now_idx hnow2 hn h0 h1 fun hcell => ?_
  refine mLdI_of hcell ?_
  rw [hgd]
  simp only [mRet_ap]
  have e3 : ((((l[j.toNat].1 != l[j.toNat].1) || ((0 : Int) != 0)) || decide (l[j.toNat].1 < 0)) || decide (l[j.toNat].1 > l[j.toNat].2)) = false := by
    simp; omega
  rw [e3, mIf_false, wrap64 _ (by omega), show (i : Int) + 1 = ((i + 1 : Nat) : Int) by omega]
  refine Cut.mono (hloop h2 l (hms.under hu) (hts.under hu) (hl.under hu) ⟨hc2, hnow2, hp.rb, hp.rq, hp.Bq, hp.Br, Nat.le_trans hp.size hu.size, hp.wf⟩ hsnd) ?_
  rintro v h3 ⟨rfl, h4⟩
  exact ⟨rfl, hu.trans h4⟩

/-- the numbers' own row, written at one place -/
theorem now_set {h : Hp} {l l0 : List (Int × Int)} (hnow : Blk h r (l0.map fun x => .int .i64 x.1)) {j : Nat} {v m : Int} (hl : l = l0.set j (v, m)) :
    Blk (hset h ⟨r, j, none⟩ (.int .i64 v)) r (l.map fun x => .int .i64 x.1) := by
  have := hnow.set j (.int .i64 v)
  rw [hl, List.map_set]
  exact this

/-- what a taking, or a giving, comes to at a place that there is -/
theorem addA_at {l : List (Int × Int)} {j : Int} (h0 : 0 ≤ j) (h1 : j < l.length) (by_ ref : Int) : addA l j by_ ref =
    (let x := l.getD j.toNat (0, 0); if x.1 + by_ < 0 ∨ x.1 + by_ > x.2 then (x.1, ref) else (x.1 + by_, 0)) := by
  unfold addA; rw [if_neg (by omega)]
theorem addL_at {l : List (Int × Int)} {j : Int} (h0 : 0 ≤ j) (h1 : j < l.length) (by_ : Int) : addL l j by_ =
    (let x := l.getD j.toNat (0, 0); if x.1 + by_ < 0 ∨ x.1 + by_ > x.2 then l else l.set j.toNat (x.1 + by_, x.2)) := by
  unfold addL; rw [if_neg (by omega)]

theorem play22 {i : Nat} (hi : i < is.length) (hls : is.length ≤ 200) (hloop : KLoop B ms ts ls zs bs is b q r n (i + 1)) {h : Hp} {l0 : List (Int × Int)} (taken : Bool) {j : Int} (h0 : 0 ≤ j) (h1 : j < l0.length)
    (hms : RdI B h .i64 ms zs) (hts : RdB B h ts bs) (hl : RdI B h .i64 ls is) (hwf : CWf l0) (hsnd : l0.map (·.2) = zs.map mostOf) (hn : n = l0.length)
    (hrep : CRep h b q (addL l0 j (if taken then -1 else 1))) (hnow : Blk h r (l0.map fun x => .int .i64 x.1)) (rb : r ≠ b) (rq : r ≠ q) (Bq : B ≤ q) (Br : B ≤ r) (hsz : B ≤ h.size) :
    K_signalboxlaw12_CountPlays_22 ms ts (some ⟨b, 0, none⟩) ⟨some ⟨r, 0, none⟩, n, n⟩ j taken (addA l0 j (if taken then -1 else 1) (if taken then 8 else 7)).1 (addA l0 j (if taken then -1 else 1) (if taken then 8 else 7)).2 (l0.getD j.toNat (0, 0)).2 ls (ls.n : Int) (i : Int) h (Fin B h) := by
  apply S_signalboxlaw12_CountPlays_22
  unfold B_signalboxlaw12_CountPlays_22
  have hlt : j.toNat < l0.length := by omega
  have hgd : l0.getD j.toNat (0, 0) = l0[j.toNat] := by simp [hlt]
  have hw := hwf _ (List.getElem_mem hlt)
  -- nothing turns
  have same : ∀ (w : Int), addL l0 j (if taken then -1 else 1) = l0 → addA l0 j (if taken then -1 else 1) (if taken then 8 else 7) = (l0[j.toNat].1, w) →
      K_signalboxlaw12_CountPlays_30 ms ts (some ⟨b, 0, none⟩) ⟨some ⟨r, 0, none⟩, n, n⟩ j (addA l0 j (if taken then -1 else 1) (if taken then 8 else 7)).1 (addA l0 j (if taken then -1 else 1) (if taken then 8 else 7)).2 (l0.getD j.toNat (0, 0)).2 w ls (ls.n : Int) (i : Int) h (Fin B h) := by
    intro w hL hA
    rw [hL] at hrep
    rw [hA]
    exact play30 hi hls hloop hms hts hl ⟨hrep, hnow, rb, rq, Bq, Br, hsz, hwf⟩ hsnd hn h0 h1 (by rw [hgd]) rfl
  -- it turns
  have turn : ∀ (d : Int), addL l0 j (if taken then -1 else 1) = l0.set j.toNat (l0[j.toNat].1 + d, l0[j.toNat].2) → addA l0 j (if taken then -1 else 1) (if taken then 8 else 7) = (l0[j.toNat].1 + d, 0) →
      K_signalboxlaw12_CountPlays_30 ms ts (some ⟨b, 0, none⟩) ⟨some ⟨r, 0, none⟩, n, n⟩ j (addA l0 j (if taken then -1 else 1) (if taken then 8 else 7)).1 (addA l0 j (if taken then -1 else 1) (if taken then 8 else 7)).2 (l0.getD j.toNat (0, 0)).2 0 ls (ls.n : Int) (i : Int)
        (hset h ⟨r, j.toNat, none⟩ (.int .i64 (l0[j.toNat].1 + d))) (Fin B h) := by
    intro d hL hA
    have hwf' := addL_wf hwf j (if taken then -1 else 1)
    have hsnd' := addL_snd l0 j (if taken then -1 else 1)
    rw [hL] at hrep hwf' hsnd'
    rw [hA]
    have hu : Under B h (hset h ⟨r, j.toNat, none⟩ (.int .i64 (l0[j.toNat].1 + d))) := .set _ _ _ Br
    obtain ⟨s, hb, ho, hsn, hbq, hq⟩ := hrep
    have hrep' : CRep (hset h ⟨r, j.toNat, none⟩ (.int .i64 (l0[j.toNat].1 + d))) b q (l0.set j.toNat (l0[j.toNat].1 + d, l0[j.toNat].2)) := by
      refine ⟨s, hb.other _ (Ne.symm rb), ?_, hsn, hbq, hq⟩
      have hq' := hq (by intro e; have := congrArg List.length e; simp at this; subst this; simp at hlt)
      rcases ho with ⟨hs, _⟩ | ⟨q', rest, hp, hl', hsn', hr', hblk⟩
      · rw [hs] at hq'; cases hq'
      · have : q' = q := by rw [hp] at hq'; simpa using hq'
        subst this
        exact .inr ⟨q', rest, hp, hl', hsn', hr', hblk.other _ (Ne.symm rq)⟩
    have hget : (l0.set j.toNat (l0[j.toNat].1 + d, l0[j.toNat].2)).getD j.toNat (0, 0) = (l0[j.toNat].1 + d, l0[j.toNat].2) := by simp [hlt]
    have := play30 hi hls hloop (hms.under hu) (hts.under hu) (hl.under hu) ⟨hrep', now_set hnow rfl, rb, rq, Bq, Br, Nat.le_trans hsz hu.size, hwf'⟩ (hsnd'.trans hsnd) (by simp [hn]) (j := j) h0 (by simpa using h1) (m := l0[j.toNat].1 + d) (e := 0) (by rw [hget]) rfl
    rw [hget] at this
    rw [hgd]
    refine Cut.mono this ?_
    rintro v h3 ⟨rfl, h4⟩
    exact ⟨rfl, hu.trans h4⟩
  have nidx : ∀ {K : Addr → M Value} {Q : Value → Hp → Prop}, (hcell h ⟨r, j.toNat, none⟩ = some (.int .i64 l0[j.toNat].1) → K ⟨r, j.toNat, none⟩ h Q) → mIdx ⟨some ⟨r, 0, none⟩, n, n⟩ j 1 K h Q := fun hk => now_idx hnow hn h0 h1 fun hc => hk (by rw [hgd] at hc; exact hc)
  have nidxB : ∀ {K : Addr → M Bool} {Q : Bool → Hp → Prop}, (hcell h ⟨r, j.toNat, none⟩ = some (.int .i64 l0[j.toNat].1) → K ⟨r, j.toNat, none⟩ h Q) → mIdx ⟨some ⟨r, 0, none⟩, n, n⟩ j 1 K h Q := fun hk => now_idx hnow hn h0 h1 fun hc => hk (by rw [hgd] at hc; exact hc)
  rw [mBind_ap]
  cases taken
  · simp only [Bool.false_eq_true, if_false] at same turn ⊢
    simp only [mIf_false, mRet_ap]
    refine nidx fun hc => mLdI_of hc ?_
    have hA := addA_at h0 h1 1 7
    have hL := addL_at h0 h1 1
    simp only [hgd] at hA hL
    by_cases hx : l0[j.toNat].1 = (l0.getD j.toNat (0, 0)).2
    · have e : (l0[j.toNat].1 == (l0.getD j.toNat (0, 0)).2) = true := by simpa using hx
      rw [hgd] at hx
      rw [e, mIf_true]
      exact same 7 (by rw [hL, if_pos (by omega)]) (by rw [hA, if_pos (by omega)])
    · have e : (l0[j.toNat].1 == (l0.getD j.toNat (0, 0)).2) = false := by simpa using hx
      rw [hgd] at hx
      rw [e, mIf_false]
      refine nidx fun hc => mLdI_of hc ?_
      refine nidx fun hc => mSt_of rfl hc (hnow.free _) ?_
      rw [wrap64 _ (by omega)]
      exact turn 1 (by rw [hL, if_neg (by omega)]) (by rw [hA, if_neg (by omega)])
  · simp only [if_true] at same turn ⊢
    simp only [mIf_true]
    refine nidxB fun hc => mLdI_of hc ?_
    rw [mRet_ap]
    have hA := addA_at h0 h1 (-1) 8
    have hL := addL_at h0 h1 (-1)
    simp only [hgd] at hA hL
    by_cases hx : l0[j.toNat].1 = 0
    · have e : (l0[j.toNat].1 == 0) = true := by simpa using hx
      rw [e, mIf_true]
      exact same 8 (by rw [hL, if_pos (by omega)]) (by rw [hA, if_pos (by omega)])
    · have e : (l0[j.toNat].1 == 0) = false := by simpa using hx
      rw [e, mIf_false]
      refine nidx fun hc => mLdI_of hc ?_
      refine nidx fun hc => mSt_of rfl hc (hnow.free _) ?_
      rw [wrap64 _ (by omega), Int.sub_eq_add_neg]
      exact turn (-1) (by rw [hL, if_neg (by omega)]) (by rw [hA, if_neg (by omega)])

theorem play16 {i : Nat} (hi : i < is.length) (hls : is.length ≤ 200) (hloop : KLoop B ms ts ls zs bs is b q r n (i + 1)) {h : Hp} {l0 : List (Int × Int)} (taken : Bool) (j : Int)
    (hms : RdI B h .i64 ms zs) (hts : RdB B h ts bs) (hl : RdI B h .i64 ls is) (hwf : CWf l0) (hsnd : l0.map (·.2) = zs.map mostOf) (hn : n = l0.length)
    (hrep : CRep h b q (addL l0 j (if taken then -1 else 1))) (hnow : Blk h r (l0.map fun x => .int .i64 x.1)) (rb : r ≠ b) (rq : r ≠ q) (Bq : B ≤ q) (Br : B ≤ r) (hsz : B ≤ h.size) :
    K_signalboxlaw12_CountPlays_16 ms ts (some ⟨b, 0, none⟩) ⟨some ⟨r, 0, none⟩, n, n⟩ j taken (addA l0 j (if taken then -1 else 1) (if taken then 8 else 7)).1 (addA l0 j (if taken then -1 else 1) (if taken then 8 else 7)).2 ls (ls.n : Int) (i : Int) h (Fin B h) := by
  apply S_signalboxlaw12_CountPlays_16
  unfold B_signalboxlaw12_CountPlays_16
  have hlen : l0.length = zs.length := by have := congrArg List.length hsnd; simpa using this
  by_cases hout : j < 0 ∨ j ≥ l0.length
  · have e : (decide (j < 0) || decide (j ≥ (ms.n : Int))) = true := by simp [hms.n]; omega
    rw [e, mIf_true]
    have hA : ∀ by_ ref, addA l0 j by_ ref = (0, 6) := fun by_ ref => by unfold addA; rw [if_pos hout]
    have hL : ∀ by_, addL l0 j by_ = l0 := fun by_ => by unfold addL; rw [if_pos hout]
    rw [hA]
    rw [hL] at hrep
    have e2 : (((0 : Int) != 0) || ((6 : Int) != 6)) = false := by decide
    rw [e2, mIf_false, wrap64 _ (by omega), show (i : Int) + 1 = ((i + 1 : Nat) : Int) by omega]
    exact hloop h l0 hms hts hl ⟨hrep, hnow, rb, rq, Bq, Br, hsz, hwf⟩ hsnd
  · have h0 : 0 ≤ j := by omega
    have h1 : j < l0.length := by omega
    have hlt : j.toNat < l0.length := by omega
    have e : (decide (j < 0) || decide (j ≥ (ms.n : Int))) = false := by simp [hms.n]; omega
    rw [e, mIf_false]
    have hmost : (l0.getD j.toNat (0, 0)).2 = mostOf (zs.getD j.toNat 0) := by
      have h2 : (l0.map (·.2))[j.toNat]? = (zs.map mostOf)[j.toNat]? := by rw [hsnd]
      rw [List.getElem?_map, List.getElem?_map, List.getElem?_eq_getElem hlt, List.getElem?_eq_getElem (by omega)] at h2
      simpa [hlt, (by omega : j.toNat < zs.length)] using h2
    have key := play22 hi hls hloop taken h0 h1 hms hts hl hwf hsnd hn hrep hnow rb rq Bq Br hsz
    rw [hmost] at key
    refine hms.idx h0 (by omega) fun a ha => mLdI_of ha ?_
    rw [mBind_ap]
    by_cases hg : zs.getD j.toNat 0 ≥ 1
    · simp only [hg, decide_true, mIf_true]
      refine hms.idx h0 (by omega) fun a ha => mLdI_of ha ?_
      rw [mRet_ap]
      by_cases hg2 : zs.getD j.toNat 0 ≤ 8
      · simp only [hg2, decide_true, mIf_true]
        refine hms.idx h0 (by omega) fun a ha => mLdI_of ha ?_
        rw [show mostOf (zs.getD j.toNat 0) = zs.getD j.toNat 0 by unfold mostOf; rw [if_neg (by omega)]] at key
        exact key
      · simp only [hg2, decide_false, mIf_false]
        rw [show mostOf (zs.getD j.toNat 0) = 1 by unfold mostOf; rw [if_pos (by omega)]] at key
        exact key
    · simp only [hg, decide_false, mIf_false, mRet_ap]
      rw [show mostOf (zs.getD j.toNat 0) = 1 by unfold mostOf; rw [if_pos (by omega)]] at key
      exact key

theorem play8 (hls : is.length ≤ 200) : ∀ (d i : Nat), is.length - i = d → i ≤ is.length → ∀ (n : Nat), n = zs.length → KLoop B ms ts ls zs bs is b q r n i := by
  intro d
  induction d with
  | zero =>
    intro i hd hi n hn h l hms hts hl hp hsnd
    apply S_signalboxlaw12_CountPlays_8
    unfold B_signalboxlaw12_CountPlays_8
    have : ¬ (i : Int) < (ls.n : Int) := by rw [hl.n]; omega
    simp only [this, decide_false, mIf_false, mBind_ap]
    refine (Give_nil h 0).mono ?_
    rintro v h1 ⟨rfl, rfl⟩
    simp only [pairV, unT_tuple, unC_cons, unI_int, unE_nil, mBind_ap]
    refine (Len_ok hp.rep).mono ?_
    rintro v h2 ⟨rfl, rfl⟩
    have hlen : l.length = zs.length := by have := congrArg List.length hsnd; simpa using this
    simp only [unI_int, mBind_ap]
    have e : (((l.length : Nat) : Int) == (ms.n : Int)) = true := by rw [hms.n, hlen]; simp
    rw [e, mIf_true, mBind_ap]
    refine (Len_nil h2).mono ?_
    rintro v h3 ⟨rfl, rfl⟩
    simp only [unI_int, mRet_ap]
    exact ⟨rfl, .refl _ _⟩
  | succ d ih =>
    intro i hd hi n hn h l hms hts hl hp hsnd
    apply S_signalboxlaw12_CountPlays_8
    unfold B_signalboxlaw12_CountPlays_8
    have hlen : l.length = zs.length := by have := congrArg List.length hsnd; simpa using this
    have hlt : (i : Int) < (ls.n : Int) := by rw [hl.n]; omega
    simp only [hlt, decide_true, mIf_true]
    refine hl.idx (by omega) (by omega) fun a ha => mLdI_of ha ?_
    have hstep := ih (i + 1) (by omega) (by omega) n hn
    have both : ∀ taken : Bool, mIf taken (
        mBind (N_count_Counts_Take (some ⟨b, 0, none⟩) (is.getD (i : Int).toNat 0)) fun r57 =>
        unT r57 fun x57l =>
        unC x57l fun x57v0 x57l0 =>
        unI .i64 x57v0 fun (x57_0 : Int) =>
        unC x57l0 fun x57v1 x57l1 =>
        unI .i64 x57v1 fun (x57_1 : Int) =>
        unE x57l1 <|
        K_signalboxlaw12_CountPlays_16 ms ts (some ⟨b, 0, none⟩) ⟨some ⟨r, 0, none⟩, n, n⟩ (is.getD (i : Int).toNat 0) taken x57_0 x57_1 ls (ls.n : Int) (i : Int)) (
        mBind (N_count_Counts_Give (some ⟨b, 0, none⟩) (is.getD (i : Int).toNat 0)) fun r63 =>
        unT r63 fun x63l =>
        unC x63l fun x63v0 x63l0 =>
        unI .i64 x63v0 fun (x63_0 : Int) =>
        unC x63l0 fun x63v1 x63l1 =>
        unI .i64 x63v1 fun (x63_1 : Int) =>
        unE x63l1 <|
        K_signalboxlaw12_CountPlays_16 ms ts (some ⟨b, 0, none⟩) ⟨some ⟨r, 0, none⟩, n, n⟩ (is.getD (i : Int).toNat 0) taken x63_0 x63_1 ls (ls.n : Int) (i : Int)) h (Fin B h) := by
      intro taken
      cases taken
      · rw [mIf_false, mBind_ap]
        refine (Give_ok hp.rep hp.wf _).mono ?_
        rintro v h' ⟨rfl, hc, hk⟩
        simp only [pairV, unT_tuple, unC_cons, unI_int, unE_nil]
        have hu : Under B h h' := Under.of_keeps hk hp.size fun x hx => by subst hx; exact hp.Bq
        refine Cut.mono (play16 (by omega) hls hstep false _ (hms.under hu) (hts.under hu) (hl.under hu) hp.wf hsnd (by omega) hc (hk.blk hp.now hp.rq) hp.rb hp.rq hp.Bq hp.Br (Nat.le_trans hp.size hu.size)) ?_
        rintro v h3 ⟨rfl, h4⟩
        exact ⟨rfl, hu.trans h4⟩
      · rw [mIf_true, mBind_ap]
        refine (Take_ok hp.rep hp.wf _).mono ?_
        rintro v h' ⟨rfl, hc, hk⟩
        simp only [pairV, unT_tuple, unC_cons, unI_int, unE_nil]
        have hu : Under B h h' := Under.of_keeps hk hp.size fun x hx => by subst hx; exact hp.Bq
        refine Cut.mono (play16 (by omega) hls hstep true _ (hms.under hu) (hts.under hu) (hl.under hu) hp.wf hsnd (by omega) hc (hk.blk hp.now hp.rq) hp.rb hp.rq hp.Bq hp.Br (Nat.le_trans hp.size hu.size)) ?_
        rintro v h3 ⟨rfl, h4⟩
        exact ⟨rfl, hu.trans h4⟩
    rw [mBind_ap]
    by_cases ht : (i : Int) < (ts.n : Int)
    · simp only [ht, decide_true, mIf_true]
      refine hts.idx (by omega) (by rw [hts.n] at ht; omega) fun a ha => mLdB_of ha ?_
      rw [mRet_ap]
      exact both _
    · simp only [ht, decide_false, mIf_false, mRet_ap]
      exact both false
end play

theorem CountPlays_ok {h : Hp} {ms ls ts : Sl} {zs is : List Int} {bs : List Bool} (hms : RdI h.size h .i64 ms zs) (hls : RdI h.size h .i64 ls is) (hts : RdB h.size h ts bs) :
    N_signalboxlaw12_CountPlays ms ls ts h (fun v h' => v = .bool true ∧ Under h.size h h') := by
  apply S_signalboxlaw12_CountPlays
  unfold B_signalboxlaw12_CountPlays
  rw [mBind_ap]
  refine (fixed_ok h).mono ?_
  rintro v h1 ⟨rfl, hu1⟩
  simp only [unB_bool, Bool.not_true, mIf_false]
  by_cases hbig : (decide ((ms.n : Int) > 20) || decide ((ls.n : Int) > 200)) = true
  · rw [hbig, mIf_true, mRet_ap]
    exact ⟨rfl, hu1⟩
  · have hbig' := hbig
    simp only [Bool.not_eq_true] at hbig
    rw [hbig, mIf_false, mBind_ap]
    simp only [hms.n, hls.n, Bool.or_eq_true, decide_eq_true_eq, not_or] at hbig'
    have hms1 := hms.under hu1
    have hrd1 : RdI h1.size h1 .i64 ms zs := ⟨hms1.n, fun i z hz => by
      obtain ⟨a, e1, e2, e3⟩ := hms1.at_ i z hz
      exact ⟨a, e1, by have := hu1.size; omega, e3⟩, hms1.wf⟩
    refine (New_ok (by omega) hrd1).mono ?_
    rintro v h2 ⟨b, q, rfl, hc, hb, hq, hu2⟩
    have hu2' : Under h.size h h2 := hu1.trans ⟨hu2.size, fun i hi => hu2.at_ i (by have := hu1.size; omega)⟩
    simp only [unP_pointer]
    rw [hms.n]
    refine ⟨by omega, by omega, by omega, by rw [show IntKind.i64.max = 9223372036854775807 by decide]; omega, ?_⟩
    simp only [Int.toNat_natCast]
    rw [mRow_one]
    have hu3 : Under h.size h2 (h2.push (.cells (Array.replicate zs.length (.int .i64 0)) 3)) := .push _ _ hu2'.size
    have hu := hu2'.trans hu3
    have hnow : Blk (h2.push (.cells (Array.replicate zs.length (.int .i64 0)) 3)) h2.size ((mk0 zs).map fun x => .int .i64 x.1) := by
      have := Blk.new' h2 (Array.replicate zs.length (.int .i64 0)) 3
      have e : (Array.replicate zs.length (Value.int .i64 0)).toList = (mk0 zs).map fun x => .int .i64 x.1 := by
        unfold mk0
        rw [List.map_map]
        apply List.ext_getElem (by simp)
        intro i _ _
        simp
      rw [e] at this
      exact this
    obtain ⟨s, hsb, ho, hsn, hbq, hq'⟩ := hc
    have hbl := hsb.lt
    have hql : q ≠ h2.size ∨ mk0 zs = [] := by
      by_cases e : mk0 zs = []
      · exact .inr e
      · have hp := hq' e
        rcases ho with ⟨hs, _⟩ | ⟨q'', rest, hp', _, _, _, hblk⟩
        · rw [hs] at hp; cases hp
        · have : q'' = q := by rw [hp] at hp'; simpa using hp'.symm
          subst this
          have := hblk.lt
          exact .inl (by omega)
    -- a row of its own where there are no counts
    obtain ⟨q2, hq2, hc2, hB2⟩ : ∃ q2, h2.size ≠ q2 ∧ CRep (h2.push (.cells (Array.replicate zs.length (.int .i64 0)) 3)) b q2 (mk0 zs) ∧ h.size ≤ q2 := by
      have hown : OwnS (h2.push (.cells (Array.replicate zs.length (.int .i64 0)) 3)) s 2 ((mk0 zs).flatMap encC) := by
        rcases ho with hs | ⟨q'', rest, hp', e1, e2, e3, hblk⟩
        · exact .inl hs
        · exact .inr ⟨q'', rest, hp', e1, e2, e3, hblk.push _⟩
      rcases hql with hne | he
      · exact ⟨q, Ne.symm hne, ⟨s, hsb.push _, hown, hsn, hbq, hq'⟩, by have := hu1.size; omega⟩
      · exact ⟨h2.size + 1, by omega, ⟨s, hsb.push _, hown, hsn, by omega, fun h => absurd he h⟩, by have := hu2'.size; omega⟩
    have hloop := play8 (B := h.size) (ms := ms) (ts := ts) (ls := ls) (zs := zs) (bs := bs) (is := is) (b := b) (q := q2) (r := h2.size) (by omega) is.length 0 (by omega) (by omega) zs.length rfl
    refine Cut.mono (hloop _ (mk0 zs) (hms.under hu) (hts.under hu) (hls.under hu) ⟨hc2, hnow, by omega, hq2, hB2, hu2'.size, hu.size, mk0_wf zs⟩ (by unfold mk0; rw [List.map_map]; rfl)) ?_
    rintro v h3 ⟨rfl, h4⟩
    exact ⟨rfl, hu.trans h4⟩
end Go.Proofs.Ytkmenmagclojmaa
