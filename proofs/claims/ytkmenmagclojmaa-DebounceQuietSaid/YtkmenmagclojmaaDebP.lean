/- Debounce: the law DebounceQuiet. Conditions: none. -/
import Derived.Test.YtkmenmagclojmaaDebQ
import Derived.Test.YtkmenmagclojmaaSbS
namespace Go.Proofs.Ytkmenmagclojmaa
open Go Go.Sb

/-- the turns, one after the other: up and down by turns, far enough apart, each behind as many inputs alike -/
def Chain (bs : List Bool) (hold : Int) : Bool → Int → List (Int × Bool) → Prop
  | _, _, [] => True
  | up, last, (at_, u) :: E => u ≠ up ∧ -1 ≤ last ∧ hold ≤ at_ - last ∧ at_ < bs.length ∧ (∀ k : Nat, at_ - hold < k → (k : Int) ≤ at_ → bs[k]? = some u) ∧ Chain bs hold u at_ E
theorem chain_from {bs : List Bool} {f0 : Flt} (hf0 : f0.ok) : ∀ (d i : Nat) (last : Int), i + d = bs.length → Tail bs i last (after f0 (bs.take i)).run (after f0 (bs.take i)).out →
    Chain bs f0.hold (after f0 (bs.take i)).out last (edgesFrom i (heard (after f0 (bs.take i)) (bs.drop i)))
  | 0, i, last, hid, hT => by
    rw [List.drop_of_length_le (by omega)]
    trivial
  | d + 1, i, last, hid, hT => by
    have hi : i < bs.length := by omega
    have ih := chain_from (bs := bs) hf0 d (i + 1)
    have e1 := after_succ f0 bs i hi
    have hho := after_hold f0 (bs.take i)
    have hfi := after_ok hf0 (bs.take i)
    have hn := hT.next hi
    rw [List.drop_eq_getElem_cons hi]
    simp only [heard, edgesFrom]
    rw [← e1]
    cases htu : (after f0 (bs.take i)).turned bs[i]
    · have hsame := hear_same htu
      rw [← e1] at hsame
      simp only [Bool.false_eq_true, if_false]
      have := ih last (by omega) (by rw [hsame]; exact hn)
      have ho : (after f0 (bs.take (i + 1))).out = (after f0 (bs.take i)).out := by rw [hsame]
      rw [ho] at this
      exact this
    · have hturn := hear_turn htu
      rw [← e1] at hturn
      simp only [if_true]
      have ho : (after f0 (bs.take (i + 1))).out = bs[i] := by rw [hturn.1]
      have hSn : newS (after f0 (bs.take i)) bs[i] = f0.hold := by
        have := newS_turned hfi bs[i]
        rw [htu, hho] at this
        simpa using this
      rw [hSn] at hn
      have ih' := ih (i : Int) (by omega) (by rw [hturn.1]; exact Tail.turn)
      rw [ho] at ih' ⊢
      refine ⟨by rw [hturn.2.2]; cases (after f0 (bs.take i)).out <;> simp, hn.l, by have := hn.s; omega, by omega, fun k h1 h2 => ?_, ih'⟩
      rw [hturn.2.2]
      exact hn.un k (by omega) (by omega)
section quiet
variable {h0 : Hp} {ins es : Sl} {bs : List Bool} {hold : Int}
theorem q13 {h : Hp} {E : List (Int × Bool)} {a j : Nat} {at_ : Int} {u : Bool} (hr : RdB h0.size h0 ins bs) (hlen : bs.length ≤ 300) (hat : -1 ≤ at_ ∧ at_ < bs.length) (hs : Sep h0 h [aBlk a [.int .i64 at_, .bool u], aRow encE 2 es E]) (hj : j < 1000)
    (hnext : K_signalboxlaw54_DebounceQuiet_8 ins hold u at_ es (es.n : Int) ((j + 1 : Nat) : Int) h (BFin h0)) : ∀ (d : Nat) (k : Int), 0 ≤ k → k + d = at_ + 1 → (∀ k' : Nat, k ≤ k' → (k' : Int) ≤ at_ → bs[k']? = some u) →
    K_signalboxlaw54_DebounceQuiet_13 ins hold ⟨a, 0, none⟩ k es (es.n : Int) (j : Int) h (BFin h0)
  | 0, k, hk, hkd, hu => by
    apply S_signalboxlaw54_DebounceQuiet_13
    unfold B_signalboxlaw54_DebounceQuiet_13
    simp only [add_mk, Nat.zero_add]
    refine Sep.ldI hs 0 rfl rfl ?_
    rw [decide_eq_false (by omega), mIf_false]
    refine Sep.ldB hs 0 rfl rfl ?_; refine Sep.ldI hs 0 rfl rfl ?_
    rw [wrap64 _ (by omega), show (j : Int) + 1 = ((j + 1 : Nat) : Int) by omega]
    exact hnext
  | d + 1, k, hk, hkd, hu => by
    have ih := q13 hr hlen hat hs hj hnext d (k + 1) (by omega) (by omega) (fun k' h1 h2 => hu k' (by omega) h2)
    apply S_signalboxlaw54_DebounceQuiet_13
    unfold B_signalboxlaw54_DebounceQuiet_13
    simp only [add_mk, Nat.zero_add]
    refine Sep.ldI hs 0 rfl rfl ?_
    rw [decide_eq_true (by omega), mIf_true]
    have hx := hu k.toNat (by omega) (by omega)
    refine hs.argB hr (by omega) (by omega) ?_
    rw [(List.getElem?_eq_some_iff.1 hx).2]
    refine Sep.ldB hs 0 rfl rfl ?_
    rw [beq_self_eq_true, Bool.not_true, mIf_false, wrap64 _ (by omega)]
    exact ih
theorem q8 (hr : RdB h0.size h0 ins bs) (hlen : bs.length ≤ 300) (hho : 1 ≤ hold ∧ hold ≤ 1024) {E : List (Int × Bool)} (hE : E.length ≤ 300) (hfin : ∀ h L, Sep h0 h L → K_signalboxlaw54_DebounceQuiet_21 ins hold 0 0 ins (ins.n : Int) 0 h (BFin h0)) :
    ∀ (d j : Nat) (h : Hp) (up : Bool) (last : Int), j + d = E.length → Chain bs hold up last (E.drop j) → -1 ≤ last ∧ last < 1000 → Sep h0 h [aRow encE 2 es E] → K_signalboxlaw54_DebounceQuiet_8 ins hold up last es (es.n : Int) (j : Int) h (BFin h0)
  | 0, j, h, up, last, hjd, hc, hl, hs => by
    apply S_signalboxlaw54_DebounceQuiet_8
    unfold B_signalboxlaw54_DebounceQuiet_8
    have := hs.rowLen 0 rfl
    rw [decide_eq_false (by omega), mIf_false]
    exact hfin h _ hs
  | d + 1, j, h, up, last, hjd, hc, hl, hs => by
    have ih := q8 hr hlen hho hE hfin d (j + 1)
    apply S_signalboxlaw54_DebounceQuiet_8
    unfold B_signalboxlaw54_DebounceQuiet_8
    have hn := hs.rowLen 0 rfl
    have hj : j < E.length := by omega
    rw [decide_eq_true (by omega), mIf_true]
    rw [List.drop_eq_getElem_cons hj] at hc
    generalize hx : E[j] = x at hc
    obtain ⟨at_, u⟩ := x
    obtain ⟨hu, -, hla, hab, hall, hrest⟩ := hc
    have hget : E[(j : Int).toNat]? = some (at_, u) := by rw [Int.toNat_natCast, List.getElem?_eq_getElem hj, hx]
    refine hs.idx 0 rfl (by omega) (by omega) fun a ha => ?_
    refine hs.rldI0 0 rfl (fun _ => rfl) ha hget rfl ?_
    refine hs.rldB 0 rfl (fun _ => rfl) ha hget rfl ?_
    (refine Sep.new hs fun nb h hs => ?_; try simp only [List.toList_toArray] at hs)
    simp only [add_mk, Nat.zero_add]
    (refine Sep.st hs 0 rfl rfl rfl fun h hs => ?_; simp only [List.set_cons_zero, List.set_cons_succ] at hs); (refine Sep.st hs 0 rfl rfl rfl fun h hs => ?_; simp only [List.set_cons_zero, List.set_cons_succ] at hs); refine Sep.ldB hs 0 rfl rfl ?_
    rw [mBind_ap]
    refine mIf_neg (by simpa using hu) ?_
    refine Sep.ldI hs 0 rfl rfl ?_
    rw [wrap64 _ (by omega), mRet_ap]
    refine mIf_neg (by rw [decide_eq_false]; omega) ?_
    refine Sep.ldI hs 0 rfl rfl ?_
    rw [wrap64 (at_ - hold) (by omega), wrap64 _ (by omega)]
    refine q13 hr hlen ⟨by omega, hab⟩ hs (by omega) ?_ hold.toNat (at_ - hold + 1) (by omega) (by omega) (fun k' h1 h2 => hall k' (by omega) h2)
    exact ih h u at_ (by omega) hrest (by omega) hs.drop
/-- the longest stretch of inputs that are, up to place i; and the last one -/
structure Most (bs : List Bool) (i : Nat) (most run : Int) : Prop where
  b : 0 ≤ run ∧ run ≤ i ∧ 0 ≤ most ∧ most ≤ i
  r : ∀ c : Nat, c ≤ i → (∀ k : Nat, (i : Int) - 1 - c < k → k < i → bs[k]? = some true) → (c : Int) ≤ run
  m : ∀ (j c : Nat), j < i → c ≤ j + 1 → (∀ k : Nat, (j : Int) - c < k → k ≤ j → bs[k]? = some true) → (c : Int) ≤ most
theorem q21 (hr : RdB h0.size h0 ins bs) (hlen : bs.length ≤ 300) (hho : 1 ≤ hold ∧ hold ≤ 1024) (hC : Chain bs hold false (-1) (edgesOf hold bs)) : ∀ (d i : Nat) (h : Hp) (L : List As) (most run : Int), i + d = bs.length → Most bs i most run → Sep h0 h L →
    K_signalboxlaw54_DebounceQuiet_21 ins hold most run ins (ins.n : Int) (i : Int) h (BFin h0)
  | 0, i, h, L, most, run, hid, hm, hs => by
    have hn := hr.n
    apply S_signalboxlaw54_DebounceQuiet_21
    unfold B_signalboxlaw54_DebounceQuiet_21
    rw [decide_eq_false (by omega), mIf_false, mBind_ap]
    refine mIf_dec (fun hc => ⟨rfl, hs.under⟩) (fun hc => ?_)
    have rd : RdB h.size h ins bs := ⟨hn, fun i z hz => by
      obtain ⟨a, g1, g2, g3⟩ := (hr.under hs.under).at_ i z hz
      exact ⟨a, g1, Nat.lt_of_lt_of_le g2 hs.under.size, g3⟩⟩
    rw [mBind_ap]
    refine (Edges_s rd (by omega) hold).mono ?_
    rintro v h4 ⟨es, rfl, hs4⟩
    have he := hs4.rowLen 0 rfl
    have hs := hs.rebase hs4
    simp only [unL_slice, mRet_ap]
    refine ⟨?_, hs.under⟩
    have : edgesOf hold bs = [] := by
      cases hE : edgesOf hold bs with
      | nil => rfl
      | cons x E =>
        obtain ⟨at_, u⟩ := x
        rw [hE] at hC
        obtain ⟨hu, -, hla, hab, hall, -⟩ := hC
        have hut : u = true := by cases u <;> simp_all
        subst hut
        have := hm.m at_.toNat hold.toNat (by omega) (by omega) (fun k h1 h2 => hall k (by omega) (by omega))
        omega
    rw [he, this]
    rfl
  | d + 1, i, h, L, most, run, hid, hm, hs => by
    have ih := q21 hr hlen hho hC d (i + 1) h L
    have hn := hr.n
    have hi : i < bs.length := by omega
    have hx : bs[i]? = some bs[i] := List.getElem?_eq_getElem hi
    obtain ⟨hb, hrr, hmm⟩ := hm
    apply S_signalboxlaw54_DebounceQuiet_21
    unfold B_signalboxlaw54_DebounceQuiet_21
    rw [decide_eq_true (by omega), mIf_true]
    refine hs.argB hr (by omega) (by omega) ?_
    rw [show bs[(i : Int).toNat]'(by omega) = bs[i] from rfl]
    rw [wrap64 ((i : Int) + 1) (by omega), wrap64 (run + 1) (by omega), show (i : Int) + 1 = ((i + 1 : Nat) : Int) by omega]
    cases hxi : bs[i]
    · simp only [Bool.not_false, mIf_true]
      rw [hxi] at hx
      have zero : ∀ c : Nat, c ≤ i + 1 → (∀ k : Nat, (i : Int) - c < k → k ≤ i → bs[k]? = some true) → c = 0 := by
        intro c hc hall
        false_or_by_contra
        have := hall i (by omega) (by omega)
        rw [hx] at this
        cases this
      refine ih _ 0 (by omega) ⟨by split <;> omega, fun c h1 h2 => ?_, fun j c h1 h2 h3 => ?_⟩ hs
      · have := zero c h1 (fun k g1 g2 => h2 k (by omega) (by omega)); omega
      · by_cases hj : j = i
        · subst hj
          have := zero c h2 h3
          split <;> omega
        · have := hmm j c (by omega) h2 h3
          split <;> omega
    · simp only [Bool.not_true, mIf_false]
      have last : ∀ c : Nat, c ≤ i + 1 → (∀ k : Nat, (i : Int) - c < k → k ≤ i → bs[k]? = some true) → (c : Int) ≤ run + 1 := by
        intro c hc hall
        by_cases h0' : c = 0
        · omega
        · have := hrr (c - 1) (by omega) (fun k g1 g2 => hall k (by omega) (by omega))
          omega
      refine ih _ _ (by omega) ⟨by split <;> omega, fun c h1 h2 => ?_, fun j c h1 h2 h3 => ?_⟩ hs
      · exact last c h1 (fun k g1 g2 => h2 k (by omega) (by omega))
      · by_cases hj : j = i
        · subst hj
          have := last c h2 h3
          split <;> omega
        · have := hmm j c (by omega) h2 h3
          split <;> omega
theorem DebounceQuiet_ok {h : Hp} {ins : Sl} {bs : List Bool} {hold : Int} (hr : RdB h.size h ins bs) (hh : 0 ≤ hold ∧ hold ≤ 255) :
    N_signalboxlaw54_DebounceQuiet ins hold h (fun v h' => v = .bool true ∧ Under h.size h h') := by
  apply S_signalboxlaw54_DebounceQuiet
  unfold B_signalboxlaw54_DebounceQuiet
  rw [mBind_ap]
  refine (bfixed_s (Sep.init h)).mono ?_
  rintro v h1 ⟨rfl, hs⟩
  simp only [unB_bool, Bool.not_true, mIf_false]
  have hn := hr.n
  refine mIf_dec (fun hc => ⟨rfl, hs.under⟩) (fun hc => ?_)
  refine ⟨by decide, ?_⟩
  rw [Int.tmod_eq_emod_of_nonneg hh.1, wrap64 (hold % 30) (by omega), wrap64 _ (by omega), mBind_ap]
  generalize hho : 1 + hold % 30 = ho
  have hb : fltBad ho = false := by unfold fltBad; simp; omega
  have rd : RdB h1.size h1 ins bs := ⟨hn, fun i z hz => by
    obtain ⟨a, g1, g2, g3⟩ := (hr.under hs.under).at_ i z hz
    exact ⟨a, g1, Nat.lt_of_lt_of_le g2 hs.under.size, g3⟩⟩
  refine (Edges_s rd (by omega) ho).mono ?_
  rintro v h4 ⟨es, rfl, hs4⟩
  have hs := hs.rebase hs4
  simp only [unL_slice, List.cons_append, List.nil_append] at hs ⊢
  have e2 : edgesOf ho bs = edgesFrom 0 (heard ⟨ho, 0, false⟩ bs) := by unfold edgesOf; rw [hb]; rfl
  have hC : Chain bs ho false (-1) (edgesOf ho bs) := by
    rw [e2]
    exact chain_from (flt_ok0 ho hb) bs.length 0 (-1) (by omega) ⟨by omega, ⟨by simp [after], by simp [after]⟩, fun k h1 h2 => by omega, .inl (by simp [after])⟩
  have hEl : (edgesOf ho bs).length ≤ 300 := by
    rw [e2]
    have := edges_len 0 (heard ⟨ho, 0, false⟩ bs)
    rw [heard_len] at this
    omega
  refine q8 hr (by omega) (by omega) hEl (fun h L hs => ?_) (edgesOf ho bs).length 0 h4 false (-1) (by omega) (by simpa using hC) (by omega) hs
  exact q21 hr (by omega) (by omega) hC bs.length 0 h L 0 0 (by omega) ⟨by omega, fun c h1 h2 => by omega, fun j c h1 h2 h3 => by omega⟩ hs
end quiet
end Go.Proofs.Ytkmenmagclojmaa
