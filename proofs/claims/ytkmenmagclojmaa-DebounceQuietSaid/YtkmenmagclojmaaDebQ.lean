/- Debounce: the laws DebounceHears and DebounceQuiet. Conditions: none. -/
import Derived.Test.YtkmenmagclojmaaDebL
import Derived.Test.YtkmenmagclojmaaSbS
namespace Go.Proofs.Ytkmenmagclojmaa
open Go Go.Sb

abbrev BFin (h0 : Hp) : Value → Hp → Prop := fun v h' => v = .bool true ∧ Under h0.size h0 h'
/-- the inputs ahead of place i, from the last turn on: how many at their end are unlike the output -/
structure Tail (bs : List Bool) (i : Nat) (last : Int) (S : Int) (out : Bool) : Prop where
  l : -1 ≤ last
  s : 0 ≤ S ∧ last + S < i
  un : ∀ k : Nat, (i : Int) - 1 - S < k → k < i → bs[k]? = some (!out)
  e : (i : Int) - 1 - S = last ∨ (last < (i : Int) - 1 - S ∧ bs[((i : Int) - 1 - S).toNat]? = some out)
def newS (f : Flt) (x : Bool) : Int := if x = f.out then 0 else f.run + 1
theorem Tail.next {bs : List Bool} {i : Nat} {last : Int} {f : Flt} (ht : Tail bs i last f.run f.out) (hi : i < bs.length) : Tail bs (i + 1) last (newS f bs[i]) f.out := by
  obtain ⟨l, s, un, e⟩ := ht
  have hx : bs[i]? = some bs[i] := List.getElem?_eq_getElem hi
  unfold newS
  split
  · rename_i hc
    refine ⟨l, by omega, fun k h1 h2 => by omega, .inr ⟨by omega, ?_⟩⟩
    rw [show (((i + 1 : Nat) : Int) - 1 - 0).toNat = i by omega, hx, hc]
  · rename_i hc
    refine ⟨l, by omega, fun k h1 h2 => ?_, ?_⟩
    · by_cases hk : k = i
      · subst hk
        rw [hx]
        cases hb : bs[k] <;> cases ho : f.out <;> simp_all
      · exact un k (by omega) (by omega)
    · have : ((i + 1 : Nat) : Int) - 1 - (f.run + 1) = (i : Int) - 1 - f.run := by omega
      rw [this]; exact e
theorem newS_turned {f : Flt} (hf : f.ok) (x : Bool) : (newS f x == f.hold) = f.turned x := by
  obtain ⟨h, r⟩ := hf
  unfold newS Flt.turned
  by_cases hc : x = f.out
  · rw [if_pos hc]
    have e1 : ((0 : Int) == f.hold) = false := by simp; omega
    have e2 : (x == f.out) = true := by simpa using hc
    rw [e1, e2]; rfl
  · rw [if_neg hc]
    have e2 : (x == f.out) = false := by simpa using hc
    rw [e2]; rfl
theorem hear_turn {f : Flt} {x : Bool} (ht : f.turned x = true) : f.hear x = ⟨f.hold, 0, x⟩ ∧ f.run + 1 = f.hold ∧ x = !f.out := by
  unfold Flt.turned at ht
  simp only [Bool.and_eq_true, Bool.not_eq_true', beq_eq_false_iff_ne, beq_iff_eq] at ht
  unfold Flt.hear
  rw [if_neg ht.1, if_pos ht.2]
  exact ⟨rfl, ht.2, by cases hx : x <;> cases ho : f.out <;> simp_all⟩
theorem hear_same {f : Flt} {x : Bool} (ht : f.turned x = false) : f.hear x = ⟨f.hold, newS f x, f.out⟩ := by
  unfold Flt.turned at ht
  unfold Flt.hear newS
  by_cases hc : x = f.out
  · rw [if_pos hc, if_pos hc]
  · have e2 : (x == f.out) = false := by simpa using hc
    rw [e2, Bool.not_false, Bool.true_and] at ht
    have e3 : ¬ f.run + 1 = f.hold := by simpa using ht
    rw [if_neg hc, if_neg e3, if_neg hc]
theorem Tail.turn {bs : List Bool} {i : Nat} {out : Bool} : Tail bs (i + 1) (i : Int) 0 out := ⟨by omega, by omega, fun k h1 h2 => by omega, .inl (by omega)⟩
theorem heard_split (f : Flt) (bs : List Bool) (i : Nat) (hi : i < bs.length) : heard f bs = heard f (bs.take i) ++ (((after f (bs.take i)).hear bs[i]).out, (after f (bs.take i)).turned bs[i]) :: heard ((after f (bs.take i)).hear bs[i]) (bs.drop (i + 1)) := by
  have : bs = bs.take i ++ (bs[i] :: bs.drop (i + 1)) := by rw [← List.drop_eq_getElem_cons hi, List.take_append_drop]
  conv => lhs; rw [this]
  rw [heard_app]; rfl
theorem after_succ (f : Flt) (bs : List Bool) (i : Nat) (hi : i < bs.length) : after f (bs.take (i + 1)) = (after f (bs.take i)).hear bs[i] := by
  rw [List.take_succ_eq_append_getElem hi, after_app]; rfl
theorem heard_succ (f : Flt) (bs : List Bool) (i : Nat) (hi : i < bs.length) : heard f (bs.take (i + 1)) = heard f (bs.take i) ++ [(((after f (bs.take i)).hear bs[i]).out, (after f (bs.take i)).turned bs[i])] := by
  rw [List.take_succ_eq_append_getElem hi, heard_app]; rfl
theorem after_hold (f : Flt) : ∀ (l : List Bool), (after f l).hold = f.hold := by
  intro l
  induction l generalizing f with
  | nil => rfl
  | cons x l ih =>
    simp only [after]; rw [ih]
    unfold Flt.hear; split
    · rfl
    · split <;> rfl
section hears
variable {h0 : Hp} {b : Nat} {ins outs edges : Sl} {bs : List Bool} {hold : Int} {f0 : Flt}
def BLoop (h0 : Hp) (b : Nat) (ins outs edges : Sl) (bs : List Bool) (f0 : Flt) (i : Nat) : Prop := ∀ (h : Hp) (last : Int),
  Tail bs i last (after f0 (bs.take i)).run (after f0 (bs.take i)).out →
  Sep h0 h [aBlk b (after f0 (bs.take i)).enc, aRow encO 1 outs ((heard f0 bs).map (·.1)), aRow encE 2 edges (edgesFrom 0 (heard f0 bs))] →
  K_signalboxlaw54_DebounceHears_15 ins f0.hold (some ⟨b, 0, none⟩) outs edges (after f0 (bs.take i)).out last ((edgesFrom 0 (heard f0 (bs.take i))).length : Int) ins (ins.n : Int) (i : Int) h (BFin h0)
theorem b29 {i : Nat} (hi : i < bs.length) (hlen : bs.length ≤ 200) (hloop : BLoop h0 b ins outs edges bs f0 (i + 1)) {h : Hp} {last : Int} (turns : Bool) (ht : turns = (after f0 (bs.take i)).turned bs[i])
    (hT : Tail bs (i + 1) last (after f0 (bs.take (i + 1))).run (after f0 (bs.take (i + 1))).out)
    (hs : Sep h0 h [aBlk b (after f0 (bs.take (i + 1))).enc, aRow encO 1 outs ((heard f0 bs).map (·.1)), aRow encE 2 edges (edgesFrom 0 (heard f0 bs))]) :
    K_signalboxlaw54_DebounceHears_29 ins f0.hold (some ⟨b, 0, none⟩) outs edges (after f0 (bs.take (i + 1))).out last ((edgesFrom 0 (heard f0 (bs.take (i + 1)))).length : Int) (i : Int) (after f0 (bs.take (i + 1))).run
      ((after f0 (bs.take i)).hear bs[i]).out ((after f0 (bs.take i)).turned bs[i]) turns ins (ins.n : Int) (i : Int) h (BFin h0) := by
  apply S_signalboxlaw54_DebounceHears_29
  unfold B_signalboxlaw54_DebounceHears_29
  have e1 := after_succ f0 bs i hi
  rw [mBind_ap]
  refine mIf_neg (by rw [ht, e1]; simp) ?_
  have hol : ((heard f0 bs).map (·.1)).length = bs.length := by rw [List.length_map, heard_len]
  refine hs.idx 1 rfl (by omega) (by omega) fun a ha => ?_
  have hget : ((heard f0 bs).map (·.1))[(i : Int).toNat]? = some (after f0 (bs.take (i + 1))).out := by
    rw [List.getElem?_map, heard_split f0 bs i hi, e1]
    have hl : (heard f0 (bs.take i)).length = i := by rw [heard_len, List.length_take]; omega
    rw [List.getElem?_append_right (by omega), hl, show (i : Int).toNat - i = 0 by omega]
    rfl
  refine hs.rldB0 1 rfl (fun _ => rfl) ha hget rfl ?_
  simp only [mRet_ap, beq_self_eq_true, Bool.not_true, mBind_ap, mIf_false]
  refine (Out_s hs).mono ?_
  rintro v h' ⟨rfl, rfl⟩
  simp only [unB_bool, mRet_ap, beq_self_eq_true, Bool.not_true, mBind_ap, mIf_false]
  refine (Run_s hs).mono ?_
  rintro v h' ⟨rfl, rfl⟩
  simp only [unI_int, mRet_ap, bne_self_eq_false, mIf_false]
  rw [wrap64 _ (by omega), show (i : Int) + 1 = ((i + 1 : Nat) : Int) by omega]
  exact hloop h' last hT hs
theorem b19 {i : Nat} (hi : i < bs.length) (hr : RdB h0.size h0 ins bs) (hlen : bs.length ≤ 200) (hf0 : f0.ok) (hloop : BLoop h0 b ins outs edges bs f0 (i + 1)) {h : Hp} {last : Int}
    (hT : Tail bs i last (after f0 (bs.take i)).run (after f0 (bs.take i)).out)
    (hs : Sep h0 h [aBlk b (after f0 (bs.take i)).enc, aRow encO 1 outs ((heard f0 bs).map (·.1)), aRow encE 2 edges (edgesFrom 0 (heard f0 bs))]) : ∀ (d : Nat) (run : Int), 0 ≤ run → run + d = newS (after f0 (bs.take i)) bs[i] →
    K_signalboxlaw54_DebounceHears_19 ins f0.hold (some ⟨b, 0, none⟩) outs edges (after f0 (bs.take i)).out last ((edgesFrom 0 (heard f0 (bs.take i))).length : Int) (i : Int) bs[i] run ((i : Int) - run) ins (ins.n : Int) (i : Int) h (BFin h0)
  | 0, run, hr0, hrd => by
    have hn := hT.next hi
    have hfi := after_ok hf0 (bs.take i)
    have hho := after_hold f0 (bs.take i)
    have e1 := after_succ f0 bs i hi
    have e2 := heard_succ f0 bs i hi
    have e3 := heard_split f0 bs i hi
    have hrun : run = newS (after f0 (bs.take i)) bs[i] := by omega
    apply S_signalboxlaw54_DebounceHears_19
    unfold B_signalboxlaw54_DebounceHears_19
    have stop : ∀ {Q : Bool → Hp → Prop}, Q false h → (mIf (decide ((i : Int) - run > last)) (mIdx ins ((i : Int) - run) 1 fun (x91 : Addr) => mLdB x91 fun (x92 : Bool) => mRet (!(x92 == (after f0 (bs.take i)).out))) (mRet false)) h Q := by
      intro Q hq
      have he := hn.e
      have hss := hn.s
      rw [← hrun] at he hss
      have hla := hn.l
      refine mIf_dec (fun hc => ?_) (fun hc => hq)
      have hge : ((i + 1 : Nat) : Int) - 1 - run = (i : Int) - run := by omega
      rw [hge] at he
      have he : bs[((i : Int) - run).toNat]? = some (after f0 (bs.take i)).out := by
        rcases he with he | he
        · omega
        · exact he.2
      refine hs.argB hr (by omega) (by omega) ?_
      have := (List.getElem?_eq_some_iff.1 he).2
      rw [this, mRet_ap]
      simpa using hq
    rw [mBind_ap]
    refine stop ?_
    rw [mIf_false, mBind_ap]
    have hlE : (heard f0 (bs.take i)).length = i := by rw [heard_len, List.length_take]; omega
    refine (Hear_s hs hfi bs[i]).mono ?_
    rintro v h ⟨rfl, hs⟩
    simp only [un2_tuple, unB_bool]
    rw [← e1] at hs
    have htt := newS_turned hfi bs[i]
    rw [hho, ← hrun] at htt
    cases htu : (after f0 (bs.take i)).turned bs[i]
    · rw [htu] at htt
      refine mIf_neg htt ?_
      have hsame := hear_same htu
      rw [← e1] at hsame
      have hE : edgesFrom 0 (heard f0 (bs.take (i + 1))) = edgesFrom 0 (heard f0 (bs.take i)) := by
        rw [e2, edges_app, htu]; simp [edgesFrom]
      have hout : (after f0 (bs.take (i + 1))).out = (after f0 (bs.take i)).out := by rw [hsame]
      have hrun' : (after f0 (bs.take (i + 1))).run = run := by rw [hsame, hrun]
      have := b29 (last := last) hi hlen hloop false htu.symm (by rw [hout, hrun', hrun]; exact hn) hs
      rw [htu, hout, hrun', hE] at this
      rw [htt]
      exact this
    · rw [htu] at htt
      refine mIf_pos htt ?_
      have hturn := hear_turn htu
      have hE : edgesFrom 0 (heard f0 (bs.take (i + 1))) = edgesFrom 0 (heard f0 (bs.take i)) ++ [((i : Int), bs[i])] := by
        rw [e2, edges_app, htu, hlE, hturn.1]; simp [edgesFrom]
      have hEall : ∃ rest, edgesFrom 0 (heard f0 bs) = edgesFrom 0 (heard f0 (bs.take i)) ++ ((i : Int), bs[i]) :: rest := by
        rw [e3, edges_app, htu, hlE, hturn.1]
        exact ⟨edgesFrom (i + 1) (heard ⟨(after f0 (bs.take i)).hold, 0, bs[i]⟩ (bs.drop (i + 1))), by simp [edgesFrom]⟩
      obtain ⟨rest, hEall⟩ := hEall
      have hen := hs.rowLen 2 rfl
      have hen' : edges.n = (edgesFrom 0 (heard f0 (bs.take i))).length + (rest.length + 1) := by rw [hen, hEall]; simp
      rw [mBind_ap]
      refine mIf_neg (by rw [decide_eq_false]; omega) ?_
      have hlt : (edgesFrom 0 (heard f0 (bs.take i))).length < (edgesFrom 0 (heard f0 bs)).length := by rw [hEall]; simp
      have hget : (edgesFrom 0 (heard f0 bs))[(((edgesFrom 0 (heard f0 (bs.take i))).length : Nat) : Int).toNat]? = some ((i : Int), bs[i]) := by
        rw [hEall, Int.toNat_natCast, List.getElem?_append_right (by omega)]; simp
      refine hs.idx 2 rfl (by omega) (by omega) fun a ha => ?_
      refine hs.rldI0 2 rfl (fun _ => rfl) ha hget rfl ?_
      refine hs.rldB 2 rfl (fun _ => rfl) ha hget rfl ?_
      simp only [mRet_ap, beq_self_eq_true, Bool.and_self, Bool.not_true, mIf_false]
      rw [← e1] at hturn
      have hout : (after f0 (bs.take (i + 1))).out = bs[i] := by rw [hturn.1]
      have hrun' : (after f0 (bs.take (i + 1))).run = 0 := by rw [hturn.1]
      have hEl : (edgesFrom 0 (heard f0 (bs.take i))).length ≤ i := by have := edges_len 0 (heard f0 (bs.take i)); omega
      have := b29 (last := (i : Int)) hi hlen hloop true htu.symm (by rw [hrun']; exact Tail.turn) hs
      rw [htu, hout, hrun', hE] at this
      rw [htt, wrap64 _ (by omega)]
      simpa using this
  | d + 1, run, hr0, hrd => by
    have ih := b19 hi hr hlen hf0 hloop hT hs d (run + 1) (by omega) (by omega)
    have hn := hT.next hi
    obtain ⟨hl, hss, hun, he⟩ := hn
    apply S_signalboxlaw54_DebounceHears_19
    unfold B_signalboxlaw54_DebounceHears_19
    rw [mBind_ap]
    rw [decide_eq_true (by omega : (i : Int) - run > last), mIf_true]
    have hu := hun ((i : Int) - run).toNat (by omega) (by omega)
    refine hs.argB hr (by omega) (by omega) ?_
    have := (List.getElem?_eq_some_iff.1 hu).2
    rw [this, mRet_ap]
    refine mIf_pos (by cases (after f0 (bs.take i)).out <;> rfl) ?_
    rw [wrap64 _ (by omega), wrap64 _ (by omega), show (i : Int) - run - 1 = (i : Int) - (run + 1) by omega]
    exact ih
theorem bLoop (hr : RdB h0.size h0 ins bs) (hlen : bs.length ≤ 200) (hf0 : f0.ok) : ∀ (d i : Nat), i + d = bs.length → BLoop h0 b ins outs edges bs f0 i
  | 0, i, hid, h, last, hT, hs => by
    apply S_signalboxlaw54_DebounceHears_15
    unfold B_signalboxlaw54_DebounceHears_15
    have := hr.n
    rw [decide_eq_false (by omega), mIf_false, mRet_ap]
    have hn := hs.rowLen 2 rfl
    rw [List.take_of_length_le (by omega), hn]
    exact ⟨by simp, hs.under⟩
  | d + 1, i, hid, h, last, hT, hs => by
    have ih : BLoop h0 b ins outs edges bs f0 (i + 1) := bLoop hr hlen hf0 d (i + 1) (by omega)
    have hi : i < bs.length := by omega
    apply S_signalboxlaw54_DebounceHears_15
    unfold B_signalboxlaw54_DebounceHears_15
    have := hr.n
    rw [decide_eq_true (by omega), mIf_true]
    refine hs.argB hr (by omega) (by omega) ?_
    rw [show bs[(i : Int).toNat]'(by omega) = bs[i] from rfl]
    have h0S : 0 ≤ newS (after f0 (bs.take i)) bs[i] := by have := (after_ok hf0 (bs.take i)).r; unfold newS; split <;> omega
    have := b19 hi hr hlen hf0 ih hT hs (newS (after f0 (bs.take i)) bs[i]).toNat 0 (by omega) (by omega)
    rw [Int.sub_zero] at this
    exact this
theorem DebounceHears_ok {h : Hp} {ins : Sl} {bs : List Bool} {hold : Int} (hr : RdB h.size h ins bs) (_ : -9223372036854775808 ≤ hold ∧ hold ≤ 9223372036854775807) :
    N_signalboxlaw54_DebounceHears ins hold h (fun v h' => v = .bool true ∧ Under h.size h h') := by
  apply S_signalboxlaw54_DebounceHears
  unfold B_signalboxlaw54_DebounceHears
  rw [mBind_ap]
  refine (bfixed_s (Sep.init h)).mono ?_
  rintro v h1 ⟨rfl, hs⟩
  simp only [unB_bool, Bool.not_true, mIf_false]
  have hn := hr.n
  refine mIf_dec (fun hc => ⟨rfl, hs.under⟩) (fun hc => ?_)
  have rd : ∀ {h1 : Hp} {L : List As}, Sep h h1 L → RdB h1.size h1 ins bs := fun hs => ⟨hn, fun i z hz => by
    obtain ⟨a, g1, g2, g3⟩ := (hr.under hs.under).at_ i z hz
    exact ⟨a, g1, Nat.lt_of_lt_of_le g2 hs.under.size, g3⟩⟩
  rw [mBind_ap]
  cases hb : fltBad hold
  · refine (fNew_s hs hold hb).mono ?_
    rintro v h2 ⟨b, rfl, hs⟩
    simp only [unP_pointer, mBind_ap]
    refine (Outs_s (rd hs) (by omega) hold).mono ?_
    rintro v h3 ⟨os, rfl, hs3⟩
    have hs := hs.rebase hs3
    simp only [unL_slice, mBind_ap, List.cons_append, List.nil_append] at hs ⊢
    refine (Edges_s (rd hs) (by omega) hold).mono ?_
    rintro v h4 ⟨es, rfl, hs4⟩
    have hs := hs.rebase hs4
    simp only [unL_slice, List.cons_append, List.nil_append] at hs ⊢
    refine mIf_neg hb ?_
    have hon := hs.rowLen 1 rfl
    have hfl := flt_ok0 hold hb
    have e1 : outsOf hold bs = (heard ⟨hold, 0, false⟩ bs).map (·.1) := by unfold outsOf; rw [hb]; rfl
    have e2 : edgesOf hold bs = edgesFrom 0 (heard ⟨hold, 0, false⟩ bs) := by unfold edgesOf; rw [hb]; rfl
    rw [e1] at hon
    rw [e1, e2] at hs
    refine mIf_neg (by rw [hon, hn, List.length_map, heard_len]; simp) ?_
    refine bLoop hr (by omega) hfl bs.length 0 (by omega) h4 (-1) ?_ ?_
    · exact ⟨by omega, ⟨by simp [after], by simp [after]⟩, fun k h1 h2 => by omega, .inl (by simp [after])⟩
    · exact hs.perm (by
        refine (List.Perm.swap _ _ _).trans ?_
        refine ((List.Perm.swap _ _ _).cons _).trans ?_
        exact (List.Perm.swap _ _ _))
  · refine (fNew_bad h1 hold hb).mono ?_
    rintro v h2 ⟨rfl, rfl⟩
    simp only [unP_pointer, mBind_ap]
    refine (Outs_s (rd hs) (by omega) hold).mono ?_
    rintro v h3 ⟨os, rfl, hs3⟩
    have hs := hs.rebase hs3
    simp only [unL_slice, mBind_ap, List.cons_append, List.nil_append] at hs ⊢
    refine (Edges_s (rd hs) (by omega) hold).mono ?_
    rintro v h4 ⟨es, rfl, hs4⟩
    have hs := hs.rebase hs4
    simp only [unL_slice, List.cons_append, List.nil_append] at hs ⊢
    refine mIf_pos hb ?_
    have n1 := hs.rowLen 1 rfl
    have n2 := hs.rowLen 0 rfl
    have e1 : outsOf hold bs = [] := by unfold outsOf; rw [hb]; rfl
    have e2 : edgesOf hold bs = [] := by unfold edgesOf; rw [hb]; rfl
    rw [e1] at n1
    rw [e2] at n2
    rw [mBind_ap]
    refine (Hear_nil h4 true).mono ?_
    rintro v h5 ⟨rfl, rfl⟩
    simp only [un2_tuple, unB_bool, Option.isNone_none, Bool.not_false, Bool.and_self, mIf_true, mBind_ap]
    refine (Out_nil h5).mono ?_
    rintro v h6 ⟨rfl, rfl⟩
    simp only [unB_bool, mRet_ap, Bool.not_false, mIf_true, mBind_ap]
    refine (Run_nil h6).mono ?_
    rintro v h7 ⟨rfl, rfl⟩
    simp only [unI_int, mRet_ap]
    rw [n1, n2]
    exact ⟨rfl, hs.under⟩
end hears
end Go.Proofs.Ytkmenmagclojmaa
