/- Frames: the law FramesPlay. Conditions: none. -/
import Derived.Test.YtkoenpliddhhoaaFrameQ
import Derived.Test.YtkoenpliddhhoaaFrameA
import Derived.Test.YtkoenpliddhhoaaSbS
namespace Go.Proofs.Ytkoenpliddhhoaa
open Go Go.Sb

abbrev FFin (h0 : Hp) : Value → Hp → Prop := fun v h' => v = .bool true ∧ Under h0.size h0 h'
theorem frs_get (l : List (Int × Int)) (k : Nat) (hk : k < l.length) : (frs 0 l)[k]? = some ⟨l[k].1, fsum (l.take k), l[k].2⟩ := by
  have : l = l.take k ++ (l[k] :: l.drop (k + 1)) := by rw [← List.drop_eq_getElem_cons hk, List.take_append_drop]
  conv => lhs; rw [this, frs_app]
  rw [List.getElem?_append_right (by rw [frs_len, List.length_take]; omega), frs_len, List.length_take, show k - min k l.length = 0 by omega]
  simp [frs]
section play
variable {h0 : Hp} {b i : Nat} {ls : Sl} {acts : List FrAct} {f : FrAct}
structure FInv (i : Nat) (l : List (Int × Int)) (pk : Int) : Prop where
  ok : FOk l
  n : l.length ≤ i
  pk : fsum l ≤ pk ∧ pk ≤ 4096 * i
def FLoop (h0 : Hp) (b : Nat) (ls : Sl) (i : Nat) : Prop := ∀ (h : Hp) (row : Sl) (l : List (Int × Int)) (pk : Int), FInv i l pk → Sep h0 h [aStk b l pk, aRow Fr.enc 3 row (frs 0 l)] →
  K_signalboxlaw15_FramesPlay_9 (some ⟨b, 0, none⟩) row (fsum l) pk ls (ls.n : Int) (i : Int) h (FFin h0)
theorem f36 (hi : i < 200) (hloop : FLoop h0 b ls (i + 1)) {row out : Sl} {l : List (Int × Int)} {pk : Int} (hI : FInv (i + 1) l pk) : ∀ (d k : Nat) (h : Hp), k + d = l.length → Sep h0 h [aStk b l pk, aRow Fr.enc 3 out (frs 0 l), aRow Fr.enc 3 row (frs 0 l)] →
    K_signalboxlaw15_FramesPlay_36 (some ⟨b, 0, none⟩) row (fsum l) pk (fsum (l.take k)) ls (ls.n : Int) (i : Int) out (out.n : Int) (k : Int) h (FFin h0)
  | 0, k, h, hk, hs => by
    have hn := hs.rowLen 1 rfl
    rw [frs_len] at hn
    apply S_signalboxlaw15_FramesPlay_36
    unfold B_signalboxlaw15_FramesPlay_36
    rw [decide_eq_false (by omega), mIf_false, wrap64 _ (by omega), show (i : Int) + 1 = ((i + 1 : Nat) : Int) by omega]
    exact hloop h row l pk hI hs.swap.drop
  | d + 1, k, h, hk, hs => by
    have ih := f36 hi hloop hI (row := row) (out := out) d (k + 1)
    have hn := hs.rowLen 1 rfl
    rw [frs_len] at hn
    have hkl : k < l.length := by omega
    have h256 := hI.ok.n
    apply S_signalboxlaw15_FramesPlay_36
    unfold B_signalboxlaw15_FramesPlay_36
    rw [decide_eq_true (by omega), mIf_true]
    have hget := frs_get l k hkl
    refine hs.idx 1 rfl (by omega) (by rw [frs_len]; omega) fun a ha => ?_
    refine hs.rldI0 1 rfl (fun _ => rfl) ha hget rfl ?_
    refine hs.rldI 1 rfl (fun _ => rfl) ha hget rfl ?_
    refine hs.rldI 1 rfl (fun _ => rfl) ha hget rfl ?_
    (refine Sep.new hs fun nb h hs => ?_; try simp only [List.toList_toArray] at hs)
    simp only [add_mk, Nat.zero_add]
    (refine Sep.st hs 0 rfl rfl rfl fun h hs => ?_; simp only [List.set_cons_zero, List.set_cons_succ] at hs); (refine Sep.st hs 0 rfl rfl rfl fun h hs => ?_; simp only [List.set_cons_zero, List.set_cons_succ] at hs); (refine Sep.st hs 0 rfl rfl rfl fun h hs => ?_; simp only [List.set_cons_zero, List.set_cons_succ] at hs); refine Sep.ldI hs 0 rfl rfl ?_; refine Sep.ldI hs 0 rfl rfl ?_; refine Sep.ldI hs 0 rfl rfl ?_
    refine hs.idx 3 rfl (by omega) (by rw [frs_len]; omega) fun a2 ha2 => ?_
    refine hs.rldI0 3 rfl (fun _ => rfl) ha2 hget rfl ?_
    refine hs.rldI 3 rfl (fun _ => rfl) ha2 hget rfl ?_
    refine hs.rldI 3 rfl (fun _ => rfl) ha2 hget rfl ?_
    simp only [beq_self_eq_true, Bool.and_self, Bool.not_true, mIf_false, mBind_ap]
    refine Sep.ldI hs 0 rfl rfl ?_
    simp only [bne_self_eq_false, mRet_ap, mIf_false]
    refine Sep.ldI hs 0 rfl rfl ?_; refine Sep.ldI hs 0 rfl rfl ?_
    have e : fsum (l.take (k + 1)) = fsum (l.take k) + l[k].2 := by rw [List.take_succ_eq_append_getElem hkl, fsum_app]; simp [fsum]
    have hb := fsum_b (l.take k) fun x hx => hI.ok.z x (List.mem_of_mem_take hx)
    rw [List.length_take] at hb
    have hz := hI.ok.z l[k] (List.getElem_mem hkl)
    rw [wrap64 _ (by omega), wrap64 _ (by omega), ← e, show (k : Int) + 1 = ((k + 1 : Nat) : Int) by omega]
    exact ih h (by omega) hs.drop
theorem f30 (hi : i < 200) (hloop : FLoop h0 b ls (i + 1)) {row : Sl} {l : List (Int × Int)} {pk : Int} (hI : FInv (i + 1) l pk) {h : Hp} (hs : Sep h0 h [aStk b l pk, aRow Fr.enc 3 row (frs 0 l)]) :
    K_signalboxlaw15_FramesPlay_30 (some ⟨b, 0, none⟩) row (fsum l) pk ls (ls.n : Int) (i : Int) h (FFin h0) := by
  have h256 := hI.ok.n
  apply S_signalboxlaw15_FramesPlay_30
  unfold B_signalboxlaw15_FramesPlay_30
  rw [mBind_ap]
  refine (All_s hs hI.ok).mono ?_
  rintro v h ⟨out, rfl, hs⟩
  simp only [unL_slice, mBind_ap]
  refine (Top_s hs hI.ok).mono ?_
  rintro v h ⟨rfl, hs⟩
  simp only [unT_tuple, unC_cons, unA_agg, unI_int, unB_bool, unE_nil]
  refine hs.new fun t h hs => ?_
  simp only [add_mk, Nat.zero_add]
  (refine Sep.st hs 0 rfl rfl rfl fun h hs => ?_; simp only [List.set_cons_zero, List.set_cons_succ] at hs); (refine Sep.st hs 0 rfl rfl rfl fun h hs => ?_; simp only [List.set_cons_zero, List.set_cons_succ] at hs); (refine Sep.st hs 0 rfl rfl rfl fun h hs => ?_; simp only [List.set_cons_zero, List.set_cons_succ] at hs)
  have n1 := hs.rowLen 2 rfl
  have n2 := hs.rowLen 3 rfl
  have hs := hs.swap
  refine mIf_neg (by rw [n1, n2]; simp) ?_
  rw [mBind_ap]
  refine (Depth_s hs hI.ok).mono ?_
  rintro v h ⟨rfl, hs⟩
  simp only [unI_int, bne_self_eq_false, mIf_false, mBind_ap]
  refine (Peak_s hs).mono ?_
  rintro v h' ⟨rfl, rfl⟩
  simp only [unI_int, bne_self_eq_false, mIf_false]
  rw [frs_len] at n2
  have hs2 := hs.swap.drop
  have last := f36 (row := row) (out := out) hi hloop hI l.length 0 h' (by omega) hs2
  have ht : topB l = decide ((row.n : Int) > 0) := by
    unfold topB; rw [n2]; cases l <;> simp
  refine mIf_neg (by rw [ht]; simp) ?_
  refine mIf_intro (fun hc => ?_) (fun hc => ?_)
  · have hne : l ≠ [] := by rintro rfl; simp [topB] at hc
    obtain ⟨m, x, rfl⟩ := snoc_of l hne
    simp only [List.length_append, List.length_cons, List.length_nil] at n2 h256
    rw [wrap64 _ (by omega)]
    have hget : (frs 0 (m ++ [x]))[((row.n : Int) - 1).toNat]? = some (topF (m ++ [x])) := by
      rw [frs_top, show ((row.n : Int) - 1).toNat = (frs 0 m).length by rw [frs_len]; omega]; simp
    refine hs.idx 3 rfl (by omega) (by rw [frs_len]; simp; omega) fun a ha => ?_
    refine ⟨?_, ?_⟩
    · refine Sep.ldI hs 1 rfl rfl ?_; refine Sep.ldI hs 1 rfl rfl ?_; refine Sep.ldI hs 1 rfl rfl ?_
      refine hs.rldI0 3 rfl (fun _ => rfl) ha hget rfl ?_
      refine hs.rldI 3 rfl (fun _ => rfl) ha hget rfl ?_
      refine hs.rldI 3 rfl (fun _ => rfl) ha hget rfl ?_
      refine mIf_neg (by simp) last
    · refine hs.rldI0 3 rfl (fun _ => rfl) ha hget rfl ?_
      refine hs.rldI 3 rfl (fun _ => rfl) ha hget rfl ?_
      refine hs.rldI 3 rfl (fun _ => rfl) ha hget rfl ?_
      refine Sep.ldI hs 1 rfl rfl ?_; refine Sep.ldI hs 1 rfl rfl ?_; refine Sep.ldI hs 1 rfl rfl ?_
      refine mIf_neg (by simp) last
  · exact ⟨last, last, last⟩
theorem fLoop (hl : RdE h0.size h0 FrAct.enc 3 ls acts) (hlen : acts.length ≤ 200) : ∀ (d i : Nat), i + d = acts.length → FLoop h0 b ls i
  | 0, i, hid, h, row, l, pk, hI, hs => by
    have := hl.n
    apply S_signalboxlaw15_FramesPlay_9
    unfold B_signalboxlaw15_FramesPlay_9
    rw [decide_eq_false (by omega), mIf_false, mBind_ap]
    refine (Push_nil h 1 1).mono ?_
    rintro v h' ⟨rfl, rfl⟩
    simp only [un2_tuple, unI_int, mBind_ap]
    refine (Top_nil hs).mono ?_
    rintro v h ⟨rfl, hs⟩
    simp only [unT_tuple, unC_cons, unA_agg, unI_int, unB_bool, unE_nil]
    (refine Sep.new hs fun nb h hs => ?_; try simp only [List.toList_toArray] at hs)
    simp only [add_mk, Nat.zero_add]
    (refine Sep.st hs 0 rfl rfl rfl fun h hs => ?_; simp only [List.set_cons_zero, List.set_cons_succ] at hs); (refine Sep.st hs 0 rfl rfl rfl fun h hs => ?_; simp only [List.set_cons_zero, List.set_cons_succ] at hs); (refine Sep.st hs 0 rfl rfl rfl fun h hs => ?_; simp only [List.set_cons_zero, List.set_cons_succ] at hs)
    rw [mBind_ap]
    refine mIf_pos rfl ?_
    rw [mBind_ap]
    refine (Pop_nil hs 1).mono ?_
    rintro v h ⟨rfl, hs⟩
    simp only [unI_int, mRet_ap, beq_self_eq_true, mIf_true, mBind_ap]
    refine (Depth_nil hs).mono ?_
    rintro v h ⟨rfl, hs⟩
    simp only [unI_int, mBind_ap]
    refine (Peak_nil h).mono ?_
    rintro v h' ⟨rfl, rfl⟩
    simp only [unI_int, mBind_ap]
    refine (All_nil h').mono ?_
    rintro v h' ⟨rfl, rfl⟩
    exact ⟨rfl, hs.under⟩
  | d + 1, i, hid, h, row, l, pk, hI, hs => by
    have ih : FLoop h0 b ls (i + 1) := fLoop hl hlen d (i + 1) (by omega)
    have hi : i < 200 := by omega
    have hln := hl.n
    obtain ⟨hok, hnl, hpk⟩ := hI
    have hb := fsum_b l hok.z
    have hrn := hs.rowLen 1 rfl
    rw [frs_len] at hrn
    apply S_signalboxlaw15_FramesPlay_9
    unfold B_signalboxlaw15_FramesPlay_9
    rw [decide_eq_true (by omega), mIf_true]
    refine hs.argE hl (by omega) (by omega) fun a ha => ?_
    generalize acts[(i : Int).toNat]'(by omega) = f at ha
    refine mLdB_of (by have := ha 0 _ rfl; rwa [Addr.add_zero'] at this) ?_
    refine mLdI_of (ha 1 _ rfl) ?_
    refine mLdI_of (ha 2 _ rfl) ?_
    (refine Sep.new hs fun nb h hs => ?_; try simp only [List.toList_toArray] at hs)
    simp only [add_mk, Nat.zero_add]
    (refine Sep.st hs 0 rfl rfl rfl fun h hs => ?_; simp only [List.set_cons_zero, List.set_cons_succ] at hs); (refine Sep.st hs 0 rfl rfl rfl fun h hs => ?_; simp only [List.set_cons_zero, List.set_cons_succ] at hs); (refine Sep.st hs 0 rfl rfl rfl fun h hs => ?_; simp only [List.set_cons_zero, List.set_cons_succ] at hs); refine Sep.ldB hs 0 rfl rfl ?_
    have keep : FInv (i + 1) l pk := ⟨hok, by omega, by omega⟩
    refine mIf_intro (fun hc => ?_) (fun hc => ?_)
    · -- a frame is popped
      by_cases hl0 : l = []
      · subst hl0
        refine mIf_pos (by rw [hrn]; rfl) ?_
        refine Sep.ldI hs 0 rfl rfl ?_
        rw [mBind_ap]
        refine (Pop_s hs.drop hok f.who).mono ?_
        rintro v h ⟨rfl, hs⟩
        exact f30 hi ih keep hs
      · obtain ⟨m, x, rfl⟩ := snoc_of l hl0
        have htop := topF_snoc m x
        simp only [List.length_append, List.length_cons, List.length_nil] at hrn hnl
        refine mIf_neg (by rw [hrn]; simp; omega) ?_
        rw [wrap64 _ (by omega)]
        have hget : (frs 0 (m ++ [x]))[((row.n : Int) - 1).toNat]? = some (topF (m ++ [x])) := by
          rw [frs_top, show ((row.n : Int) - 1).toNat = (frs 0 m).length by rw [frs_len]; omega]; simp
        refine hs.idx 2 rfl (by omega) (by rw [frs_len]; simp; omega) fun a ha => ?_
        refine hs.rldI0 2 rfl (fun _ => rfl) ha hget rfl ?_
        refine Sep.ldI hs 0 rfl rfl ?_
        refine mIf_intro (fun hd => ?_) (fun hd => ?_)
        · have hd : ¬ (topF (m ++ [x])).who = f.who := by simpa using hd
          refine Sep.ldI hs 0 rfl rfl ?_
          rw [mBind_ap]
          refine (Pop_s hs.drop hok f.who).mono ?_
          rintro v h ⟨rfl, hs⟩
          have e1 : popE (m ++ [x]) f.who = 9 := by unfold popE; rw [if_neg hl0, if_neg hd]
          have e2 : popL (m ++ [x]) f.who = m ++ [x] := by unfold popL; rw [if_neg hl0, if_neg hd]
          rw [e1]
          rw [e2] at hs
          exact f30 hi ih keep hs
        · have hd : (topF (m ++ [x])).who = f.who := by simpa using hd
          refine hs.idx 2 rfl (by omega) (by rw [frs_len]; simp; omega) fun a ha => ?_
          refine hs.rldI 2 rfl (fun _ => rfl) ha hget rfl ?_
          refine hs.slc 2 rfl (fun _ => rfl) (by omega) (by omega) (by rw [frs_len]; simp; omega) rfl fun row' hn' hs => ?_
          simp only [List.set_cons_zero, List.set_cons_succ] at hs
          have e : List.drop (Int.toNat 0) (List.take ((row.n : Int) - 1).toNat (frs 0 (m ++ [x]))) = frs 0 m := by
            rw [frs_top, show ((row.n : Int) - 1).toNat = (frs 0 m).length by rw [frs_len]; omega]; simp
          rw [e] at hs
          refine Sep.ldI hs 0 rfl rfl ?_
          rw [mBind_ap]
          refine (Pop_s hs.drop hok f.who).mono ?_
          rintro v h ⟨rfl, hs⟩
          have e1 : popE (m ++ [x]) f.who = 0 := by unfold popE; rw [if_neg hl0, if_pos hd]
          have e2 : popL (m ++ [x]) f.who = m := by unfold popL; rw [if_neg hl0, if_pos hd, List.dropLast_concat]
          rw [e1]
          rw [e2] at hs
          rw [htop]
          simp only [unI_int, bne_self_eq_false, mIf_false]
          have hx := hok.z x (by simp)
          have hfs : fsum (m ++ [x]) = fsum m + x.2 := by rw [fsum_app]; simp [fsum]
          exact f30 hi ih ⟨⟨by have := hok.n; simp at this; omega, fun y hy => hok.z y (by simp [hy])⟩, by omega, by omega⟩ hs
    · -- a frame is pushed
      refine Sep.ldI hs 0 rfl rfl ?_; refine Sep.ldI hs 0 rfl rfl ?_
      rw [mBind_ap]
      cases hz : pushBad f.size
      · have hz' : 0 ≤ f.size ∧ f.size ≤ 4096 := by unfold pushBad at hz; simp at hz; omega
        refine (Push_s hs.swap hok f.who f.size hz (by omega) hpk.1).mono ?_
        rintro v h ⟨rfl, hs⟩
        have hs := hs.swap
        simp only [un2_tuple, unI_int]
        refine Sep.ldI hs 0 rfl rfl ?_
        rw [mBind_ap]
        refine mIf_neg (by rw [decide_eq_false]; omega) ?_
        refine Sep.ldI hs 0 rfl rfl ?_
        rw [mRet_ap]
        refine mIf_neg (by rw [decide_eq_false]; omega) ?_
        simp only [bne_self_eq_false, Bool.or_self, mIf_false]
        refine Sep.ldI hs 0 rfl rfl ?_; refine Sep.ldI hs 0 rfl rfl ?_; (refine Sep.new hs fun nb h hs => ?_; try simp only [List.toList_toArray] at hs)
        refine hs.app1 3 0 ⟨f.who, fsum l, f.size⟩ rfl rfl (fun _ => rfl) (by simp [Fr.enc, Value.oneCell']) rfl (by omega) (by rw [frs_len]; have := hok.n; omega) fun row' h hn' hs => ?_
        simp only [List.set_cons_zero, List.set_cons_succ] at hs
        refine Sep.ldI hs 1 rfl rfl ?_
        have e1 : frs 0 l ++ [(⟨f.who, fsum l, f.size⟩ : Fr)] = frs 0 (l ++ [(f.who, f.size)]) := by rw [frs_app]; simp [frs]
        have e2 : fsum (l ++ [(f.who, f.size)]) = fsum l + f.size := by rw [fsum_app]; simp [fsum]
        rw [e1] at hs
        have hw : IntKind.i64.wrap (fsum l + f.size) = fsum (l ++ [(f.who, f.size)]) := by rw [e2, wrap64 _ (by omega)]
        have hm : (if fsum (l ++ [(f.who, f.size)]) > pk then fsum (l ++ [(f.who, f.size)]) else pk) = max pk (fsum l + f.size) := by rw [e2]; omega
        rw [hw, hm]
        refine f30 hi ih ⟨⟨by simp; omega, fun x hx => ?_⟩, by simp; omega, by omega⟩ hs.drop.drop
        rcases List.mem_append.1 hx with hx | hx
        · exact hok.z x hx
        · simp only [List.mem_singleton] at hx; subst hx; exact hz'
      · refine (Push_bad h b f.who f.size hz).mono ?_
        rintro v h' ⟨rfl, rfl⟩
        simp only [un2_tuple, unI_int]
        refine Sep.ldI hs 0 rfl rfl ?_
        have hz' : f.size < 0 ∨ f.size > 4096 := by unfold pushBad at hz; simpa using hz
        rw [mBind_ap]
        refine mIf_dec (fun h1 => ?_) (fun h1 => ?_)
        · rw [mRet_ap, mIf_true]
          exact mIf_neg rfl (f30 hi ih keep hs.drop)
        · refine Sep.ldI hs 0 rfl rfl ?_
          rw [mRet_ap]
          refine mIf_pos (by rw [decide_eq_true]; omega) ?_
          exact mIf_neg rfl (f30 hi ih keep hs.drop)
theorem FramesPlay_ok {h : Hp} {ls : Sl} {acts : List FrAct} (hl : RdE h.size h FrAct.enc 3 ls acts) (_ : ∀ x ∈ acts, x.ok) : N_signalboxlaw15_FramesPlay ls h (fun v h' => v = .bool true ∧ Under h.size h h') := by
  apply S_signalboxlaw15_FramesPlay
  unfold B_signalboxlaw15_FramesPlay
  rw [mBind_ap]
  refine (ffixed_s (Sep.init h)).mono ?_
  rintro v h1 ⟨rfl, hs⟩
  simp only [unB_bool, Bool.not_true, mIf_false]
  have hln := hl.n
  refine mIf_dec (fun hc => ⟨rfl, hs.under⟩) (fun hc => ?_)
  rw [mBind_ap]
  refine (sNew_s hs).mono ?_
  rintro v h2 ⟨b, rfl, hs⟩
  simp only [unP_pointer]
  exact fLoop hl (by omega) acts.length 0 (by omega) h2 ⟨none, 0, 0⟩ [] 0 ⟨⟨by simp, by simp⟩, by simp, by simp [fsum]⟩ (hs.nilRow Fr.enc 3).swap
end play
end Go.Proofs.Ytkoenpliddhhoaa
