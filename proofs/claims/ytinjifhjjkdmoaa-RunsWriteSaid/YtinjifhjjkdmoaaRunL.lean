/- Rows in fewer bytes: what each call answers. Conditions: none. -/
import Derived.Test.YtinjifhjjkdmoaaRunM
import Derived.Test.YtinjifhjjkdmoaaSbW
import Derived.Test.YtinjifhjjkdmoaaSbX
import Derived.Test.YtinjifhjjkdmoaaSbY
import Derived.Test.YtinjifhjjkdmoaaRunP
import Derived.Laws.Externs
import Derived.Lib.MakeNoZero
namespace Go.Proofs.Ytinjifhjjkdmoaa
open Go Go.Sb
set_option linter.unusedSimpArgs false
set_option linter.unusedVariables false
abbrev encU : Int → List Value := fun z => [.int .u8 z]
abbrev encV : Value → List Value := fun v => [v]
section
variable {h0 h : Hp} {R : List As} {B : Nat} {s x : Sl} {c : Int} {l zs : List Int}
theorem u8wf (z : Int) : (IntKind.u8.min ≤ z ∧ z ≤ IntKind.u8.max) ↔ (0 ≤ z ∧ z ≤ 255) := by
  rw [show IntKind.u8.min = 0 by decide, show IntKind.u8.max = 255 by decide]
theorem eqs0 (c : Int) (l : List Int) : eqs c l 0 = 0 := by cases l <;> rfl
theorem lits0 (l : List Int) : lits l 0 = 0 := by cases l <;> rfl
theorem stretch2 (hr : RdI B h .u8 s (c :: l)) (hn : (c :: l).length ≤ 1000000000000) : ∀ (d n : Nat), n + d = 130 → n ≤ (c :: l).length →
    K_runs_stretch_2 s (n : Int) h (fun v h' => v = .int .i64 ((n + eqs c ((c :: l).drop n) d : Nat) : Int) ∧ h' = h)
  | 0, n, hd, hl => by
    apply S_runs_stretch_2
    unfold B_runs_stretch_2
    rw [mBind_ap, show (decide ((n : Int) < (130 : Int))) = false by simp; omega, Bool.and_false, mIf_false, mRet_ap, mIf_false, eqs0]
    exact ⟨rfl, rfl⟩
  | d + 1, n, hd, hl => by
    have ih := stretch2 hr hn d (n + 1) (by omega)
    have hsn := hr.n
    apply S_runs_stretch_2
    unfold B_runs_stretch_2
    rw [mBind_ap, show (decide ((n : Int) < (130 : Int))) = true by simp; omega, Bool.and_true]
    by_cases hlt : n < (c :: l).length
    · rw [decide_eq_true (by omega), mIf_true]
      refine hr.ix hlt ?_
      refine hr.ix (j := 0) (by simp) ?_
      rw [mRet_ap, List.drop_eq_getElem_cons hlt]
      unfold eqs
      refine mIf_intro (fun hc => ?_) (fun hc => ?_)
      · rw [if_pos (by simpa using hc), wrap64 _ (by omega), show ((n : Int) + 1) = ((n + 1 : Nat) : Int) by omega]
        refine (ih (by omega)).mono ?_
        rintro v h' ⟨rfl, rfl⟩
        exact ⟨by congr 1; omega, rfl⟩
      · rw [if_neg (by simpa using hc)]
        exact ⟨rfl, rfl⟩
    · rw [decide_eq_false (by omega), mIf_false, mRet_ap, mIf_false, List.drop_of_length_le (by omega)]
      exact ⟨rfl, rfl⟩
theorem stretch_s (hr : RdI B h .u8 s (c :: l)) (hn : (c :: l).length ≤ 1000000000000) : N_runs_stretch s h (fun v h' => v = .int .i64 (alike (c :: l) : Int) ∧ h' = h) := by
  apply S_runs_stretch
  unfold B_runs_stretch
  refine (stretch2 hr hn 129 1 rfl (by simp)).mono ?_
  rintro v h' ⟨rfl, rfl⟩
  refine ⟨?_, rfl⟩
  congr 1
  show ((1 + _ : Nat) : Int) = ((eqs c (c :: l) 130 : Nat) : Int)
  rw [show eqs c (c :: l) 130 = eqs c l 129 + 1 from if_pos rfl, List.drop_succ_cons, List.drop_zero]
  omega
theorem alike2 (hr : RdI B h .u8 s zs) (hn : zs.length ≤ 1000000000000) : ∀ (d n : Nat), n + d = 130 → n ≤ zs.length → zs ≠ [] →
    K_signalboxref53_alike_2 s (n : Int) h (fun v h' => v = .int .i64 ((n + eqs (zs.headD 0) (zs.drop n) d : Nat) : Int) ∧ h' = h)
  | 0, n, hd, hl, hne => by
    apply S_signalboxref53_alike_2
    unfold B_signalboxref53_alike_2
    rw [mBind_ap, show (decide ((n : Int) < (130 : Int))) = false by simp; omega, Bool.and_false, mIf_false, mRet_ap, mIf_false, eqs0]
    exact ⟨rfl, rfl⟩
  | d + 1, n, hd, hl, hne => by
    have ih := alike2 hr hn d (n + 1) (by omega)
    have hsn := hr.n
    have hlen : 0 < zs.length := List.length_pos_iff.2 hne
    apply S_signalboxref53_alike_2
    unfold B_signalboxref53_alike_2
    rw [mBind_ap, show (decide ((n : Int) < (130 : Int))) = true by simp; omega, Bool.and_true]
    by_cases hlt : n < zs.length
    · rw [decide_eq_true (by omega), mIf_true]
      refine hr.ix hlt ?_
      refine hr.ix (j := 0) hlen ?_
      rw [mRet_ap, List.drop_eq_getElem_cons hlt]
      have hd0 : zs[0] = zs.headD 0 := by
        cases zs with
        | nil => exact absurd rfl hne
        | cons z l => rfl
      rw [hd0]
      unfold eqs
      refine mIf_intro (fun hc => ?_) (fun hc => ?_)
      · rw [if_pos (by simpa using hc), wrap64 _ (by omega), show ((n : Int) + 1) = ((n + 1 : Nat) : Int) by omega]
        refine (ih (by omega) hne).mono ?_
        rintro v h' ⟨rfl, rfl⟩
        exact ⟨by congr 1; omega, rfl⟩
      · rw [if_neg (by simpa using hc)]
        exact ⟨rfl, rfl⟩
    · rw [decide_eq_false (by omega), mIf_false, mRet_ap, mIf_false, List.drop_of_length_le (by omega)]
      exact ⟨rfl, rfl⟩
theorem alike_s (hr : RdI B h .u8 s zs) (hn : zs.length ≤ 1000000000000) (hne : zs ≠ []) : N_signalboxref53_alike s h (fun v h' => v = .int .i64 (alike zs : Int) ∧ h' = h) := by
  apply S_signalboxref53_alike
  unfold B_signalboxref53_alike
  refine (alike2 hr hn 130 0 rfl (by omega) hne).mono ?_
  rintro v h' ⟨rfl, rfl⟩
  refine ⟨?_, rfl⟩
  congr 1
  cases zs with
  | nil => exact absurd rfl hne
  | cons z l =>
    rw [List.drop_zero, Nat.zero_add]
    rfl
theorem rest2 (hr : RdI B h .u8 s zs) (hcap : s.n ≤ s.c) (hn : zs.length ≤ 1000000000000) : ∀ (d n : Nat), zs.length ≤ n + d → n ≤ 129 → n ≤ zs.length →
    K_runs_rest_2 s (n : Int) h (fun v h' => v = .int .i64 ((if n = 129 then 128 else n + lits (zs.drop n) (128 - n) : Nat) : Int) ∧ h' = h) := by
  have stop : ∀ n : Nat, n ≤ 129 → n ≤ zs.length → ¬ (n < zs.length ∧ n < 128) → (mRet (.int .i64 (if (128 : Int) < (n : Int) then (128 : Int) else (n : Int))) : M Value) h (fun v h' => v = .int .i64 ((if n = 129 then 128 else n + lits (zs.drop n) (128 - n) : Nat) : Int) ∧ h' = h) := by
    intro n h1 h2 h3
    refine ⟨?_, rfl⟩
    congr 1
    by_cases h4 : n = 129
    · subst h4; rfl
    · rw [if_neg h4, if_neg (by omega)]
      by_cases h5 : n = 128
      · subst h5; rw [lits0]
      · rw [List.drop_of_length_le (by omega)]; simp [lits]
  intro d
  induction d with
  | zero =>
    intro n hd h1 h2
    have hsn := hr.n
    apply S_runs_rest_2
    unfold B_runs_rest_2
    refine mIf_neg (by simp; omega) ?_
    exact stop n h1 h2 (by omega)
  | succ d ih =>
    intro n hd h1 h2
    have hsn := hr.n
    apply S_runs_rest_2
    unfold B_runs_rest_2
    by_cases hlt : n < zs.length ∧ n < 128
    · refine mIf_pos (by simp; omega) ?_
      refine hr.slc hcap (by omega) (by omega) (by omega) rfl fun x hx _ => ?_
      rw [show ((s.n : Int)).toNat = zs.length by omega, List.take_length, Int.toNat_natCast] at hx
      obtain ⟨y, l', hyl⟩ : ∃ y l', zs.drop n = y :: l' := by
        rw [List.drop_eq_getElem_cons hlt.1]; exact ⟨_, _, rfl⟩
      rw [hyl] at hx
      have hll : (zs.drop n).length = zs.length - n := List.length_drop
      have hyll : l'.length + 1 = zs.length - n := by rw [← hll, hyl]; rfl
      have hd1 : zs.drop (n + 1) = l' := by rw [← List.drop_drop, hyl]; rfl
      rw [mBind_ap]
      refine (stretch_s hx (by simp; omega)).mono ?_
      rintro v h' ⟨rfl, rfl⟩
      simp only [unI_int]
      have hp := alike_pos y l'
      have hal := (alike_le (y :: l')).2
      simp only [List.length_cons] at hal
      rw [hyl]
      refine mIf_dec (fun hc => ?_) (fun hc => ?_)
      · rw [if_neg (by omega), if_neg (by omega)]
        refine ⟨?_, rfl⟩
        rw [show 128 - n = (127 - n) + 1 by omega, lits, if_neg (by omega)]
        rfl
      · rw [wrap64 _ (by omega), show ((n : Int) + (alike (y :: l') : Int)) = ((n + alike (y :: l') : Nat) : Int) by omega]
        refine (ih _ (by omega) (by omega) (by omega)).mono ?_
        rintro v h' ⟨rfl, rfl⟩
        refine ⟨?_, rfl⟩
        congr 2
        rw [if_neg (show ¬ n = 129 by omega), show 128 - n = (127 - n) + 1 by omega, lits, if_pos (show alike (y :: l') < 3 by omega)]
        rcases (by omega : alike (y :: l') = 1 ∨ alike (y :: l') = 2) with h3 | h3
        · rw [h3, if_neg (by omega), hd1, show 128 - (n + 1) = 127 - n by omega]
          omega
        · rw [h3]
          obtain ⟨l'', hl, h4⟩ := alike_two h3
          have hd2 : zs.drop (n + 2) = l'' := by rw [show n + 2 = n + 1 + 1 by omega, ← List.drop_drop, hd1, hl]; rfl
          by_cases h5 : n = 127
          · subst h5
            rw [if_pos rfl, lits0]
          · rw [if_neg (by omega), hd2, hl, show 127 - n = (126 - n) + 1 by omega, lits, if_pos (by rw [← hl]; omega), show 128 - (n + 2) = 126 - n by omega]
            omega
    · refine mIf_neg (by simp; omega) ?_
      exact stop n h1 h2 hlt
theorem rest_s (hr : RdI B h .u8 s zs) (hcap : s.n ≤ s.c) (hn : zs.length ≤ 1000000000000) : N_runs_rest s h (fun v h' => v = .int .i64 (lits zs 128 : Int) ∧ h' = h) := by
  apply S_runs_rest
  unfold B_runs_rest
  refine (rest2 hr hcap hn zs.length 0 (by omega) (by omega) (by omega)).mono ?_
  rintro v h' ⟨rfl, rfl⟩
  exact ⟨by simp, rfl⟩
theorem by_run {a : Nat} (h3 : 3 ≤ a) (h1 : a ≤ 130) : IntKind.u8.wrap (IntKind.i64.wrap (IntKind.i64.wrap ((128 : Int) + (a : Int)) - 3)) = 125 + (a : Int) := by
  rw [wrap64 (128 + (a : Int)) (by omega), wrap64 _ (by omega), wrapu8 _ (by omega)]; omega
theorem by_lit {n : Nat} (h3 : 1 ≤ n) (h1 : n ≤ 128) : IntKind.u8.wrap (IntKind.i64.wrap ((n : Int) - 1)) = (n : Int) - 1 := by
  rw [wrap64 _ (by omega), wrapu8 _ (by omega)]
theorem wr_nil (f : Nat) : wr f [] = [] := by cases f <;> rfl
theorem write2 : ∀ (f : Nat) (zs : List Int) (s out : Sl) (ws : List Int) (h : Hp), zs.length ≤ f → RdI h0.size h0 .u8 s zs → s.n ≤ s.c → ws.length + 2 * zs.length ≤ 1000000000000 → Sep h0 h [aRow encU 1 out ws] →
    K_runs_Write_2 s out h (fun v h' => ∃ o : Sl, v = .slice o.p o.n o.c ∧ Sep h0 h' [aRow encU 1 o (ws ++ wr f zs)])
  | f, [], s, out, ws, h, hf, hr, hcap, hroom, hs => by
    have hsn : s.n = 0 := hr.n
    apply S_runs_Write_2
    unfold B_runs_Write_2
    refine mIf_neg (by rw [hsn]; rfl) ?_
    exact ⟨out, rfl, by rw [wr_nil, List.append_nil]; exact hs⟩
  | 0, y :: l, s, out, ws, h, hf, hr, hcap, hroom, hs => by simp at hf
  | f + 1, y :: l, s, out, ws, h, hf, hr, hcap, hroom, hs => by
    have ih := fun zs s out ws h => write2 f zs s out ws h
    have hsn : s.n = l.length + 1 := hr.n
    have hln : (y :: l).length = l.length + 1 := rfl
    rw [hln] at hf hroom
    have hy := (u8wf y).1 (hr.wf y (by simp))
    have ha := alike_le (y :: l)
    have hp := alike_pos y l
    apply S_runs_Write_2
    unfold B_runs_Write_2
    refine mIf_pos (by simp; omega) ?_
    rw [mBind_ap]
    refine (stretch_s (hr.under hs.under) (by omega)).mono ?_
    rintro v h ⟨rfl, rfl⟩
    simp only [unI_int]
    unfold wr
    generalize hA : alike (y :: l) = a at *
    refine mIf_dec (fun hc => ?_) (fun hc => ?_)
    · have h3 : 3 ≤ a := by omega
      rw [if_pos h3]
      refine (hr.under hs.under).ix (j := 0) (by simp) ?_
      rw [by_run h3 ha.1]
      show mNew _ _ _ _ _
      refine Sep.new hs fun nb h hs => ?_
      have hI : RdI h.size h .u8 ⟨some ⟨nb, 0, none⟩, 2, 2⟩ [125 + (a : Int), y] := hs.blkI 0 rfl (by intro z hz; rw [u8wf]; simp at hz; omega) rfl
      refine hs.appI 1 rfl hI rfl (by omega) (by simp; omega) fun o h hn hs => ?_
      refine hr.slc hcap (by omega) (by omega) (by omega) rfl fun x hx hxc => ?_
      rw [show ((s.n : Int)).toNat = (y :: l).length by omega, List.take_length, Int.toNat_natCast] at hx
      refine (ih _ x o _ h (by rw [List.length_drop]; omega) hx hxc (by rw [List.length_append, List.length_drop]; simp; omega) hs.drop).mono ?_
      rintro v h' ⟨o, rfl, hs⟩
      refine ⟨o, rfl, ?_⟩
      simpa using hs
    · have h3 : ¬ 3 ≤ a := by omega
      rw [if_neg h3, mBind_ap]
      refine (rest_s (hr.under hs.under) hcap (by omega)).mono ?_
      rintro v h ⟨rfl, rfl⟩
      simp only [unI_int]
      have hl := lits_le (y :: l) 128
      have hp := lits_pos (x := y) (l := l) (by omega)
      generalize lits (y :: l) 128 = n at *
      rw [hln] at hl
      refine hr.slc hcap (by omega) (by omega) (by omega) rfl fun xl hxl hxlc => ?_
      rw [Int.toNat_natCast, show (0 : Int).toNat = 0 from rfl, List.drop_zero] at hxl
      rw [by_lit hp hl.1]
      refine Sep.new hs fun nb h hs => ?_
      have hI : RdI h.size h .u8 ⟨some ⟨nb, 0, none⟩, 1, 1⟩ [(n : Int) - 1] := hs.blkI 0 rfl (by intro z hz; rw [u8wf]; simp at hz; omega) rfl
      refine hs.appI 1 rfl hI rfl (by omega) (by simp; omega) fun o h hn hs => ?_
      refine hs.appI 1 rfl (hxl.under hs.under) rfl (by omega) (by simp; omega) fun o h hn hs => ?_
      refine hr.slc hcap (by omega) (by omega) (by omega) rfl fun x hx hxc => ?_
      rw [show ((s.n : Int)).toNat = (y :: l).length by omega, List.take_length, Int.toNat_natCast] at hx
      refine (ih _ x o _ h (by rw [List.length_drop]; omega) hx hxc (by simp only [List.length_append, List.length_drop, List.length_take]; simp; omega) hs.drop).mono ?_
      rintro v h' ⟨o, rfl, hs⟩
      refine ⟨o, rfl, ?_⟩
      simpa using hs
theorem Write_s (hr : RdI h.size h .u8 s zs) (hcap : s.n ≤ s.c) (hn : zs.length ≤ 100000000000) : N_runs_Write s h (fun v h' => ∃ o : Sl, v = .slice o.p o.n o.c ∧ Sep h h' [aRow encU 1 o (wr zs.length zs)]) := by
  apply S_runs_Write
  unfold B_runs_Write
  exact write2 zs.length zs s _ [] h (Nat.le_refl _) hr hcap (by simp; omega) ((Sep.init h).nilRow _ _)
/-! the document's -/
theorem refWrite2 : ∀ (f : Nat) (zs : List Int) (s out : Sl) (ws : List Int) (h : Hp), zs.length ≤ f → RdI h0.size h0 .u8 s zs → s.n ≤ s.c → ws.length + 2 * zs.length ≤ 1000000000000 → Sep h0 h [aRow encU 1 out ws] →
    K_signalboxref53_Write_2 s out h (fun v h' => ∃ o : Sl, v = .slice o.p o.n o.c ∧ Sep h0 h' [aRow encU 1 o (ws ++ wr f zs)])
  | f, [], s, out, ws, h, hf, hr, hcap, hroom, hs => by
    have hsn : s.n = 0 := hr.n
    apply S_signalboxref53_Write_2
    unfold B_signalboxref53_Write_2
    refine mIf_neg (by rw [hsn]; rfl) ?_
    exact ⟨out, rfl, by rw [wr_nil, List.append_nil]; exact hs⟩
  | 0, y :: l, s, out, ws, h, hf, hr, hcap, hroom, hs => by simp at hf
  | f + 1, y :: l, s, out, ws, h, hf, hr, hcap, hroom, hs => by
    have ih := fun zs s out ws h => refWrite2 f zs s out ws h
    have hsn : s.n = l.length + 1 := hr.n
    have hln : (y :: l).length = l.length + 1 := rfl
    rw [hln] at hf hroom
    have hy := (u8wf y).1 (hr.wf y (by simp))
    have ha := alike_le (y :: l)
    have hp := alike_pos y l
    apply S_signalboxref53_Write_2
    unfold B_signalboxref53_Write_2
    refine mIf_pos (by simp; omega) ?_
    rw [mBind_ap]
    refine (alike_s (hr.under hs.under) (by omega) (by simp)).mono ?_
    rintro v h ⟨rfl, rfl⟩
    simp only [unI_int]
    unfold wr
    refine mIf_dec (fun hc => ?_) (fun hc => ?_)
    · generalize hA : alike (y :: l) = a at *
      have h3 : 3 ≤ a := by omega
      rw [if_pos h3]
      refine (hr.under hs.under).ix (j := 0) (by simp) ?_
      rw [by_run h3 ha.1]
      refine Sep.new hs fun nb h hs => ?_
      have hI : RdI h.size h .u8 ⟨some ⟨nb, 0, none⟩, 2, 2⟩ [125 + (a : Int), y] := hs.blkI 0 rfl (by intro z hz; rw [u8wf]; simp at hz; omega) rfl
      refine hs.appI 1 rfl hI rfl (by omega) (by simp; omega) fun o h hn hs => ?_
      refine hr.slc hcap (by omega) (by omega) (by omega) rfl fun x hx hxc => ?_
      rw [show ((s.n : Int)).toNat = (y :: l).length by omega, List.take_length, Int.toNat_natCast] at hx
      refine (ih _ x o _ h (by rw [List.length_drop]; omega) hx hxc (by rw [List.length_append, List.length_drop]; simp; omega) hs.drop).mono ?_
      rintro v h' ⟨o, rfl, hs⟩
      refine ⟨o, rfl, ?_⟩
      simpa using hs
    · have h3 : ¬ 3 ≤ alike (y :: l) := by omega
      rw [if_neg h3]
      have hl := lits_le (y :: l) 128
      have hp1 := lits_pos (x := y) (l := l) (by omega)
      have loop : ∀ (d n : Nat) (h : Hp), n + d = 128 → n ≤ (y :: l).length → n + lits ((y :: l).drop n) d = lits (y :: l) 128 → Sep h0 h [aRow encU 1 out ws] →
          K_signalboxref53_Write_8 s out (n : Int) h (fun v h' => ∃ o : Sl, v = .slice o.p o.n o.c ∧ Sep h0 h' [aRow encU 1 o (ws ++ ((lits (y :: l) 128 : Int) - 1) :: ((y :: l).take (lits (y :: l) 128) ++ wr f ((y :: l).drop (lits (y :: l) 128))))]) := by
        have stop : ∀ (n : Nat) (h : Hp), n = lits (y :: l) 128 → Sep h0 h [aRow encU 1 out ws] →
            (mSlc s 1 (0 : Int) (n : Int) (s.c : Int) fun (x51 : Sl) =>
              mNew #[.int .u8 (IntKind.u8.wrap (IntKind.i64.wrap ((n : Int) - (1 : Int))))] 5 fun (x47 : Addr) =>
              mApp 5 1 1 #[.int .u8 (0 : Int)] out ⟨(some x47), 1, 1⟩ fun (x48 : Sl) =>
              mApp 5 1 1 #[.int .u8 (0 : Int)] x48 x51 fun (x52 : Sl) =>
              mSlc s 1 (n : Int) (s.n : Int) (s.c : Int) fun (x55 : Sl) =>
              K_signalboxref53_Write_2 x55 x52) h (fun v h' => ∃ o : Sl, v = .slice o.p o.n o.c ∧ Sep h0 h' [aRow encU 1 o (ws ++ ((lits (y :: l) 128 : Int) - 1) :: ((y :: l).take (lits (y :: l) 128) ++ wr f ((y :: l).drop (lits (y :: l) 128))))]) := by
          intro n h he hs
          rw [← he] at hl hp1 ⊢
          rw [hln] at hl
          refine hr.slc hcap (by omega) (by omega) (by omega) rfl fun xl hxl hxlc => ?_
          rw [Int.toNat_natCast, show (0 : Int).toNat = 0 from rfl, List.drop_zero] at hxl
          rw [by_lit hp1 hl.1]
          refine Sep.new hs fun nb h hs => ?_
          have hI : RdI h.size h .u8 ⟨some ⟨nb, 0, none⟩, 1, 1⟩ [(n : Int) - 1] := hs.blkI 0 rfl (by intro z hz; rw [u8wf]; simp at hz; omega) rfl
          refine hs.appI 1 rfl hI rfl (by omega) (by simp; omega) fun o h hn hs => ?_
          refine hs.appI 1 rfl (hxl.under hs.under) rfl (by omega) (by simp; omega) fun o h hn hs => ?_
          refine hr.slc hcap (by omega) (by omega) (by omega) rfl fun x hx hxc => ?_
          rw [show ((s.n : Int)).toNat = (y :: l).length by omega, List.take_length, Int.toNat_natCast] at hx
          refine (ih _ x o _ h (by rw [List.length_drop]; omega) hx hxc (by simp only [List.length_append, List.length_drop, List.length_take]; simp; omega) hs.drop).mono ?_
          rintro v h' ⟨o, rfl, hs⟩
          refine ⟨o, rfl, ?_⟩
          simpa using hs
        intro d
        induction d with
        | zero =>
          intro n h hd hnl he hs
          apply S_signalboxref53_Write_8
          unfold B_signalboxref53_Write_8
          rw [mBind_ap, show (decide ((n : Int) < (128 : Int))) = false by simp; omega, Bool.and_false, mIf_false, mRet_ap, mIf_false]
          exact stop n h (by rw [lits0] at he; omega) hs
        | succ d ihd =>
          intro n h hd hnl he hs
          apply S_signalboxref53_Write_8
          unfold B_signalboxref53_Write_8
          rw [mBind_ap, show (decide ((n : Int) < (128 : Int))) = true by simp; omega, Bool.and_true]
          by_cases hlt : n < (y :: l).length
          · rw [decide_eq_true (by omega), mIf_true]
            refine hr.slc hcap (by omega) (by omega) (by omega) rfl fun x hx hxc => ?_
            rw [show ((s.n : Int)).toNat = (y :: l).length by omega, List.take_length, Int.toNat_natCast] at hx
            rw [mBind_ap]
            refine (alike_s (hx.under hs.under) (by rw [List.length_drop]; omega) (by rw [List.drop_eq_getElem_cons hlt]; simp)).mono ?_
            rintro v h ⟨rfl, rfl⟩
            simp only [unI_int]
            rw [mRet_ap]
            have hdc := List.drop_eq_getElem_cons hlt
            rw [hdc] at he ⊢
            rw [show lits ((y :: l)[n] :: (y :: l).drop (n + 1)) (d + 1) = if alike ((y :: l)[n] :: (y :: l).drop (n + 1)) < 3 then lits ((y :: l).drop (n + 1)) d + 1 else 0 from rfl] at he
            refine mIf_dec (fun hc => ?_) (fun hc => ?_)
            · rw [wrap64 _ (by omega), show ((n : Int) + 1) = ((n + 1 : Nat) : Int) by omega]
              rw [if_pos (by omega)] at he
              exact ihd (n + 1) _ (by omega) (by omega) (by omega) hs
            · rw [if_neg (by omega)] at he
              exact stop n _ he hs
          · rw [decide_eq_false (by omega), mIf_false, mRet_ap, mIf_false]
            rw [List.drop_of_length_le (by omega)] at he
            exact stop n _ (by simpa [lits] using he) hs
      have := loop 128 0 h rfl (by simp) (by rw [List.drop_zero, Nat.zero_add]) hs
      exact this
theorem refWrite_s (hr : RdI h.size h .u8 s zs) (hcap : s.n ≤ s.c) (hn : zs.length ≤ 100000000000) : N_signalboxref53_Write s h (fun v h' => ∃ o : Sl, v = .slice o.p o.n o.c ∧ Sep h h' [aRow encU 1 o (wr zs.length zs)]) := by
  apply S_signalboxref53_Write
  unfold B_signalboxref53_Write
  exact refWrite2 zs.length zs s _ [] h (Nat.le_refl _) hr hcap (by simp; omega) ((Sep.init h).nilRow _ _)
end
end Go.Proofs.Ytinjifhjjkdmoaa
