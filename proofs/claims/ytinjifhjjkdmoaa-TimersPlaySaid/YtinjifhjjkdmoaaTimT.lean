/- Timers: ticks of the plain rows, and TimersPlay. Conditions: none. -/
import Derived.Test.YtinjifhjjkdmoaaTimS
import Derived.Test.YtinjifhjjkdmoaaSbW
namespace Go.Proofs.Ytinjifhjjkdmoaa
open Go Go.Sb
set_option linter.unusedSimpArgs false
set_option linter.unusedVariables false
theorem rowsT_congr {per per' : Int → Int} : ∀ (l : DL) (s : Int), (∀ k ∈ keysL l, per k = per' k) → rowsT s l per = rowsT s l per'
  | [], s, h => rfl
  | (k, g) :: r, s, h => by
    have h1 := h k (by simp)
    have h2 := rowsT_congr r (s + g) (fun k hk => h k (by simp only [List.map_cons, List.mem_cons]; exact .inr hk))
    show (⟨k, s + g, per k⟩ : Tr) :: rowsT (s + g) r per = ⟨k, s + g, per' k⟩ :: rowsT (s + g) r per'
    rw [h1, h2]
theorem fid_none {per : Int → Int} {id : Int} : ∀ (l : DL) (i : Nat) (s w : Int), fnk id l i w = none → fidT id (rowsT s l per) i = -1
  | [], i, s, w, h => rfl
  | (k, g) :: r, i, s, w, h => by
    unfold fnk at h
    split at h
    · cases h
    · rename_i hk
      have := fid_none (per := per) r (i + 1) (s + g) (w + g) h
      show (if k = id then _ else _) = _
      rw [if_neg hk]
      exact this
theorem fid_some {per : Int → Int} {id : Int} : ∀ (l : DL) (i : Nat) (s w : Int) (j : Nat) (d : Int), fnk id l i w = some (j, d) → fidT id (rowsT s l per) i = j ∧ i ≤ j ∧ j - i < l.length
  | [], i, s, w, j, d, h => by simp [fnk] at h
  | (k, g) :: r, i, s, w, j, d, h => by
    unfold fnk at h
    split at h
    · rename_i hk
      simp only [Option.some.injEq, Prod.mk.injEq] at h
      obtain ⟨rfl, rfl⟩ := h
      refine ⟨?_, Nat.le_refl _, by simp⟩
      show (if k = id then _ else _) = _
      rw [if_pos hk]
    · rename_i hk
      obtain ⟨h1, h2, h3⟩ := fid_some (per := per) r (i + 1) (s + g) (w + g) j d h
      refine ⟨?_, by omega, by simp; omega⟩
      show (if k = id then _ else _) = _
      rw [if_neg hk]
      exact h1
theorem absF_shift : ∀ (l : DL) (s t : Int), absF (s + t) l = (absF s l).map fun p => (p.1, p.2 + t)
  | [], s, t => rfl
  | (k, g) :: r, s, t => by
    have := absF_shift r (s + g) t
    simp only [absF, List.map_cons]
    rw [← this, show s + t + g = s + g + t by omega]
section
variable {h0 h : Hp} {R X : List As} {tb : Nat} {l : DL} {per : Int → Int} {S : List Int} {now : Int} {r : Sl} {rows : List Tr}
theorem tick9 {ag : List Tr} {gs os : Sl} {outs : List (Int × Int)} (hag : ag.length ≤ 300) : ∀ (e k : Nat) (r : Sl) (rows : List Tr) (h : Hp), k + e = ag.length → rows.length + (ag.length - k) ≤ 600 → Sep h0 h (aRow Tr.enc 3 r rows :: aRow Tr.enc 3 gs ag :: aRow encP 2 os outs :: R) →
    K_signalboxlaw47_tick_9 r os gs (gs.n : Int) (k : Int) h (fun v h' => ∃ o : Sl, v = .tuple #[.slice o.p o.n o.c, .slice os.p os.n os.c] ∧ Sep h0 h' (aRow Tr.enc 3 o (putsT (ag.drop k) rows) :: aRow encP 2 os outs :: R))
  | 0, k, r, rows, h, hk, hl, hs => by
    have han := hs.rowLen 1 rfl
    apply S_signalboxlaw47_tick_9
    unfold B_signalboxlaw47_tick_9
    refine mIf_neg (by simp; omega) ?_
    rw [List.drop_of_length_le (by omega)]
    exact ⟨r, rfl, hs.swap.drop⟩
  | e + 1, k, r, rows, h, hk, hl, hs => by
    have ih := tick9 (gs := gs) (os := os) (outs := outs) hag e (k + 1)
    have han := hs.rowLen 1 rfl
    have hkl : k < ag.length := by omega
    rw [List.drop_eq_getElem_cons hkl]
    apply S_signalboxlaw47_tick_9
    unfold B_signalboxlaw47_tick_9
    refine mIf_pos (by simp; omega) ?_
    rw [wrap64 ((k : Int) + 1) (by omega), show ((k : Int) + 1) = ((k + 1 : Nat) : Int) by omega]
    refine hs.idx 1 rfl (by omega) (by omega) fun a ha => ?_
    simp only [Int.toNat_natCast] at ha
    refine hs.rldI0 1 rfl (fun _ => rfl) ha (List.getElem?_eq_getElem hkl) rfl ?_
    refine hs.rldI 1 (j := 1) rfl (fun _ => rfl) ha (List.getElem?_eq_getElem hkl) rfl ?_
    refine hs.rldI 1 (j := 2) rfl (fun _ => rfl) ha (List.getElem?_eq_getElem hkl) rfl ?_
    generalize ag[k] = t at *
    refine Sep.new hs fun tb h hs => ?_
    refine hs.st 0 rfl rfl rfl fun h hs => ?_
    rw [add_mk, add_mk]
    refine hs.st 0 rfl rfl rfl fun h hs => ?_
    refine hs.st 0 rfl rfl rfl fun h hs => ?_
    refine hs.ldI 0 rfl rfl ?_
    refine hs.ldI 0 rfl rfl ?_
    refine hs.ldI 0 rfl rfl ?_
    rw [mBind_ap]
    refine (tput_s (t := t) (by omega) hs.drop).mono ?_
    rintro v h ⟨o, rfl, hs⟩
    simp only [unL_slice]
    exact ih o (putT t rows) h (by omega) (by rw [putT_len]; omega) hs
theorem tick3 {t : Int} (ht : 0 ≤ t ∧ t ≤ 100000000) : ∀ (cur : List Tr) (r os gs : Sl) (outs : List (Int × Int)) (ag : List Tr) (h : Hp), cur.length + ag.length ≤ 300 → outs.length + cur.length ≤ 100000 → (∀ x ∈ cur, 0 ≤ x.gap ∧ x.gap ≤ 16777216) → Sep h0 h (aRow Tr.enc 3 r cur :: aRow Tr.enc 3 gs ag :: aRow encP 2 os outs :: R) →
    K_signalboxlaw47_tick_3 r t os gs h (fun v h' => ∃ o u : Sl, v = .tuple #[.slice o.p o.n o.c, .slice u.p u.n u.c] ∧ Sep h0 h' (aRow Tr.enc 3 o (putsT (ag ++ againT t (firedT t cur)) (restT t cur)) :: aRow encP 2 u (outs ++ outT t cur) :: R))
  | [], r, os, gs, outs, ag, h, hl, hol, hg, hs => by
    have hrn := hs.rowLen 0 rfl
    apply S_signalboxlaw47_tick_3
    unfold B_signalboxlaw47_tick_3
    rw [mBind_ap]
    refine mIf_neg (by rw [hrn]; rfl) ?_
    rw [mRet_ap]
    refine mIf_neg rfl ?_
    simp only [List.length_nil] at hl
    refine (tick9 (gs := gs) (os := os) (outs := outs) (by omega) ag.length 0 r [] h (Nat.zero_add _) (by simp; omega) hs).mono ?_
    rintro v h ⟨o, rfl, hs⟩
    refine ⟨o, os, rfl, ?_⟩
    have e1 : againT t (firedT t []) = [] := rfl
    have e2 : outT t [] = [] := rfl
    rw [e1, e2, List.append_nil, List.append_nil]
    exact hs
  | c :: cur, r, os, gs, outs, ag, h, hl, hol, hg, hs => by
    have ih := tick3 ht cur
    have hrn := hs.rowLen 0 rfl
    have hgc := hg c (by simp)
    simp only [List.length_cons] at hl hol hrn
    apply S_signalboxlaw47_tick_3
    unfold B_signalboxlaw47_tick_3
    rw [mBind_ap]
    refine mIf_pos (by simp; omega) ?_
    refine hs.idx 0 rfl (by omega) (by simp) fun a ha => ?_
    refine hs.rldI 0 (j := 1) rfl (fun _ => rfl) ha rfl rfl ?_
    rw [mRet_ap]
    refine mIf_intro (fun hc => ?_) (fun hc => ?_)
    · have hdue : isDue t c = true := hc
      have e1 : firedT t (c :: cur) = c :: firedT t cur := by unfold firedT; rw [List.takeWhile_cons, hdue]; rfl
      have e2 : restT t (c :: cur) = restT t cur := by unfold restT; rw [List.dropWhile_cons, hdue]; rfl
      have e3 : outT t (c :: cur) = (c.id, t) :: outT t cur := by unfold outT; rw [e1]; rfl
      refine hs.idx 0 rfl (by omega) (by simp) fun a1 ha1 => ?_
      refine hs.rldI0 0 rfl (fun _ => rfl) ha1 rfl rfl ?_
      refine Sep.new hs fun nb h hs => ?_
      refine hs.app1 3 0 (c.id, t) rfl rfl (fun _ => rfl) (encP_one _) rfl (by omega) (by omega) fun os2 h _ hs => ?_
      simp only [List.set_cons_zero, List.set_cons_succ] at hs
      have hs := hs.drop
      refine hs.idx 0 rfl (by omega) (by simp) fun a2 ha2 => ?_
      refine hs.rldI 0 (j := 2) rfl (fun _ => rfl) ha2 rfl rfl ?_
      have slc : ∀ {h : Hp} {gs2 : Sl} {ag2 : List Tr}, Sep h0 h (aRow Tr.enc 3 r (c :: cur) :: aRow Tr.enc 3 gs2 ag2 :: aRow encP 2 os2 (outs ++ [(c.id, t)]) :: R) → cur.length + ag2.length ≤ 300 → ag2 ++ againT t (firedT t cur) = ag ++ againT t (firedT t (c :: cur)) →
          (mSlc r 3 (1 : Int) (r.n : Int) (r.c : Int) fun (x54 : Sl) => K_signalboxlaw47_tick_3 x54 t os2 gs2) h (fun v h' => ∃ o u : Sl, v = .tuple #[.slice o.p o.n o.c, .slice u.p u.n u.c] ∧ Sep h0 h' (aRow Tr.enc 3 o (putsT (ag ++ againT t (firedT t (c :: cur))) (restT t (c :: cur))) :: aRow encP 2 u (outs ++ outT t (c :: cur)) :: R)) := by
        intro h gs2 ag2 hs hl2 he
        refine hs.slc 0 rfl (fun _ => rfl) (by omega) (by omega) (by simp; omega) rfl fun r2 hr2 hs => ?_
        simp only [List.set_cons_zero] at hs
        rw [show ((r.n : Int)).toNat = (c :: cur).length by simp; omega, List.take_length, show (1 : Int).toNat = 1 from rfl, List.drop_succ_cons, List.drop_zero] at hs
        have := ih r2 os2 gs2 (outs ++ [(c.id, t)]) ag2 h hl2 (by simp; omega) (fun x hx => hg x (by simp [hx])) hs
        rw [he, List.append_assoc] at this
        rw [e2, e3]
        exact this
      refine mIf_dec (fun hp => ?_) (fun hp => ?_)
      · have e4 : againT t (firedT t (c :: cur)) = ⟨c.id, t + c.gap, c.gap⟩ :: againT t (firedT t cur) := by
          rw [e1]
          unfold againT
          rw [List.filter_cons]
          simp only [hp, decide_true, if_true, List.map_cons]
        refine hs.idx 0 rfl (by omega) (by simp) fun a3 ha3 => ?_
        refine hs.idx 0 rfl (by omega) (by simp) fun a4 ha4 => ?_
        refine hs.idx 0 rfl (by omega) (by simp) fun a5 ha5 => ?_
        have fin : (mNew #[.int .i64 c.id, .int .i64 (IntKind.i64.wrap (t + c.gap)), .int .i64 c.gap] 87 fun (x51 : Addr) =>
            mApp 87 3 24 #[.int .i64 (0 : Int), .int .i64 (0 : Int), .int .i64 (0 : Int)] gs ⟨(some x51), 1, 1⟩ fun (x52 : Sl) =>
            mSlc r 3 (1 : Int) (r.n : Int) (r.c : Int) fun (x54 : Sl) =>
            K_signalboxlaw47_tick_3 x54 t os2 x52) h (fun v h' => ∃ o u : Sl, v = .tuple #[.slice o.p o.n o.c, .slice u.p u.n u.c] ∧ Sep h0 h' (aRow Tr.enc 3 o (putsT (ag ++ againT t (firedT t (c :: cur))) (restT t (c :: cur))) :: aRow encP 2 u (outs ++ outT t (c :: cur)) :: R)) := by
          rw [wrap64 (t + c.gap) (by omega)]
          refine Sep.new hs fun nb h hs => ?_
          refine hs.app1 2 0 ⟨c.id, t + c.gap, c.gap⟩ rfl rfl (fun _ => rfl) (Tr_one _) rfl (by omega) (by omega) fun gs2 h _ hs => ?_
          simp only [List.set_cons_zero, List.set_cons_succ] at hs
          exact slc hs.drop (by simp; omega) (by rw [e4, List.append_assoc]; rfl)
        repeat' (first
          | with_reducible refine mAnd_intro ?_ ?_
          | exact fin
          | (refine hs.rldI0 0 rfl (fun _ => rfl) ha3 rfl rfl ?_)
          | (refine hs.rldI 0 (j := 2) rfl (fun _ => rfl) ha4 rfl rfl ?_)
          | (refine hs.rldI 0 (j := 2) rfl (fun _ => rfl) ha5 rfl rfl ?_))
      · have e4 : againT t (firedT t (c :: cur)) = againT t (firedT t cur) := by
          rw [e1]
          unfold againT
          rw [List.filter_cons]
          simp only [hp, decide_false, Bool.false_eq_true, if_false]
        exact slc hs (by omega) (by rw [e4])
    · have hdue : isDue t c = false := hc
      have e1 : firedT t (c :: cur) = [] := by unfold firedT; rw [List.takeWhile_cons, hdue]; rfl
      have e2 : restT t (c :: cur) = c :: cur := by unfold restT; rw [List.dropWhile_cons, hdue]; rfl
      have e3 : outT t (c :: cur) = [] := by unfold outT; rw [e1]; rfl
      refine (tick9 (gs := gs) (os := os) (outs := outs) (by omega) ag.length 0 r (c :: cur) h (Nat.zero_add _) (by simp; omega) hs).mono ?_
      rintro v h ⟨o, rfl, hs⟩
      refine ⟨o, os, rfl, ?_⟩
      rw [e1, e2, e3, List.append_nil, show againT t [] = [] from rfl, List.append_nil]
      exact hs
theorem tick_s {t : Int} (ht : 0 ≤ t ∧ t ≤ 100000000) (hn : rows.length ≤ 300) (hg : ∀ x ∈ rows, 0 ≤ x.gap ∧ x.gap ≤ 16777216) (hs : Sep h0 h (aRow Tr.enc 3 r rows :: R)) : N_signalboxlaw47_tick r t h (fun v h' => ∃ o u : Sl, v = .tuple #[.slice o.p o.n o.c, .slice u.p u.n u.c] ∧ Sep h0 h' (aRow Tr.enc 3 o (tickT t rows) :: aRow encP 2 u (outT t rows) :: R)) := by
  apply S_signalboxlaw47_tick
  unfold B_signalboxlaw47_tick
  have hs := (hs.nilRow encP 2).nilRow Tr.enc 3
  refine (tick3 (R := R) ht rows r ⟨none, 0, 0⟩ ⟨none, 0, 0⟩ [] [] h (by simpa using hn) (by simp; omega) hg (hs.reT 3 [2, 0, 1] rfl (by simp))).mono ?_
  rintro v h ⟨o, u, rfl, hs⟩
  refine ⟨o, u, rfl, ?_⟩
  rw [List.nil_append, List.nil_append] at hs
  exact hs
end
end Go.Proofs.Ytinjifhjjkdmoaa
