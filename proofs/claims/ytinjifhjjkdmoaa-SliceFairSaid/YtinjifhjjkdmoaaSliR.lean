/- Turns of equal length: what goes over the turns, and ticks. Conditions: none. -/
import Derived.Test.YtinjifhjjkdmoaaSliQ
import Derived.Test.YtinjifhjjkdmoaaSbW
namespace Go.Proofs.Ytinjifhjjkdmoaa
open Go Go.Sb
set_option linter.unusedSimpArgs false
set_option linter.unusedVariables false
section
variable {h0 h : Hp} {R : List As} {s : Sl} {zs : List Int} {q : Int}
/-- had stays within bounds -/
def SoB (so : List Int) : Prop := ∀ k, 0 ≤ gt so k ∧ gt so k ≤ 1500
theorem had2 {β : Type} {g : Nat} {f cc : Array Value} {S : β → As} {stepf : Trn → List Int → β → β} {w : List Int} {xs ts : Sl} {all : List Trn} {n : Nat}
    (hsee : ∀ (R : List As) (h : Hp) (so : List Int) (t : Trn) (st : β), so.length = n → t.who < n → SoB so → 0 ≤ t.to_ ∧ t.to_ ≤ 1500 → Sep h0 h (S st :: aRow encI 1 xs so :: R) →
      Nf Try.prog g (f ++ #[.agg #[.int .i64 (t.who : Int), .int .i64 t.fr, .int .i64 t.to_], .slice xs.p xs.n xs.c] ++ cc) h (fun _ h' => Sep h0 h' (S (stepf t so st) :: aRow encI 1 xs so :: R)))
    (hw : ∀ k, gt w k ≤ 1500) (hal : all.length ≤ 100000) : ∀ (d k : Nat) (so : List Int) (now : Int) (st : β) (h : Hp), k + d = all.length → so.length = n → SoB so → 0 ≤ now → TOk w q (all.drop k) so now → Sep h0 h (S st :: aRow encI 1 xs so :: aRow Trn.enc 3 ts all :: R) →
      K_slice_had_2 g f cc xs ts (ts.n : Int) (k : Int) h (fun _ h' => ∃ so', Sep h0 h' (S (hadF stepf (all.drop k) so st) :: aRow encI 1 xs so' :: aRow Trn.enc 3 ts all :: R))
  | 0, k, so, now, st, h, hk, hl, hb, h0n, ht, hs => by
    have htn := hs.rowLen 2 rfl
    apply S_slice_had_2
    unfold B_slice_had_2
    refine mIf_neg (by simp; omega) ?_
    rw [List.drop_of_length_le (by omega)]
    exact ⟨so, hs⟩
  | d + 1, k, so, now, st, h, hk, hl, hb, h0n, ht, hs => by
    have ih := had2 (ts := ts) hsee hw hal d (k + 1)
    have htn := hs.rowLen 2 rfl
    have hkl : k < all.length := by omega
    rw [List.drop_eq_getElem_cons hkl] at ht ⊢
    obtain ⟨h1, h2, h3, h4, h5, h6, h7⟩ := ht
    have hw1 := hw all[k].who
    have hb1 := hb all[k].who
    have hto := h4
    apply S_slice_had_2
    unfold B_slice_had_2
    refine mIf_pos (by simp; omega) ?_
    refine hs.idx 2 rfl (by omega) (by omega) fun a ha => ?_
    simp only [Int.toNat_natCast] at ha
    refine hs.rldI0 2 rfl (fun _ => rfl) ha (List.getElem?_eq_getElem hkl) rfl ?_
    refine hs.rldI 2 (j := 1) rfl (fun _ => rfl) ha (List.getElem?_eq_getElem hkl) rfl ?_
    refine hs.rldI 2 (j := 2) rfl (fun _ => rfl) ha (List.getElem?_eq_getElem hkl) rfl ?_
    generalize all[k] = t at *
    refine Sep.new hs fun tb h hs => ?_
    refine hs.st 0 rfl rfl rfl fun h hs => ?_
    rw [add_mk, add_mk]
    refine hs.st 0 rfl rfl rfl fun h hs => ?_
    refine hs.st 0 rfl rfl rfl fun h hs => ?_
    have hs : Sep h0 h (aBlk tb [.int .i64 (t.who : Int), .int .i64 t.fr, .int .i64 t.to_] :: S st :: aRow encI 1 xs so :: aRow Trn.enc 3 ts all :: R) := hs
    refine hs.ldI 0 rfl rfl ?_
    refine hs.idx 2 rfl (by omega) (by omega) fun a ha => ?_
    refine hs.rldI0 2 rfl (fun _ => rfl) ha (List.getElem?_eq_getElem (by omega)) rfl ?_
    have hg : so[(t.who : Int).toNat]'(by omega) = gt so t.who := by rw [gt_at h1]; congr 1
    rw [hg]
    refine hs.ldI 0 rfl rfl ?_
    refine hs.ldI 0 rfl rfl ?_
    refine hs.idx 2 rfl (by omega) (by omega) fun a ha => ?_
    rw [wrap64 (t.to_ - t.fr) (by omega), wrap64 (gt so t.who + (t.to_ - t.fr)) (by omega)]
    refine hs.ist 2 rfl ha (by omega) fun h hs => ?_
    simp only [List.set_cons_zero, List.set_cons_succ, Int.toNat_natCast] at hs
    refine hs.ldI 0 rfl rfl ?_
    refine hs.ldI 0 rfl rfl ?_
    refine hs.ldI 0 rfl rfl ?_
    rw [mBind_ap]
    have hs : Sep h0 h (S st :: aRow encI 1 xs (so.set t.who (gt so t.who + (t.to_ - t.fr))) :: aBlk tb [.int .i64 (t.who : Int), .int .i64 t.fr, .int .i64 t.to_] :: aRow Trn.enc 3 ts all :: R) := hs.reT 4 [1, 2, 0, 3] rfl (by simp)
    have hb' : SoB (so.set t.who (gt so t.who + (t.to_ - t.fr))) := by
      intro j
      rw [gt_set h1]
      have := hb j
      split <;> omega
    refine (hsee _ h _ t st (by simpa using hl) (by omega) hb' ⟨by omega, hto⟩ hs).mono ?_
    intro v h hs
    rw [wrap64 ((k : Int) + 1) (by omega), show ((k : Int) + 1) = ((k + 1 : Nat) : Int) by omega]
    have hs := (hs.reT 4 [2, 0, 1, 3] rfl (by simp)).drop
    rw [← h2] at h7
    exact ih _ t.to_ _ h (by omega) (by simpa using hl) hb' (by omega) h7 hs
theorem had_s {β : Type} {g : Nat} {f cc : Array Value} {S : β → As} {stepf : Trn → List Int → β → β} {st : β} (hr : RdI h0.size h0 .i64 s zs) (hn : zs.length ≤ 1000) (hq : 1 ≤ q ∧ q ≤ 1048576) (hsm : sm (zs.map cl) ≤ 1500)
    (hsee : ∀ (R : List As) (h : Hp) (xs : Sl) (so : List Int) (t : Trn) (st : β), so.length = zs.length → t.who < zs.length → SoB so → 0 ≤ t.to_ ∧ t.to_ ≤ 1500 → Sep h0 h (S st :: aRow encI 1 xs so :: R) →
      Nf Try.prog g (f ++ #[.agg #[.int .i64 (t.who : Int), .int .i64 t.fr, .int .i64 t.to_], .slice xs.p xs.n xs.c] ++ cc) h (fun _ h' => Sep h0 h' (S (stepf t so st) :: aRow encI 1 xs so :: R)))
    (hs : Sep h0 h (S st :: R)) : N_slice_had s q g f cc h (fun _ h' => Sep h0 h' (S (hadF stepf (trns zs q) (List.replicate zs.length 0) st) :: R)) := by
  have hsn := hr.n
  have hfirst := SI.first (w := zs.map cl) (fun i => by rw [gt_map_cl]; split; exact (cl_b _).1; omega)
  rw [List.length_map] at hfirst
  have hfd := Hd.first (w := zs.map cl)
  rw [List.length_map] at hfd
  have hok := turns_ok (w := zs.map cl) hq.1 1500 _ _ _ 0 hfirst hfd (by omega)
  have hlen : (turns q 1500 (zs.map cl) (row0 (zs.map cl) zs.length) 0).length ≤ 100000 := by
    have := turns_len q hq.1 1500 _ _ 0 hfirst
    omega
  apply S_slice_had
  unfold B_slice_had
  refine hs.make encI 1 0 rfl (by omega) (by omega) (by omega) fun xs h hxs hs => ?_
  rw [Int.toNat_natCast, hsn] at hs
  rw [mBind_ap]
  refine (Run_s (hr.now hs) hn hq hsm).mono ?_
  rintro v h ⟨o, rfl, hs'⟩
  have hs := hs.rebase hs'
  simp only [unL_slice, List.cons_append, List.nil_append] at hs ⊢
  have hs : Sep h0 h (S st :: aRow encI 1 xs (List.replicate zs.length 0) :: aRow Trn.enc 3 o (trns zs q) :: R) := hs.reT 3 [2, 1, 0] rfl (by simp)
  have hz : ∀ k, gt (List.replicate zs.length 0) k = 0 := by
    intro k
    by_cases h : k < zs.length
    · rw [gt_at (by simpa using h), List.getElem_replicate]
    · rw [gt_out (by simpa using h)]
  have hw : ∀ k, gt (zs.map cl) k ≤ 1500 := fun k => by
    have := sm_ge (zs.map cl) k (fun x hx => (map_cl_b zs x hx).1)
    omega
  refine (had2 (fun R h so t st h1 h2 h3 h4 hs => hsee R h xs so t st h1 h2 h3 h4 hs) hw hlen (trns zs q).length 0 _ 0 st h (Nat.zero_add _) (by simp) (fun k => by rw [hz]; omega) (by omega) hok hs).mono ?_
  rintro v h ⟨so', hs⟩
  rw [List.drop_zero] at hs
  exact (hs.reT 3 [1, 2, 0] rfl (by simp)).drop.drop
/-! the ends -/
def SEnds (lb ob : Nat) (s : Sl) (out : List Int) : As := aEx fun o : Sl => aStar (aStar (aBlk lb [.slice s.p s.n s.c]) (aBlk ob [.slice o.p o.n o.c])) (aRow encI 1 o out)
theorem SEnds_iff {lb ob : Nat} {out : List Int} : Sep h0 h (SEnds lb ob s out :: R) ↔ ∃ o : Sl, Sep h0 h (aBlk lb [.slice s.p s.n s.c] :: aBlk ob [.slice o.p o.n o.c] :: aRow encI 1 o out :: R) := by
  unfold SEnds; rw [Sep.ex]; simp only [Sep.star]
theorem see_ends {lb ob : Nat} (hr : RdI h0.size h0 .i64 s zs) (xs : Sl) (so out : List Int) (t : Trn) (hl : so.length = zs.length) (ho : out.length = zs.length) (hw : t.who < zs.length) (hs : Sep h0 h (SEnds lb ob s out :: aRow encI 1 xs so :: R)) :
    N_slice_Ends_1 (t.who : Int) t.fr t.to_ xs (some ⟨lb, 0, none⟩) (some ⟨ob, 0, none⟩) h (fun _ h' => Sep h0 h' (SEnds lb ob s (if gt so t.who = gt (zs.map cl) t.who then out.set t.who t.to_ else out) :: aRow encI 1 xs so :: R)) := by
  obtain ⟨o, hs⟩ := SEnds_iff.1 hs
  have hg1 : gt so t.who = so[t.who]'(by omega) := gt_at (by omega)
  have hg2 : gt (zs.map cl) t.who = cl zs[t.who] := by rw [gt_map_cl, if_pos hw, gt_at hw]
  apply S_slice_Ends_1
  unfold B_slice_Ends_1
  ((refine Sep.new hs fun nb h hs => ?_; try simp only [List.toList_toArray] at hs); refine Sep.ldI hs 0 rfl rfl ?_; (refine Sep.idx hs 4 rfl (by first | omega | (simp only [List.length_set, List.length_map, List.length_replicate, List.length_append, List.length_cons, List.length_nil, List.length_reverse, List.length_range]; omega) | (simp; omega)) (by first | omega | (simp only [List.length_set, List.length_map, List.length_replicate, List.length_append, List.length_cons, List.length_nil, List.length_reverse, List.length_range]; omega) | (simp; omega)) fun aa haa => ?_; try simp only [Int.toNat_natCast] at haa); refine Sep.rldI0 hs 4 rfl (fun _ => rfl) haa (List.getElem?_eq_getElem (by first | omega | (simp only [List.length_set, List.length_map, List.length_replicate, List.length_append, List.length_cons, List.length_nil, List.length_reverse, List.length_range]; omega) | (simp; omega))) rfl ?_; simp only [add_mk, Nat.zero_add, mNil_some]; refine Sep.ldL hs 1 rfl rfl ?_; refine Sep.ldI hs 0 rfl rfl ?_; refine Sep.argIn hs hr (by first | omega | (simp only [List.length_set, List.length_map, List.length_replicate, List.length_append, List.length_cons, List.length_nil, List.length_reverse, List.length_range]; omega) | (simp; omega)) ?_)
  refine mQ_intro _ (cl_s _) ?_
  simp only [unI_int]
  rw [hg1, hg2]
  refine mIf_intro (fun hc => ?_) (fun hc => ?_)
  · rw [if_pos (by simpa using hc)]
    (refine Sep.ldL hs 2 rfl rfl ?_; refine Sep.ldI hs 0 rfl rfl ?_; refine Sep.ldI hs 0 rfl rfl ?_; (refine Sep.idx hs 3 rfl (by first | omega | (simp only [List.length_set, List.length_map, List.length_replicate, List.length_append, List.length_cons, List.length_nil, List.length_reverse, List.length_range]; omega) | (simp; omega)) (by first | omega | (simp only [List.length_set, List.length_map, List.length_replicate, List.length_append, List.length_cons, List.length_nil, List.length_reverse, List.length_range]; omega) | (simp; omega)) fun aa_1 haa_1 => ?_; try simp only [Int.toNat_natCast] at haa_1); (refine Sep.ist hs 3 rfl haa_1 (by first | omega | (simp only [List.length_set, List.length_map, List.length_replicate, List.length_append, List.length_cons, List.length_nil, List.length_reverse, List.length_range]; omega) | (simp; omega)) fun h hs => ?_; simp only [List.set_cons_zero, List.set_cons_succ] at hs))
    exact SEnds_iff.2 ⟨o, hs.drop⟩
  · rw [if_neg (by simpa using hc)]
    exact SEnds_iff.2 ⟨o, hs.drop⟩
theorem Ends_s (hr : RdI h.size h .i64 s zs) (hn : zs.length ≤ 1000) (hq : 1 ≤ q ∧ q ≤ 1048576) (hsm : sm (zs.map cl) ≤ 1500) : N_slice_Ends s q h (fun v h' => ∃ o : Sl, v = .slice o.p o.n o.c ∧ Sep h h' [aRow encI 1 o (endsF (zs.map cl) (trns zs q) (List.replicate zs.length 0) (List.replicate zs.length 0))]) := by
  have hsn := hr.n
  have hs := Sep.init h
  apply S_slice_Ends
  unfold B_slice_Ends
  refine Sep.new hs fun lb h1 hs => ?_
  rw [mBind_ap]
  refine right_s.mono ?_
  rintro v h' ⟨rfl, rfl⟩
  simp only [unB_bool]
  refine mIf_neg (by simp; omega) ?_
  refine hs.ldL 0 rfl rfl ?_
  refine hs.make encI 1 0 rfl (by omega) (by omega) (by omega) fun ls h1 hls hs => ?_
  rw [show List.replicate (s.n : Int).toNat (0 : Int) = List.replicate zs.length 0 by rw [Int.toNat_natCast, hsn]] at hs
  refine Sep.new hs fun ob h1 hs => ?_
  refine hs.st 0 rfl rfl rfl fun h1 hs => ?_
  have hs : Sep h h1 [aBlk lb [.slice s.p s.n s.c], aBlk ob [.slice ls.p ls.n ls.c], aRow encI 1 ls (List.replicate zs.length 0)] := hs.re [2, 0, 1] rfl
  refine hs.ldL 0 rfl rfl ?_
  rw [mBind_ap]
  refine (had_s (β := { l : List Int // l.length = zs.length }) (S := fun o => SEnds lb ob s o.1) (stepf := fun t so o => ⟨if gt so t.who = gt (zs.map cl) t.who then o.1.set t.who t.to_ else o.1, by split <;> simp [o.2]⟩) (st := ⟨List.replicate zs.length 0, by simp⟩) (h0 := h) hr hn hq hsm (fun R h1 xs so t st h2 h3 h4 h5 hs => ?_) (SEnds_iff.2 ⟨ls, hs⟩)).mono ?_
  · exact see_ends hr xs so st.1 t h2 st.2 h3 hs
  · rintro v h1 hs
    obtain ⟨o, hs⟩ := SEnds_iff.1 hs
    refine hs.ldL 1 rfl rfl ?_
    refine ⟨o, rfl, ?_⟩
    have hfirst := SI.first (w := zs.map cl) (fun i => by rw [gt_map_cl]; split; exact (cl_b _).1; omega)
    rw [List.length_map] at hfirst
    have hfd := Hd.first (w := zs.map cl)
    rw [List.length_map] at hfd
    have hok := turns_ok (w := zs.map cl) hq.1 1500 _ _ _ 0 hfirst hfd (by omega)
    rw [endsF_had _ _ _ _ hok]
    have key : ∀ (ts : List Trn) (so : List Int) (o : { l : List Int // l.length = zs.length }), (hadF (fun t so (o : { l : List Int // l.length = zs.length }) => (⟨if gt so t.who = gt (zs.map cl) t.who then o.1.set t.who t.to_ else o.1, by split <;> simp [o.2]⟩ : { l : List Int // l.length = zs.length })) ts so o).1 = hadF (fun t so out => if gt so t.who = gt (zs.map cl) t.who then out.set t.who t.to_ else out) ts so o.1 := by
      intro ts
      induction ts with
      | nil => intro so o; rfl
      | cons t ts ih => intro so o; exact ih _ _
    have hs := hs.drop.drop
    rw [key] at hs
    exact hs
theorem Ends_bad (hq : ¬ (1 ≤ q ∧ q ≤ 1048576)) : N_slice_Ends s q h (fun v h' => v = .slice none 0 0 ∧ Sep h h' []) := by
  have hs := Sep.init h
  apply S_slice_Ends
  unfold B_slice_Ends
  refine Sep.new hs fun lb h1 hs => ?_
  rw [mBind_ap]
  refine right_s.mono ?_
  rintro v h' ⟨rfl, rfl⟩
  simp only [unB_bool]
  refine mIf_pos (by rw [decide_eq_false hq]; rfl) ?_
  exact ⟨rfl, hs.drop⟩
/-! who is ahead -/
def SFair (lb wb : Nat) (s : Sl) (worst : Int) : As := aStar (aBlk lb [.slice s.p s.n s.c]) (aBlk wb [.int .i64 worst])
theorem fair6 {lb wb i : Nat} (hr : RdI h0.size h0 .i64 s zs) (hn : zs.length ≤ 1000) {xs : Sl} {so : List Int} (hb : SoB so) (hl : so.length = zs.length) {n : Int} (hnb : 0 ≤ n ∧ n ≤ 1500) (Q : Value → Hp → Prop) : ∀ (d k : Nat) (worst : Int) (h : Hp), k + d = so.length →
    (∀ h, Sep h0 h (aBlk lb [.slice s.p s.n s.c] :: aBlk wb [.int .i64 (wk n (so.drop k) worst)] :: aRow encI 1 xs so :: R) → K_slice_Fair_1_2 xs (some ⟨lb, 0, none⟩) (some ⟨wb, 0, none⟩) xs (xs.n : Int) (IntKind.i64.wrap ((i : Int) + 1)) h Q) →
    Sep h0 h (aBlk lb [.slice s.p s.n s.c] :: aBlk wb [.int .i64 worst] :: aRow encI 1 xs so :: R) →
    K_slice_Fair_1_6 xs (some ⟨lb, 0, none⟩) (some ⟨wb, 0, none⟩) n xs (xs.n : Int) (i : Int) xs (xs.n : Int) (k : Int) h Q
  | 0, k, worst, h, hk, next, hs => by
    have hxn := hs.rowLen 2 rfl
    apply S_slice_Fair_1_6
    unfold B_slice_Fair_1_6
    refine mIf_neg (by simp; omega) ?_
    rw [List.drop_of_length_le (by omega)] at next
    exact next h hs
  | d + 1, k, worst, h, hk, next, hs => by
    have ih := fair6 (i := i) (lb := lb) (wb := wb) (xs := xs) hr hn hb hl hnb Q d (k + 1)
    have hxn := hs.rowLen 2 rfl
    have hkl : k < so.length := by omega
    have hbk := hb k
    rw [gt_at hkl] at hbk
    rw [List.drop_eq_getElem_cons hkl] at next
    apply S_slice_Fair_1_6
    unfold B_slice_Fair_1_6
    refine mIf_pos (by simp; omega) ?_
    ((refine Sep.idx hs 2 rfl (by first | omega | (simp only [List.length_set, List.length_map, List.length_replicate, List.length_append, List.length_cons, List.length_nil, List.length_reverse, List.length_range]; omega) | (simp; omega)) (by first | omega | (simp only [List.length_set, List.length_map, List.length_replicate, List.length_append, List.length_cons, List.length_nil, List.length_reverse, List.length_range]; omega) | (simp; omega)) fun aa haa => ?_; try simp only [Int.toNat_natCast] at haa); refine Sep.rldI0 hs 2 rfl (fun _ => rfl) haa (List.getElem?_eq_getElem (by first | omega | (simp only [List.length_set, List.length_map, List.length_replicate, List.length_append, List.length_cons, List.length_nil, List.length_reverse, List.length_range]; omega) | (simp; omega))) rfl ?_; simp only [mNil_some]; refine Sep.ldI hs 1 rfl rfl ?_; (refine Sep.st hs 1 rfl rfl rfl fun h hs => ?_; simp only [List.set_cons_zero, List.set_cons_succ] at hs))
    rw [wrap64 (so[k] - n) (by omega)] at hs
    rw [wrap64 ((k : Int) + 1) (by omega), show ((k : Int) + 1) = ((k + 1 : Nat) : Int) by omega]
    exact ih _ _ (by omega) next hs
theorem fair2 {lb wb : Nat} (hr : RdI h0.size h0 .i64 s zs) (hn : zs.length ≤ 1000) {xs : Sl} {so : List Int} (hb : SoB so) (hl : so.length = zs.length) : ∀ (d k : Nat) (worst : Int) (h : Hp), k + d = so.length →
    Sep h0 h (aBlk lb [.slice s.p s.n s.c] :: aBlk wb [.int .i64 worst] :: aRow encI 1 xs so :: R) →
    K_slice_Fair_1_2 xs (some ⟨lb, 0, none⟩) (some ⟨wb, 0, none⟩) xs (xs.n : Int) (k : Int) h (fun _ h' => Sep h0 h' (aBlk lb [.slice s.p s.n s.c] :: aBlk wb [.int .i64 (wi (zs.map cl) so ((List.range so.length).drop k) worst)] :: aRow encI 1 xs so :: R))
  | 0, k, worst, h, hk, hs => by
    have hxn := hs.rowLen 2 rfl
    apply S_slice_Fair_1_2
    unfold B_slice_Fair_1_2
    refine mIf_neg (by simp; omega) ?_
    rw [List.drop_of_length_le (by simp; omega)]
    exact hs
  | d + 1, k, worst, h, hk, hs => by
    have ih := fair2 (lb := lb) (wb := wb) hr hn (xs := xs) hb hl d (k + 1)
    have hxn := hs.rowLen 2 rfl
    have hkl : k < so.length := by omega
    have hbk := hb k
    have hgk : gt so k = so[k] := gt_at hkl
    have hgw : gt (zs.map cl) k = cl (zs[k]'(by omega)) := by rw [gt_map_cl, if_pos (by omega), gt_at (by omega)]
    have hdr : (List.range so.length).drop k = k :: (List.range so.length).drop (k + 1) := by rw [List.drop_eq_getElem_cons (by simpa using hkl)]; simp
    rw [hdr]
    unfold wi
    rw [hgk] at hbk ⊢
    rw [hgw]
    apply S_slice_Fair_1_2
    unfold B_slice_Fair_1_2
    refine mIf_pos (by simp; omega) ?_
    ((refine Sep.idx hs 2 rfl (by first | omega | (simp only [List.length_set, List.length_map, List.length_replicate, List.length_append, List.length_cons, List.length_nil, List.length_reverse, List.length_range]; omega) | (simp; omega)) (by first | omega | (simp only [List.length_set, List.length_map, List.length_replicate, List.length_append, List.length_cons, List.length_nil, List.length_reverse, List.length_range]; omega) | (simp; omega)) fun aa haa => ?_; try simp only [Int.toNat_natCast] at haa); refine Sep.rldI0 hs 2 rfl (fun _ => rfl) haa (List.getElem?_eq_getElem (by first | omega | (simp only [List.length_set, List.length_map, List.length_replicate, List.length_append, List.length_cons, List.length_nil, List.length_reverse, List.length_range]; omega) | (simp; omega))) rfl ?_; simp only [mNil_some]; refine Sep.ldL hs 0 rfl rfl ?_; refine Sep.argIn hs hr (by first | omega | (simp only [List.length_set, List.length_map, List.length_replicate, List.length_append, List.length_cons, List.length_nil, List.length_reverse, List.length_range]; omega) | (simp; omega)) ?_; simp only [mBind_ap])
    refine (cl_s _).mono ?_
    rintro v h' ⟨rfl, rfl⟩
    simp only [unI_int]
    have hiw : IntKind.i64.wrap ((k : Int) + 1) = ((k + 1 : Nat) : Int) := by rw [wrap64 _ (by omega)]; omega
    refine mIf_intro (fun hc => ?_) (fun hc => ?_)
    · rw [if_pos (by simpa using hc), hiw]
      exact ih _ _ (by omega) hs
    · rw [if_neg (by simpa using hc)]
      refine fair6 (i := k) hr hn hb hl hbk _ so.length 0 worst _ (by omega) (fun h hs => ?_) hs
      rw [hiw]
      rw [List.drop_zero] at hs
      exact ih _ h (by omega) hs
theorem Fair_s (hr : RdI h.size h .i64 s zs) (hn : zs.length ≤ 1000) (hq : 1 ≤ q ∧ q ≤ 1048576) (hsm : sm (zs.map cl) ≤ 1500) : N_slice_Fair s q h (fun v h' => v = .int .i64 (fairF (zs.map cl) (trns zs q) (List.replicate zs.length 0) 0) ∧ Sep h h' []) := by
  have hs := Sep.init h
  apply S_slice_Fair
  unfold B_slice_Fair
  refine Sep.new hs fun lb h1 hs => ?_
  refine Sep.new hs fun wb h1 hs => ?_
  refine hs.st 0 rfl rfl rfl fun h1 hs => ?_
  have hs : Sep h h1 [aBlk wb [.int .i64 0], aBlk lb [.slice s.p s.n s.c]] := hs
  refine hs.ldL 1 rfl rfl ?_
  rw [mBind_ap]
  refine (had_s (β := Int) (S := fun o => SFair lb wb s o) (stepf := fun _ so worst => wi (zs.map cl) so (List.range zs.length) worst) (st := 0) (h0 := h) hr hn hq hsm (fun R h1 xs so t st h2 h3 h4 h5 hs => ?_) (by unfold SFair; exact Sep.star.2 hs.swap)).mono ?_
  · show N_slice_Fair_1 (t.who : Int) t.fr t.to_ xs (some ⟨lb, 0, none⟩) (some ⟨wb, 0, none⟩) h1 _
    unfold SFair at hs ⊢
    have hs := Sep.star.1 hs
    apply S_slice_Fair_1
    unfold B_slice_Fair_1
    refine Sep.new hs fun tb h1 hs => ?_
    have hs := hs.drop
    refine (fair2 hr hn h4 h2 so.length 0 st h1 (by omega) hs).mono ?_
    intro v h1 hs
    rw [List.drop_zero, h2] at hs
    exact Sep.star.2 hs
  · rintro v h1 hs
    unfold SFair at hs
    have hs := Sep.star.1 hs
    refine hs.ldI 1 rfl rfl ?_
    rw [fairF_had (n := zs.length) _ _ _ (by simp)]
    exact ⟨rfl, hs.drop.drop⟩
end
end Go.Proofs.Ytinjifhjjkdmoaa
