/- Turns of equal length: SliceRuns and SliceFair. Conditions: none. -/
import Derived.Test.YtinjifhjjkdmoaaSliS
import Derived.Test.YtinjifhjjkdmoaaSbW
namespace Go.Proofs.Ytinjifhjjkdmoaa
open Go Go.Sb
set_option linter.unusedSimpArgs false
set_option linter.unusedVariables false
section
variable {h0 h : Hp} {R : List As} {s : Sl} {zs : List Int} {q : Int}
theorem Fair_bad (hq : ¬ (1 ≤ q ∧ q ≤ 1048576)) (hr : RdI h.size h .i64 s zs) (hn : zs.length ≤ 1000) : N_slice_Fair s q h (fun v h' => v = .int .i64 0 ∧ Sep h h' []) := by
  have hsn := hr.n
  have hs := Sep.init h
  apply S_slice_Fair
  unfold B_slice_Fair
  refine Sep.new hs fun lb h1 hs => ?_
  refine Sep.new hs fun wb h1 hs => ?_
  refine hs.st 0 rfl rfl rfl fun h1 hs => ?_
  have hs : Sep h h1 [aBlk wb [.int .i64 0], aBlk lb [.slice s.p s.n s.c]] := hs
  refine hs.ldL 1 rfl rfl ?_
  rw [mBind_ap]
  apply S_slice_had
  unfold B_slice_had
  refine hs.make encI 1 0 rfl (by omega) (by omega) (by omega) fun ls h1 hls hs => ?_
  rw [mBind_ap]
  refine (Run_bad hq).mono ?_
  rintro v h' ⟨rfl, rfl⟩
  simp only [unL_slice]
  apply S_slice_had_2
  unfold B_slice_had_2
  refine mIf_neg (by simp) ?_
  have hs := hs.drop
  rw [mRet_ap]
  refine hs.ldI 0 rfl rfl ?_
  exact ⟨rfl, hs.drop.drop⟩
theorem s37 {ts es : Sl} {TK : List Nat} {E : List Int} {i : Nat} (hn : TK.length ≤ 1500) (hi : i < E.length) (he : gt E i = lastI i TK 0 0) (Q : Value → Hp → Prop)
    (next : ∀ h, Sep h0 h [aRow encN 1 ts TK, aRow encI 1 es E] → K_signalboxlaw41_SliceRuns_33 ts es (es.n : Int) (IntKind.i64.wrap ((i : Int) + 1)) h Q) : ∀ (d k : Nat) (last : Int) (h : Hp), k + d = TK.length → lastI i (TK.drop k) k last = lastI i TK 0 0 → Sep h0 h [aRow encN 1 ts TK, aRow encI 1 es E] →
    K_signalboxlaw41_SliceRuns_37 ts (i : Int) (gt E i) last es (es.n : Int) (i : Int) ts (ts.n : Int) (k : Int) h Q
  | 0, k, last, h, hk, hl, hs => by
    have htn := hs.rowLen 0 rfl
    apply S_signalboxlaw41_SliceRuns_37
    unfold B_signalboxlaw41_SliceRuns_37
    refine mIf_neg (by simp; omega) ?_
    rw [List.drop_of_length_le (by omega)] at hl
    have hl : last = lastI i TK 0 0 := hl
    refine mIf_neg (by rw [hl, he]; simp) ?_
    exact next h hs
  | d + 1, k, last, h, hk, hl, hs => by
    have ih := s37 hn hi he Q next d (k + 1)
    have htn := hs.rowLen 0 rfl
    have hkl : k < TK.length := by omega
    rw [List.drop_eq_getElem_cons hkl] at hl
    rw [show lastI i (TK[k] :: TK.drop (k + 1)) k last = lastI i (TK.drop (k + 1)) ((k : Int) + 1) (if TK[k] = i then (k : Int) + 1 else last) from rfl] at hl
    apply S_signalboxlaw41_SliceRuns_37
    unfold B_signalboxlaw41_SliceRuns_37
    refine mIf_pos (by simp; omega) ?_
    refine hs.idx 0 rfl (by omega) (by omega) fun a ha => ?_
    simp only [Int.toNat_natCast] at ha
    refine hs.rldI0 0 rfl (fun _ => rfl) ha (List.getElem?_eq_getElem hkl) rfl ?_
    have hiw : IntKind.i64.wrap ((k : Int) + 1) = ((k + 1 : Nat) : Int) := by rw [wrap64 _ (by omega)]; omega
    rw [hiw]
    refine mIf_intro (fun hc => ?_) (fun hc => ?_)
    · have hc' : TK[k] = i := by have : ((TK[k] : Nat) : Int) = (i : Int) := by simpa using hc
                                 omega
      rw [if_pos hc'] at hl
      exact ih _ h (by omega) (by rw [← hl]; congr 1) hs
    · have hc' : ¬ TK[k] = i := by
        intro he
        rw [he] at hc
        simp at hc
      rw [if_neg hc'] at hl
      exact ih _ h (by omega) (by rw [← hl]; congr 1) hs
theorem s33 {ts es : Sl} {TK : List Nat} {E : List Int} (hn : TK.length ≤ 1500) (hel : E.length ≤ 1000) (he : ∀ i, gt E i = lastI i TK 0 0) : ∀ (d k : Nat) (h : Hp), k + d = E.length → Sep h0 h [aRow encN 1 ts TK, aRow encI 1 es E] →
    K_signalboxlaw41_SliceRuns_33 ts es (es.n : Int) (k : Int) h (SFin h0)
  | 0, k, h, hk, hs => by
    have hen := hs.rowLen 1 rfl
    apply S_signalboxlaw41_SliceRuns_33
    unfold B_signalboxlaw41_SliceRuns_33
    refine mIf_neg (by simp; omega) ?_
    exact ⟨rfl, hs.under⟩
  | d + 1, k, h, hk, hs => by
    have ih := s33 (ts := ts) (es := es) hn hel he d (k + 1)
    have hen := hs.rowLen 1 rfl
    have hkl : k < E.length := by omega
    apply S_signalboxlaw41_SliceRuns_33
    unfold B_signalboxlaw41_SliceRuns_33
    refine mIf_pos (by simp; omega) ?_
    refine hs.idx 1 rfl (by omega) (by omega) fun a ha => ?_
    simp only [Int.toNat_natCast] at ha
    refine hs.rldI0 1 rfl (fun _ => rfl) ha (List.getElem?_eq_getElem hkl) rfl ?_
    rw [← gt_at hkl]
    refine s37 hn hkl (he k) _ (fun h hs => ?_) TK.length 0 0 h (Nat.zero_add _) rfl hs
    rw [wrap64 ((k : Int) + 1) (by omega), show ((k : Int) + 1) = ((k + 1 : Nat) : Int) by omega]
    exact ih h (by omega) hs
theorem s25 {l : Sl} {ts es os : Sl} {TK : List Nat} {E : List Int} {all : List Trn} {t : Trn} {rest : List Nat} {tb : Nat} {kk : Int} (hn : TK.length ≤ 1500) (Q : Value → Hp → Prop)
    (next : ∀ h, Sep h0 h [aRow encN 1 ts TK, aRow encI 1 es E, aRow Trn.enc 3 os all] → K_signalboxlaw41_SliceRuns_21 l q es ts t.to_ os (os.n : Int) (IntKind.i64.wrap (kk + 1)) h Q) : ∀ (d : Nat) (now : Nat) (h : Hp), (now : Int) + d = t.to_ → TK.drop now = List.replicate d t.who ++ rest → now ≤ TK.length → Sep h0 h [aBlk tb [.int .i64 (t.who : Int), .int .i64 t.fr, .int .i64 t.to_], aRow encN 1 ts TK, aRow encI 1 es E, aRow Trn.enc 3 os all] →
    K_signalboxlaw41_SliceRuns_25 l q es ts (now : Int) ⟨tb, 0, none⟩ os (os.n : Int) kk h Q
  | 0, now, h, hd, hr, hl, hs => by
    apply S_signalboxlaw41_SliceRuns_25
    unfold B_signalboxlaw41_SliceRuns_25
    rw [add_mk]
    refine hs.ldI 0 rfl rfl ?_
    refine mIf_neg (by simp; omega) ?_
    have := next h hs.drop
    rw [← show ((now : Int)) = t.to_ by omega] at this
    exact this
  | d + 1, now, h, hd, hr, hl, hs => by
    have ih := s25 (l := l) (rest := rest) (tb := tb) (kk := kk) hn Q next d (now + 1)
    have htn := hs.rowLen 1 rfl
    have hlen : (TK.drop now).length = (List.replicate (d + 1) t.who ++ rest).length := by rw [hr]
    rw [List.length_drop, List.length_append, List.length_replicate] at hlen
    have hlt : now < TK.length := by omega
    rw [List.drop_eq_getElem_cons hlt, List.replicate_succ, List.cons_append] at hr
    obtain ⟨hw, hr⟩ := List.cons.inj hr
    apply S_signalboxlaw41_SliceRuns_25
    unfold B_signalboxlaw41_SliceRuns_25
    rw [add_mk]
    refine hs.ldI 0 rfl rfl ?_
    refine mIf_pos (by simp; omega) ?_
    refine hs.idx 1 rfl (by omega) (by omega) fun a ha => ?_
    simp only [Int.toNat_natCast] at ha
    refine hs.rldI0 1 rfl (fun _ => rfl) ha (List.getElem?_eq_getElem hlt) rfl ?_
    refine hs.ldI 0 rfl rfl ?_
    refine mIf_neg (by rw [hw]; simp) ?_
    rw [wrap64 ((now : Int) + 1) (by omega), show ((now : Int) + 1) = ((now + 1 : Nat) : Int) by omega]
    exact ih h (by omega) hr (by omega) hs
theorem s21 {l : Sl} {ts es os : Sl} {w : List Int} {TK : List Nat} {E : List Int} {all : List Trn} (hn : TK.length ≤ 1500) (hal : all.length ≤ 1500) (hel : E.length ≤ 1000) (he : ∀ i, gt E i = lastI i TK 0 0) (hll : l.n = E.length) : ∀ (d k now : Nat) (so : List Int) (h : Hp), k + d = all.length → TK.drop now = tk (all.drop k) → now ≤ TK.length → TOk w q (all.drop k) so now → Sep h0 h [aRow encN 1 ts TK, aRow encI 1 es E, aRow Trn.enc 3 os all] →
    K_signalboxlaw41_SliceRuns_21 l q es ts (now : Int) os (os.n : Int) (k : Int) h (SFin h0)
  | 0, k, now, so, h, hk, ht, hnow, hok, hs => by
    have htn := hs.rowLen 0 rfl
    have hen := hs.rowLen 1 rfl
    have hon := hs.rowLen 2 rfl
    have hlen : (TK.drop now).length = (tk (all.drop k)).length := by rw [ht]
    rw [List.drop_of_length_le (l := all) (by omega), List.length_drop, show (tk []).length = 0 from rfl] at hlen
    apply S_signalboxlaw41_SliceRuns_21
    unfold B_signalboxlaw41_SliceRuns_21
    refine mIf_neg (by simp; omega) ?_
    refine mIf_neg (by simp; omega) ?_
    exact s33 hn hel he E.length 0 h (Nat.zero_add _) (hs.re [0, 1, 2] rfl |>.reT 3 [2, 0, 1] rfl (by simp)).drop
  | d + 1, k, now, so, h, hk, ht, hnow, hok, hs => by
    have ih := s21 (w := w) (ts := ts) (es := es) (os := os) hn hal hel he hll d (k + 1)
    have htn := hs.rowLen 0 rfl
    have hon := hs.rowLen 2 rfl
    have hkl : k < all.length := by omega
    rw [List.drop_eq_getElem_cons hkl] at ht hok
    obtain ⟨h1, h2, h3, h4, h5, h6, h7⟩ := hok
    have htk : TK.drop now = List.replicate (all[k].to_ - all[k].fr).toNat all[k].who ++ tk (all.drop (k + 1)) := ht
    have hlen : (TK.drop now).length = (List.replicate (all[k].to_ - all[k].fr).toNat all[k].who ++ tk (all.drop (k + 1))).length := by rw [htk]
    rw [List.length_drop, List.length_append, List.length_replicate] at hlen
    apply S_signalboxlaw41_SliceRuns_21
    unfold B_signalboxlaw41_SliceRuns_21
    refine mIf_pos (by simp; omega) ?_
    refine hs.idx 2 rfl (by omega) (by omega) fun a ha => ?_
    simp only [Int.toNat_natCast] at ha
    refine hs.rldI0 2 rfl (fun _ => rfl) ha (List.getElem?_eq_getElem hkl) rfl ?_
    refine hs.rldI 2 (j := 1) rfl (fun _ => rfl) ha (List.getElem?_eq_getElem hkl) rfl ?_
    refine hs.rldI 2 (j := 2) rfl (fun _ => rfl) ha (List.getElem?_eq_getElem hkl) rfl ?_
    generalize all[k] = t at *
    refine Sep.new hs fun tb h hs => ?_
    refine hs.st 0 rfl rfl rfl fun h hs => ?_
    rw [add_mk, add_mk]
    refine hs.st 0 rfl rfl rfl fun h hs => ?_
    refine hs.st 0 rfl rfl rfl fun h hs => ?_
    have hs : Sep h0 h [aBlk tb [.int .i64 (t.who : Int), .int .i64 t.fr, .int .i64 t.to_], aRow encN 1 ts TK, aRow encI 1 es E, aRow Trn.enc 3 os all] := hs
    refine hs.ldI 0 rfl rfl ?_
    rw [mBind_ap]
    refine mIf_neg (by simp [h2]) ?_
    refine hs.ldI 0 rfl rfl ?_
    refine hs.ldI 0 rfl rfl ?_
    rw [mRet_ap, mBind_ap]
    refine mIf_neg (by simp; omega) ?_
    refine hs.ldI 0 rfl rfl ?_
    rw [mRet_ap, mBind_ap]
    refine mIf_neg (by simp; omega) ?_
    refine hs.ldI 0 rfl rfl ?_
    refine hs.ldI 0 rfl rfl ?_
    rw [mRet_ap, wrap64 (t.to_ - t.fr) (by omega)]
    refine mIf_neg (by simp; omega) ?_
    have hnn := hnow
    refine s25 (rest := tk (all.drop (k + 1))) hn _ (fun h hs => ?_) (t.to_ - t.fr).toNat now h (by omega) htk hnow hs
    rw [wrap64 ((k : Int) + 1) (by omega), show ((k : Int) + 1) = ((k + 1 : Nat) : Int) by omega]
    have hto : t.to_ = ((now + (t.to_ - t.fr).toNat : Nat) : Int) := by omega
    rw [hto]
    refine ih (now + (t.to_ - t.fr).toNat) _ h (by omega) ?_ (by omega) (by rw [← hto]; exact h7) hs
    rw [← List.drop_drop, htk, List.drop_left' (by simp)]
theorem s10 (hr : RdI h0.size h0 .i64 s zs) (hn : zs.length ≤ 30) (hsm : sm (zs.map cl) ≤ 1500) {ws ss : Sl} : ∀ (d k : Nat) (h : Hp), k + d = zs.length → Sep h0 h [aRow encI 1 ss (zs.map (fun n => shr (zs.map cl) (cl n))), aRow encI 1 ws (zs.map cl)] →
    K_signalboxlaw41_SliceRuns_10 s q ws ss (ss.n : Int) (k : Int) h (SFin h0)
  | 0, k, h, hk, hs => by
    have hsn := hr.n
    have hssn := hs.rowLen 0 rfl
    rw [List.length_map] at hssn
    apply S_signalboxlaw41_SliceRuns_10
    unfold B_signalboxlaw41_SliceRuns_10
    refine mIf_neg (by simp; omega) ?_
    have hs := hs.drop
    rw [mBind_ap]
    by_cases hq : 1 ≤ q ∧ q ≤ 1048576
    · refine (Run_s (hr.now hs) (by omega) hq hsm).mono ?_
      rintro v h ⟨o1, rfl, hs'⟩
      have hs := hs.rebase hs'
      simp only [unL_slice, List.cons_append, List.nil_append] at hs ⊢
      rw [mBind_ap]
      refine (Ends_s (hr.now hs) (by omega) hq hsm).mono ?_
      rintro v h ⟨o2, rfl, hs'⟩
      have hs := hs.rebase hs'
      simp only [unL_slice, List.cons_append, List.nil_append] at hs ⊢
      refine mIf_neg (by simp; omega) ?_
      rw [mBind_ap]
      have hnn : ∀ i, 0 ≤ gt (zs.map cl) i := fun i => by rw [gt_map_cl]; split; exact (cl_b _).1; omega
      have hwf : ∀ z ∈ zs.map cl, IntKind.i64.min ≤ z ∧ z ≤ IntKind.i64.max := by
        intro z hz
        have := map_cl_b zs z hz
        rw [show IntKind.i64.min = -9223372036854775808 by decide, show IntKind.i64.max = 9223372036854775807 by decide]; omega
      refine (Ticks_s (hs.rowI 2 rfl hwf) (by simp; omega) hq hnn hsm).mono ?_
      rintro v h ⟨o3, rfl, hs'⟩
      have hs := hs.rebase hs'
      simp only [unL_slice, List.cons_append, List.nil_append] at hs ⊢
      rw [List.length_map, ticks_turns q 1500 _ _ 0] at hs
      have hfirst := SI.first hnn
      rw [List.length_map] at hfirst
      have hfd := Hd.first (w := zs.map cl)
      rw [List.length_map] at hfd
      have hok := turns_ok (w := zs.map cl) hq.1 1500 _ _ _ 0 hfirst hfd (by omega)
      have hlen : ((trns zs q).length : Nat) ≤ 1500 := by
        have h8 : (trns zs q).length ≤ (sm (zs.map cl)).toNat := turns_len q hq.1 1500 _ _ 0 hfirst
        omega
      have hends := ends_ok (w := zs.map cl) hq.1 1500 _ _ _ (List.replicate zs.length 0) 0 [] hfirst hfd hsm (by simp) (by simp) (fun i _ => by
        show _ = (0 : Int)
        by_cases h : i < zs.length
        · rw [gt_at (by simpa using h), List.getElem_replicate]
        · rw [gt_out (by simpa using h)])
      have htl : (tk (trns zs q)).length ≤ 1500 := by
        have : ∀ (ts : List Trn) (so : List Int) (now : Int), 0 ≤ now → now ≤ 1500 → TOk (zs.map cl) q ts so now → now + (tk ts).length ≤ 1500 := by
          intro ts
          induction ts with
          | nil => intro so now h0 h1 _; simpa [tk] using h1
          | cons t ts ih =>
            intro so now h0 h1 hh
            obtain ⟨g1, g2, g3, g4, g5, g6, g7⟩ := hh
            have := ih _ _ (by omega) g4 g7
            rw [show tk (t :: ts) = List.replicate (t.to_ - t.fr).toNat t.who ++ tk ts from rfl, List.length_append, List.length_replicate]
            omega
        have h9 : (0 : Int) + ((tk (trns zs q)).length : Int) ≤ 1500 := this _ _ 0 (by omega) (by omega) hok
        omega
      have hs : Sep h0 h [aRow encN 1 o3 (tk (trns zs q)), aRow encI 1 o2 (endsF (zs.map cl) (trns zs q) (List.replicate zs.length 0) (List.replicate zs.length 0)), aRow Trn.enc 3 o1 (trns zs q), aRow encI 1 ws (zs.map cl)] := hs
      have hs := (hs.reT 4 [3, 0, 1, 2] rfl (by simp)).drop
      refine s21 (w := zs.map cl) htl hlen (by rw [endsF_len]; simp; omega) ?_ (by rw [endsF_len]; simpa using hsn) (trns zs q).length 0 0 _ h (Nat.zero_add _) rfl (by omega) hok hs
      intro i
      have := hends i
      rw [List.nil_append] at this
      exact this
    · refine (Run_bad hq).mono ?_
      rintro v h' ⟨rfl, rfl⟩
      simp only [unL_slice]
      rw [mBind_ap]
      refine (Ends_bad hq).mono ?_
      rintro v h ⟨rfl, hs'⟩
      have hs := hs.rebase hs'
      simp only [unL_slice, List.cons_append, List.nil_append] at hs ⊢
      refine mIf_pos (by simp; omega) ?_
      rw [mBind_ap]
      refine mIf_pos (by decide) ?_
      rw [mBind_ap]
      refine (Fair_bad hq (hr.now hs) (by omega)).mono ?_
      rintro v h ⟨rfl, hs'⟩
      have hs := hs.rebase hs'
      simp only [unI_int]
      exact ⟨rfl, hs.under⟩
  | d + 1, k, h, hk, hs => by
    have ih := s10 hr hn hsm (ws := ws) (ss := ss) d (k + 1)
    have hssn := hs.rowLen 0 rfl
    rw [List.length_map] at hssn
    have hkl : k < zs.length := by omega
    apply S_signalboxlaw41_SliceRuns_10
    unfold B_signalboxlaw41_SliceRuns_10
    refine mIf_pos (by simp; omega) ?_
    refine hs.idx 0 rfl (by omega) (by simp; omega) fun a ha => ?_
    simp only [Int.toNat_natCast] at ha
    refine hs.rldI0 0 rfl (fun _ => rfl) ha (List.getElem?_eq_getElem (by simpa using hkl)) rfl ?_
    have hwf : ∀ z ∈ zs.map cl, IntKind.i64.min ≤ z ∧ z ≤ IntKind.i64.max := by
      intro z hz
      have := map_cl_b zs z hz
      rw [show IntKind.i64.min = -9223372036854775808 by decide, show IntKind.i64.max = 9223372036854775807 by decide]; omega
    refine mQ_intro _ (rShared_s (hs.rowI 1 rfl hwf) (by simp; omega) (map_cl_b zs) (i := k) (by simpa using hkl)) ?_
    simp only [unI_int]
    refine mIf_neg (by simp) ?_
    rw [wrap64 ((k : Int) + 1) (by omega), show ((k : Int) + 1) = ((k + 1 : Nat) : Int) by omega]
    exact ih h (by omega) hs
theorem SliceRuns_ok (hr : RdI h0.size h0 .i64 s zs) (hz : s.n * 8 ≤ 140737488351232) (_hq : -9223372036854775808 ≤ q ∧ q ≤ 9223372036854775807) : N_signalboxlaw41_SliceRuns s q h0 (SFin h0) := by
  have hsn := hr.n
  apply S_signalboxlaw41_SliceRuns
  unfold B_signalboxlaw41_SliceRuns
  rw [mBind_ap]
  refine (sfixed_s (Sep.init h0)).mono ?_
  rintro v h ⟨rfl, hs⟩
  simp only [unB_bool]
  refine mIf_neg rfl ?_
  rw [mBind_ap]
  refine (works_s (hr.now hs) (by omega)).mono ?_
  rintro v h1 ⟨o, ok, rfl, hu, hok⟩
  simp only [un2_tuple, unL_slice, unB_bool]
  refine mIf_intro (fun hc => ?_) (fun hc => ?_)
  · exact ⟨rfl, hs.under.trans ⟨hu.size, fun b hb => hu.at_ b (Nat.lt_of_lt_of_le hb hs.under.size)⟩⟩
  · obtain ⟨hn, hsm, hs'⟩ := hok (by simpa using hc)
    have hs := hs.rebase hs'
    rw [mBind_ap]
    refine (Shared_s (hr.now hs) (by omega)).mono ?_
    rintro v h ⟨ss, rfl, hs'⟩
    have hs := hs.rebase hs'
    simp only [unL_slice, List.cons_append, List.nil_append] at hs ⊢
    have hssn := hs.rowLen 0 rfl
    rw [List.length_map] at hssn
    refine mIf_neg (by simp; omega) ?_
    exact s10 hr hn hsm zs.length 0 h (Nat.zero_add _) hs
/-! fairness -/
theorem f16 {l xs ws ts : Sl} {so w : List Int} {i : Nat} {k t : Int} (hb : SoB so) (hl : so.length = w.length) (hln : so.length ≤ 1000) (hi : i < so.length) (hle : gt so i ≤ gt w i) (Q : Value → Hp → Prop) : ∀ (d j : Nat) (worst : Int) (h : Hp), j + d = so.length →
    (∀ h, Sep h0 h (aRow encI 1 xs so :: aRow encI 1 ws w :: R) → K_signalboxlaw41_SliceFair_13 l q ws xs (if gt so i = gt w i then worst else wk (gt so i) (so.drop j) worst) ts t k (xs.n : Int) (IntKind.i64.wrap ((i : Int) + 1)) h Q) →
    Sep h0 h (aRow encI 1 xs so :: aRow encI 1 ws w :: R) →
    K_signalboxlaw41_SliceFair_16 l q ws xs worst (i : Int) ts t k (xs.n : Int) (i : Int) (xs.n : Int) (j : Int) h Q
  | 0, j, worst, h, hj, next, hs => by
    have hxn := hs.rowLen 0 rfl
    apply S_signalboxlaw41_SliceFair_16
    unfold B_signalboxlaw41_SliceFair_16
    refine mIf_neg (by simp; omega) ?_
    rw [List.drop_of_length_le (by omega), show wk (gt so i) [] worst = worst from rfl, ite_self] at next
    exact next h hs
  | d + 1, j, worst, h, hj, next, hs => by
    have ih := fun worst h => f16 (l := l) (ts := ts) (k := k) (t := t) (xs := xs) (ws := ws) hb hl hln hi hle Q d (j + 1) worst h (by omega)
    have hxn := hs.rowLen 0 rfl
    have hjl : j < so.length := by omega
    have hbj := hb j
    have hbi := hb i
    rw [List.drop_eq_getElem_cons hjl] at next
    have e1 : ∀ hh : (i : Int).toNat < so.length, so[(i : Int).toNat]'hh = gt so i := fun hh => (gt_at hi).symm
    have e2 : ∀ hh : (i : Int).toNat < w.length, w[(i : Int).toNat]'hh = gt w i := fun hh => (gt_at (by omega)).symm
    have e3 : ∀ hh : (j : Int).toNat < so.length, so[(j : Int).toNat]'hh = gt so j := fun hh => (gt_at hjl).symm
    have hiw : IntKind.i64.wrap ((j : Int) + 1) = ((j + 1 : Nat) : Int) := by rw [wrap64 _ (by omega)]; omega
    apply S_signalboxlaw41_SliceFair_16
    unfold B_signalboxlaw41_SliceFair_16
    refine mIf_pos (by simp; omega) ?_
    refine hs.idx 0 rfl (by omega) (by omega) fun a ha => ?_
    refine hs.rldI0 0 rfl (fun _ => rfl) ha (List.getElem?_eq_getElem (by omega)) rfl ?_
    refine hs.idx 1 rfl (by omega) (by omega) fun a ha => ?_
    refine hs.rldI0 1 rfl (fun _ => rfl) ha (List.getElem?_eq_getElem (by omega)) rfl ?_
    rw [e1, e2, hiw]
    refine mIf_dec (fun hc => ?_) (fun hc => ?_)
    · refine hs.idx 0 rfl (by omega) (by omega) fun a ha => ?_
      refine hs.rldI0 0 rfl (fun _ => rfl) ha (List.getElem?_eq_getElem (by omega)) rfl ?_
      refine hs.idx 0 rfl (by omega) (by omega) fun a ha => ?_
      refine hs.rldI0 0 rfl (fun _ => rfl) ha (List.getElem?_eq_getElem (by omega)) rfl ?_
      rw [e3, e1, wrap64 (gt so j - gt so i) (by omega)]
      refine ih _ h (fun h hs => ?_) hs
      have := next h hs
      rw [if_neg (by omega)] at this ⊢
      rw [← gt_at hjl] at this
      exact this
    · refine ih _ h (fun h hs => ?_) hs
      have := next h hs
      rw [if_pos (by omega)] at this ⊢
      exact this
theorem f13 {l xs ws ts : Sl} {so w : List Int} {k t : Int} (hb : SoB so) (hl : so.length = w.length) (hln : so.length ≤ 1000) (hle : ∀ i, gt so i ≤ gt w i) (Q : Value → Hp → Prop) : ∀ (d i : Nat) (worst : Int) (h : Hp), i + d = so.length →
    (∀ h, Sep h0 h (aRow encI 1 xs so :: aRow encI 1 ws w :: R) → K_signalboxlaw41_SliceFair_9 l q ws xs (wi w so ((List.range so.length).drop i) worst) ts t (IntKind.i64.wrap (k + 1)) h Q) →
    Sep h0 h (aRow encI 1 xs so :: aRow encI 1 ws w :: R) →
    K_signalboxlaw41_SliceFair_13 l q ws xs worst ts t k (xs.n : Int) (i : Int) h Q
  | 0, i, worst, h, hj, next, hs => by
    have hxn := hs.rowLen 0 rfl
    apply S_signalboxlaw41_SliceFair_13
    unfold B_signalboxlaw41_SliceFair_13
    refine mIf_neg (by simp; omega) ?_
    rw [List.drop_of_length_le (by simp; omega)] at next
    exact next h hs
  | d + 1, i, worst, h, hj, next, hs => by
    have ih := fun worst h => f13 (l := l) (ts := ts) (k := k) (t := t) (xs := xs) (ws := ws) hb hl hln hle Q d (i + 1) worst h (by omega)
    have hxn := hs.rowLen 0 rfl
    have hil : i < so.length := by omega
    have hdr : (List.range so.length).drop i = i :: (List.range so.length).drop (i + 1) := by rw [List.drop_eq_getElem_cons (by simpa using hil)]; simp
    rw [hdr] at next
    apply S_signalboxlaw41_SliceFair_13
    unfold B_signalboxlaw41_SliceFair_13
    refine mIf_pos (by simp; omega) ?_
    refine f16 hb hl hln hil (hle i) Q so.length 0 worst h (Nat.zero_add _) (fun h hs => ?_) hs
    rw [wrap64 ((i : Int) + 1) (by omega), show ((i : Int) + 1) = ((i + 1 : Nat) : Int) by omega, List.drop_zero]
    exact ih _ h next hs
theorem f9 {xs ws ts : Sl} (hr : RdI h0.size h0 .i64 s zs) (hn : zs.length ≤ 30) (hq : 1 ≤ q ∧ q ≤ 1048576) (hsm : sm (zs.map cl) ≤ 1500) {all : List Trn} (hal : all.length ≤ 100000) (hF : fairF (zs.map cl) (trns zs q) (List.replicate zs.length 0) 0 ≤ q) : ∀ (d k : Nat) (so : List Int) (now worst : Int) (h : Hp), k + d = all.length → so.length = zs.length → SoB so → (∀ i, gt so i ≤ gt (zs.map cl) i) → 0 ≤ now → TOk (zs.map cl) q (all.drop k) so now → fairF (zs.map cl) (all.drop k) so worst = fairF (zs.map cl) (trns zs q) (List.replicate zs.length 0) 0 → Sep h0 h [aRow encI 1 xs so, aRow encI 1 ws (zs.map cl), aRow Trn.enc 3 ts all] →
    K_signalboxlaw41_SliceFair_9 s q ws xs worst ts (ts.n : Int) (k : Int) h (SFin h0)
  | 0, k, so, now, worst, h, hk, hl, hb, hle, h0n, hok, hf, hs => by
    have htn := hs.rowLen 2 rfl
    apply S_signalboxlaw41_SliceFair_9
    unfold B_signalboxlaw41_SliceFair_9
    refine mIf_neg (by simp; omega) ?_
    rw [List.drop_of_length_le (by omega)] at hf
    have hf : worst = _ := hf
    rw [mBind_ap]
    refine (Fair_s (hr.now hs) (by omega) hq hsm).mono ?_
    rintro v h ⟨rfl, hs'⟩
    have hs := hs.rebase hs'
    simp only [unI_int]
    rw [← hf] at hF ⊢
    refine ⟨by simp [hF], hs.under⟩
  | d + 1, k, so, now, worst, h, hk, hl, hb, hle, h0n, hok, hf, hs => by
    have ih := f9 (xs := xs) (ws := ws) (ts := ts) hr hn hq hsm hal hF d (k + 1)
    have htn := hs.rowLen 2 rfl
    have hkl : k < all.length := by omega
    rw [List.drop_eq_getElem_cons hkl] at hok hf
    obtain ⟨h1, h2, h3, h4, h5, h6, h7⟩ := hok
    have hw1 : gt (zs.map cl) all[k].who ≤ 1500 := by
      have := sm_ge (zs.map cl) all[k].who (fun x hx => (map_cl_b zs x hx).1)
      omega
    have hb1 := hb all[k].who
    rw [show fairF (zs.map cl) (all[k] :: all.drop (k + 1)) so worst = fairF (zs.map cl) (all.drop (k + 1)) (so.set all[k].who (gt so all[k].who + (all[k].to_ - all[k].fr))) (wi (zs.map cl) (so.set all[k].who (gt so all[k].who + (all[k].to_ - all[k].fr))) (List.range so.length) worst) from rfl] at hf
    apply S_signalboxlaw41_SliceFair_9
    unfold B_signalboxlaw41_SliceFair_9
    refine mIf_pos (by simp; omega) ?_
    refine hs.idx 2 rfl (by omega) (by omega) fun a ha => ?_
    simp only [Int.toNat_natCast] at ha
    refine hs.rldI0 2 rfl (fun _ => rfl) ha (List.getElem?_eq_getElem hkl) rfl ?_
    refine hs.rldI 2 (j := 1) rfl (fun _ => rfl) ha (List.getElem?_eq_getElem hkl) rfl ?_
    refine hs.rldI 2 (j := 2) rfl (fun _ => rfl) ha (List.getElem?_eq_getElem hkl) rfl ?_
    generalize all[k] = t at *
    refine Sep.new hs fun tb h hs => ?_
    refine hs.st 0 rfl rfl rfl fun h hs => ?_
    rw [add_mk, add_mk]
    refine hs.st 0 rfl rfl rfl fun h hs => ?_
    refine hs.st 0 rfl rfl rfl fun h hs => ?_
    have hs : Sep h0 h [aBlk tb [.int .i64 (t.who : Int), .int .i64 t.fr, .int .i64 t.to_], aRow encI 1 xs so, aRow encI 1 ws (zs.map cl), aRow Trn.enc 3 ts all] := hs
    refine hs.ldI 0 rfl rfl ?_
    refine hs.idx 1 rfl (by omega) (by omega) fun a ha => ?_
    refine hs.rldI0 1 rfl (fun _ => rfl) ha (List.getElem?_eq_getElem (by omega)) rfl ?_
    have hg : so[(t.who : Int).toNat]'(by omega) = gt so t.who := by rw [gt_at h1]; congr 1
    rw [hg]
    refine hs.ldI 0 rfl rfl ?_
    refine hs.ldI 0 rfl rfl ?_
    refine hs.idx 1 rfl (by omega) (by omega) fun a ha => ?_
    rw [wrap64 (t.to_ - t.fr) (by omega), wrap64 (gt so t.who + (t.to_ - t.fr)) (by omega)]
    refine hs.ist 1 rfl ha (by omega) fun h hs => ?_
    simp only [List.set_cons_zero, List.set_cons_succ, Int.toNat_natCast] at hs
    have hs := hs.drop
    have hb' : SoB (so.set t.who (gt so t.who + (t.to_ - t.fr))) := by
      intro j
      rw [gt_set h1]
      have := hb j
      split <;> omega
    have hle' : ∀ i, gt (so.set t.who (gt so t.who + (t.to_ - t.fr))) i ≤ gt (zs.map cl) i := by
      intro j
      rw [gt_set h1]
      have := hle j
      split
      · rename_i hj; subst hj; omega
      · exact this
    have hll : (so.set t.who (gt so t.who + (t.to_ - t.fr))).length = so.length := by simp
    refine f13 hb' (by simp; omega) (by omega) hle' _ _ 0 worst h (Nat.zero_add _) (fun h hs => ?_) hs
    rw [wrap64 ((k : Int) + 1) (by omega), show ((k : Int) + 1) = ((k + 1 : Nat) : Int) by omega]
    rw [List.drop_zero, hll]
    rw [← h2] at h7
    exact ih _ t.to_ _ h (by omega) (by omega) hb' hle' (by omega) h7 hf hs
theorem SliceFair_ok (hr : RdI h0.size h0 .i64 s zs) (hz : s.n * 8 ≤ 140737488351232) (_hq : -9223372036854775808 ≤ q ∧ q ≤ 9223372036854775807) : N_signalboxlaw41_SliceFair s q h0 (SFin h0) := by
  have hsn := hr.n
  apply S_signalboxlaw41_SliceFair
  unfold B_signalboxlaw41_SliceFair
  rw [mBind_ap]
  refine (sfixed_s (Sep.init h0)).mono ?_
  rintro v h ⟨rfl, hs⟩
  simp only [unB_bool]
  refine mIf_neg rfl ?_
  rw [mBind_ap]
  refine (works_s (hr.now hs) (by omega)).mono ?_
  rintro v h1 ⟨o, ok, rfl, hu, hok⟩
  simp only [un2_tuple, unL_slice, unB_bool]
  refine mIf_intro (fun hc => ?_) (fun hc => ?_)
  · exact ⟨rfl, hs.under.trans ⟨hu.size, fun b hb => hu.at_ b (Nat.lt_of_lt_of_le hb hs.under.size)⟩⟩
  · simp only [Bool.or_eq_false_iff, Bool.not_eq_false', decide_eq_false_iff_not] at hc
    obtain ⟨hn, hsm, hs'⟩ := hok hc.1.1
    have hq : 1 ≤ q ∧ q ≤ 1048576 := by omega
    have hs := hs.rebase hs'
    refine hs.make encI 1 0 rfl (by omega) (by omega) (by omega) fun xs h hxs hs => ?_
    rw [show List.replicate (s.n : Int).toNat (0 : Int) = List.replicate zs.length 0 by rw [Int.toNat_natCast, hsn]] at hs
    rw [mBind_ap]
    refine (Run_s (hr.now hs) (by omega) hq hsm).mono ?_
    rintro v h ⟨os, rfl, hs'⟩
    have hs := hs.rebase hs'
    simp only [unL_slice, List.cons_append, List.nil_append] at hs ⊢
    have hs : Sep h0 h [aRow encI 1 xs (List.replicate zs.length 0), aRow encI 1 o (zs.map cl), aRow Trn.enc 3 os (trns zs q)] := hs.re [1, 2, 0] rfl
    have hnn : ∀ i, 0 ≤ gt (zs.map cl) i := fun i => by rw [gt_map_cl]; split; exact (cl_b _).1; omega
    have hfirst := SI.first hnn
    rw [List.length_map] at hfirst
    have hfd := Hd.first (w := zs.map cl)
    rw [List.length_map] at hfd
    have hok := turns_ok (w := zs.map cl) hq.1 1500 _ _ _ 0 hfirst hfd (by omega)
    have hlen : ((trns zs q).length : Nat) ≤ 1500 := by
      have h8 : (trns zs q).length ≤ (sm (zs.map cl)).toNat := turns_len q hq.1 1500 _ _ 0 hfirst
      omega
    have hrnd := Rnd.first (w := zs.map cl) hq.1 (row0 (zs.map cl) zs.length)
    rw [List.length_map] at hrnd
    have hF := fair_ok (w := zs.map cl) hq.1 1500 _ _ _ 0 0 hfirst hfd hrnd (by omega)
    have hz0 : ∀ k, gt (List.replicate zs.length 0) k = 0 := by
      intro k
      by_cases h : k < zs.length
      · rw [gt_at (by simpa using h), List.getElem_replicate]
      · rw [gt_out (by simpa using h)]
    exact f9 hr hn hq hsm (Nat.le_trans hlen (by omega)) hF (trns zs q).length 0 _ 0 0 h (Nat.zero_add _) (by simp) (fun k => by rw [hz0]; omega) (fun i => by rw [hz0]; exact hnn i) (by omega) hok rfl hs
end
end Go.Proofs.Ytinjifhjjkdmoaa
