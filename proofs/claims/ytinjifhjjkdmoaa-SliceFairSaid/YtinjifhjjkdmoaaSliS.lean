/- Turns of equal length: ticks, and the fixed facts. Conditions: none. -/
import Derived.Test.YtinjifhjjkdmoaaSliR
import Derived.Test.YtinjifhjjkdmoaaSbW
namespace Go.Proofs.Ytinjifhjjkdmoaa
open Go Go.Sb
set_option linter.unusedSimpArgs false
set_option linter.unusedVariables false
abbrev SFin (h0 : Hp) : Value → Hp → Prop := fun v h' => v = .bool true ∧ Under h0.size h0 h'
section
variable {h0 h : Hp} {R : List As} {s : Sl} {zs : List Int} {q : Int}
theorem cells_of {X : Type} {enc : X → List Value} {sz : Nat} {s : Sl} {xs : List X} {L : List As} (hs : Sep h0 h L) (k : Nat) (hk : L[k]? = some (aRow enc sz s xs)) (hl : ∀ x, (enc x).length = sz) : slcells h s s.n sz = some (xs.flatMap enc) := by
  obtain ⟨F, hF, _⟩ := hs.holds k hk
  exact aRow_cells hl hF
theorem set_gt (l : List Int) (i : Nat) : l.set i (gt l i) = l := by
  by_cases h : i < l.length
  · rw [gt_at h, List.set_getElem_self]
  · rw [List.set_eq_of_length_le (by omega)]
theorem ticks14 (hq : 1 ≤ q ∧ q ≤ 1048576) {lf : List Int} {i : Nat} {row : List Nat} {done : List Nat} (hi : i < lf.length) (hp : 0 < gt lf i) (hb : gt lf i ≤ 1500) (hdn : done.length ≤ 100000) (hrw : row.length ≤ 1000) {ls rs : Sl} (Q : Value → Hp → Prop)
    (next : ∀ (rs os : Sl) (h : Hp), Sep h0 h [aRow encN 1 rs (if gt lf i - min (gt lf i) q > 0 then row ++ [i] else row), aRow encI 1 ls (lf.set i (gt lf i - min (gt lf i) q)), aRow encN 1 os (done ++ List.replicate (min (gt lf i) q).toNat i)] → K_signalboxref41_Ticks_10 q ls rs os h Q) :
    ∀ (d n : Nat) (os : Sl) (h : Hp), n + d = (min (gt lf i) q).toNat → Sep h0 h [aRow encN 1 rs row, aRow encI 1 ls (lf.set i (gt lf i - n)), aRow encN 1 os (done ++ List.replicate n i)] → K_signalboxref41_Ticks_14 q ls rs os (i : Int) (n : Int) h Q
  | 0, n, os, h, hn, hs => by
    have hll : (lf.set i (gt lf i - n)).length = lf.length := by simp
    have hg : (lf.set i (gt lf i - n))[(i : Int).toNat]'(by rw [hll]; omega) = gt lf i - n := by simp
    have fin : (mIdx ls (i : Int) 1 fun (x65 : Addr) =>
        mLdI .i64 x65 fun (x66 : Int) =>
        mIf (decide (x66 > (0 : Int))) (
          mNew #[.int .i64 (i : Int)] 3 fun (x70 : Addr) =>
          mApp 3 1 8 #[.int .i64 (0 : Int)] rs ⟨(some x70), 1, 1⟩ fun (x71 : Sl) =>
          K_signalboxref41_Ticks_10 q ls x71 os) (
          K_signalboxref41_Ticks_10 q ls rs os)) h Q := by
      refine hs.idx 1 rfl (by omega) (by omega) fun a ha => ?_
      refine hs.rldI0 1 rfl (fun _ => rfl) ha (List.getElem?_eq_getElem (by rw [hll]; omega)) rfl ?_
      rw [hg]
      have hmn : (n : Int) = min (gt lf i) q := by omega
      rw [hmn] at hs ⊢
      rw [show n = (min (gt lf i) q).toNat by omega] at hs
      refine mIf_dec (fun hc => ?_) (fun hc => ?_)
      · rw [if_pos hc] at next
        exact app_one (enc := encN) i hs rfl (fun _ => rfl) rfl (by omega) fun rs' h _ hs => next rs' os h hs
      · rw [if_neg hc] at next
        exact next rs os h hs
    apply S_signalboxref41_Ticks_14
    unfold B_signalboxref41_Ticks_14
    rw [mBind_ap]
    by_cases hnq : (n : Int) < q
    · refine mIf_pos (decide_eq_true hnq) ?_
      refine hs.idx 1 rfl (by omega) (by omega) fun a ha => ?_
      refine hs.rldI0 1 rfl (fun _ => rfl) ha (List.getElem?_eq_getElem (by rw [hll]; omega)) rfl ?_
      rw [hg, mRet_ap]
      refine mIf_neg (by simp; omega) ?_
      exact fin
    · refine mIf_neg (decide_eq_false hnq) ?_
      rw [mRet_ap]
      refine mIf_neg rfl ?_
      exact fin
  | d + 1, n, os, h, hn, hs => by
    have ih := ticks14 hq hi hp hb hdn hrw (rs := rs) Q next d (n + 1)
    have hll : (lf.set i (gt lf i - n)).length = lf.length := by simp
    have hg : (lf.set i (gt lf i - n))[(i : Int).toNat]'(by rw [hll]; omega) = gt lf i - n := by simp
    apply S_signalboxref41_Ticks_14
    unfold B_signalboxref41_Ticks_14
    rw [mBind_ap]
    refine mIf_pos (decide_eq_true (by omega)) ?_
    refine hs.idx 1 rfl (by omega) (by omega) fun a ha => ?_
    refine hs.rldI0 1 rfl (fun _ => rfl) ha (List.getElem?_eq_getElem (by rw [hll]; omega)) rfl ?_
    rw [hg, mRet_ap]
    refine mIf_pos (decide_eq_true (by omega)) ?_
    refine hs.idx 1 rfl (by omega) (by omega) fun a ha => ?_
    refine hs.rldI0 1 rfl (fun _ => rfl) ha (List.getElem?_eq_getElem (by rw [hll]; omega)) rfl ?_
    rw [hg, wrap64 (gt lf i - n - 1) (by omega)]
    refine hs.idx 1 rfl (by omega) (by omega) fun a ha => ?_
    refine hs.ist 1 rfl ha (by rw [hll]; omega) fun h hs => ?_
    simp only [List.set_cons_zero, List.set_cons_succ, Int.toNat_natCast, List.set_set] at hs
    have hs : Sep h0 h [aRow encN 1 os (done ++ List.replicate n i), aRow encN 1 rs row, aRow encI 1 ls (lf.set i (gt lf i - n - 1))] := hs.re [2, 0, 1] rfl
    refine app_one (enc := encN) i hs rfl (fun _ => rfl) rfl (by simp; omega) fun os' h _ hs => ?_
    rw [wrap64 ((n : Int) + 1) (by omega), show ((n : Int) + 1) = ((n + 1 : Nat) : Int) by omega]
    refine ih os' h (by omega) ?_
    have hs : Sep h0 h [aRow encN 1 rs row, aRow encI 1 ls (lf.set i (gt lf i - n - 1)), aRow encN 1 os' (done ++ List.replicate n i ++ [i])] := hs.re [1, 2, 0] rfl
    rw [List.append_assoc, ← List.replicate_succ', show gt lf i - n - 1 = gt lf i - ((n + 1 : Nat) : Int) by omega] at hs
    exact hs
theorem ticks10 (hq : 1 ≤ q ∧ q ≤ 1048576) : ∀ (f : Nat) (lf : List Int) (row : List Nat) (done : List Nat) (ls rs os : Sl) (h : Hp), SI lf row → lf.length ≤ 1000 → sm lf ≤ f → (done.length : Int) + sm lf ≤ 1500 → row.length ≤ 1000 → Sep h0 h [aRow encN 1 rs row, aRow encI 1 ls lf, aRow encN 1 os done] →
    K_signalboxref41_Ticks_10 q ls rs os h (fun v h' => ∃ o : Sl, v = .slice o.p o.n o.c ∧ Sep h0 h' [aRow encN 1 o (done ++ ticks q f lf row)]) := by
  have stop : ∀ (f : Nat) (lf : List Int) (done : List Nat) (ls rs os : Sl) (h : Hp), Sep h0 h [aRow encN 1 rs [], aRow encI 1 ls lf, aRow encN 1 os done] →
      K_signalboxref41_Ticks_10 q ls rs os h (fun v h' => ∃ o : Sl, v = .slice o.p o.n o.c ∧ Sep h0 h' [aRow encN 1 o (done ++ ticks q f lf [])]) := by
    intro f lf done ls rs os h hs
    have hrn := hs.rowLen 0 rfl
    apply S_signalboxref41_Ticks_10
    unfold B_signalboxref41_Ticks_10
    refine mIf_neg (by rw [hrn]; simp) ?_
    have : ticks q f lf [] = [] := by cases f <;> rfl
    rw [this, List.append_nil]
    exact ⟨os, rfl, hs.drop.drop⟩
  intro f
  induction f with
  | zero =>
    intro lf row done ls rs os h hI hn hf hd hrw hs
    have : row = [] := by
      cases row with
      | nil => rfl
      | cons i row =>
        have h1 := (hI.mem i).1 (by simp)
        have h2 := sm_ge lf i hI.all
        omega
    subst this
    exact stop 0 lf done ls rs os h hs
  | succ f ih =>
    intro lf row done ls rs os h hI hn hf hd hrw hs
    cases row with
    | nil => exact stop (f + 1) lf done ls rs os h hs
    | cons i row =>
      have hi := hI.lt (i := i) (by simp)
      have hp := (hI.mem i).1 (by simp)
      have hge := sm_ge lf i hI.all
      have hsum := hI.sum (q := q)
      have hst := hI.step hq.1
      have hnn := sm_nonneg _ hst.all
      have hrn := hs.rowLen 0 rfl
      rw [List.length_cons] at hrn hrw
      apply S_signalboxref41_Ticks_10
      unfold B_signalboxref41_Ticks_10
      refine mIf_pos (by simp; omega) ?_
      refine hs.idx 0 rfl (by omega) (by simp) fun a ha => ?_
      refine hs.rldI0 0 rfl (fun _ => rfl) ha (List.getElem?_eq_getElem (by simp)) rfl ?_
      simp only [Int.toNat_zero, List.getElem_cons_zero]
      refine Sep.new hs fun nb h hs => ?_
      have hs := Blk.row (enc := encN) (xs := []) (sz := 1) (n := 0) hs 0 rfl rfl rfl
      simp only [List.set_cons_zero] at hs
      refine hs.slc 1 rfl (fun _ => rfl) (by omega) (by omega) (by simp; omega) rfl fun rs' hrs' hs => ?_
      simp only [List.set_cons_zero, List.set_cons_succ] at hs
      rw [show ((rs.n : Int)).toNat = (i :: row).length by simp; omega, List.take_length, show (1 : Int).toNat = 1 from rfl, List.drop_succ_cons, List.drop_zero] at hs
      have hcells := cells_of hs 1 rfl (fun _ => rfl)
      have hrn' := hs.rowLen 1 rfl
      refine hs.app_ 0 row rfl (fun _ => rfl) hcells hrn' (by intro v hv; obtain ⟨w, _, hw⟩ := List.mem_flatMap.1 hv; simp only [List.mem_singleton] at hw; subst hw; rfl) rfl (by omega) (by simp; omega) fun rs2 h hrs2 hs => ?_
      simp only [List.set_cons_zero, List.set_cons_succ, List.nil_append] at hs
      have hs : Sep h0 h [aRow encN 1 rs' row, aRow encN 1 rs2 row, aRow encI 1 ls lf, aRow encN 1 os done] := hs.re [1, 0, 2, 3] rfl
      have hs := hs.drop
      have goal : ticks q (f + 1) lf (i :: row) = List.replicate (min (gt lf i) q).toNat i ++ ticks q f (lf.set i (gt lf i - min (gt lf i) q)) (if gt lf i - min (gt lf i) q > 0 then row ++ [i] else row) := rfl
      rw [goal]
      refine ticks14 (row := row) (done := done) hq hi hp (by omega) (by omega) (by omega) _ (fun rs os h hs => ?_) (min (gt lf i) q).toNat 0 os h (Nat.zero_add _) (by simpa [set_gt] using hs)
      have := ih _ _ (done ++ List.replicate (min (gt lf i) q).toNat i) ls rs os h hst (by simpa using hn) (by omega) (by simp; omega) (by split <;> first | (simp; omega) | omega) hs
      rw [List.append_assoc] at this
      exact this
theorem ticks4 {w : List Int} (hr : RdI h0.size h0 .i64 s w) (hn : w.length ≤ 1000) (hq : 1 ≤ q ∧ q ≤ 1048576) (hnn : ∀ i, 0 ≤ gt w i) (hsm : sm w ≤ 1500) : ∀ (d k : Nat) (ls rs : Sl) (h : Hp), k + d = w.length → Sep h0 h [aRow encN 1 rs (row0 w k), aRow encI 1 ls w] →
    K_signalboxref41_Ticks_4 q ls rs s (s.n : Int) (k : Int) h (fun v h' => ∃ o : Sl, v = .slice o.p o.n o.c ∧ Sep h0 h' [aRow encN 1 o (ticks q 1500 w (row0 w w.length))])
  | 0, k, ls, rs, h, hk, hs => by
    have hsn := hr.n
    apply S_signalboxref41_Ticks_4
    unfold B_signalboxref41_Ticks_4
    refine mIf_neg (by simp; omega) ?_
    have hfirst := SI.first hnn
    have hkl : k = w.length := by omega
    subst hkl
    have hs : Sep h0 h [aRow encN 1 rs (row0 w w.length), aRow encI 1 ls w, aRow encN 1 ⟨none, 0, 0⟩ []] := (hs.nilRow encN 1).re [1, 2, 0] rfl
    have := ticks10 hq 1500 w (row0 w w.length) [] ls rs _ h hfirst hn (by omega) (by simpa using hsm) (by have := row0_le w w.length; omega) hs
    rw [List.nil_append] at this
    exact this
  | d + 1, k, ls, rs, h, hk, hs => by
    have ih := ticks4 hr hn hq hnn hsm d (k + 1)
    have hsn := hr.n
    have hkl : k < w.length := by omega
    have hgk : gt w k = w[k] := gt_at hkl
    have hrs := row0_succ w k
    rw [hgk] at hrs
    have hrl := row0_le w k
    apply S_signalboxref41_Ticks_4
    unfold B_signalboxref41_Ticks_4
    refine mIf_pos (by simp; omega) ?_
    refine hs.argIn hr hkl ?_
    rw [wrap64 ((k : Int) + 1) (by omega), show ((k : Int) + 1) = ((k + 1 : Nat) : Int) by omega]
    refine mIf_dec (fun hc => ?_) (fun hc => ?_)
    · refine app_one (enc := encN) k hs rfl (fun _ => rfl) rfl (by omega) fun rs' h hrs' hs => ?_
      rw [if_pos hc] at hrs
      rw [← hrs] at hs
      exact ih ls rs' h (by omega) hs
    · rw [if_neg hc] at hrs
      rw [← hrs] at hs
      exact ih ls rs _ (by omega) hs
theorem Ticks_s {w : List Int} (hr : RdI h.size h .i64 s w) (hn : w.length ≤ 1000) (hq : 1 ≤ q ∧ q ≤ 1048576) (hnn : ∀ i, 0 ≤ gt w i) (hsm : sm w ≤ 1500) : N_signalboxref41_Ticks s q h (fun v h' => ∃ o : Sl, v = .slice o.p o.n o.c ∧ Sep h h' [aRow encN 1 o (ticks q 1500 w (row0 w w.length))]) := by
  have hs := Sep.init h
  apply S_signalboxref41_Ticks
  unfold B_signalboxref41_Ticks
  refine Sep.new hs fun nb h1 hs => ?_
  have hs := Blk.row (enc := encI) (xs := []) (sz := 1) (n := 0) hs 0 rfl rfl rfl
  simp only [List.set_cons_zero] at hs
  refine hs.appI 0 rfl (hr.under hs.under) rfl (by omega) (by simp; omega) fun ls h1 hls hs => ?_
  simp only [List.set_cons_zero, List.nil_append] at hs
  exact ticks4 hr hn hq hnn hsm w.length 0 ls _ h1 (by omega) (hs.nilRow encN 1)
theorem sfixed_s (hs : Sep h0 h R) : N_signalboxlaw41_fixed h (fun v h' => v = .bool true ∧ Sep h0 h' R) := by
  have hT : trns [3, 2] 2 = [⟨0, 0, 2⟩, ⟨1, 2, 4⟩, ⟨0, 4, 5⟩] := rfl
  have hE : endsF ([3, 2].map cl) (trns [3, 2] 2) [0, 0] [0, 0] = [5, 4] := by rw [hT]; rfl
  have hF : fairF ([3, 2].map cl) (trns [3, 2] 2) [0, 0] 0 = 2 := by rw [hT]; rfl
  have hS : [(3 : Int), 2].map (fun n => shr ([3, 2].map cl) (cl n)) = [5, 4] := rfl
  have hq : (1 : Int) ≤ 2 ∧ (2 : Int) ≤ 1048576 := by omega
  have hsm : sm ([3, 2].map cl) ≤ 1500 := by decide
  apply S_signalboxlaw41_fixed
  unfold B_signalboxlaw41_fixed
  have wf : ∀ z ∈ [(3 : Int), 2], IntKind.i64.min ≤ z ∧ z ≤ IntKind.i64.max := by intro z hz; simp at hz; rw [show IntKind.i64.min = -9223372036854775808 by decide, show IntKind.i64.max = 9223372036854775807 by decide]; omega
  refine Sep.new hs fun b1 h hs => ?_
  have hI : RdI h.size h .i64 ⟨some ⟨b1, 0, none⟩, 2, 2⟩ [3, 2] := hs.blkI 0 rfl wf rfl
  rw [mBind_ap]
  refine (Run_s hI (by simp) hq hsm).mono ?_
  rintro v h ⟨o1, rfl, hs'⟩
  have hs := hs.rebase hs'
  rw [hT] at hs
  simp only [unL_slice, List.cons_append, List.nil_append] at hs ⊢
  refine Sep.new hs fun b1 h hs => ?_
  have hI : RdI h.size h .i64 ⟨some ⟨b1, 0, none⟩, 2, 2⟩ [3, 2] := hs.blkI 0 rfl wf rfl
  rw [mBind_ap]
  refine (Ends_s hI (by simp) hq hsm).mono ?_
  rintro v h ⟨o2, rfl, hs'⟩
  have hs := hs.rebase hs'
  rw [show List.replicate [(3 : Int), 2].length (0 : Int) = [0, 0] from rfl, hE] at hs
  simp only [unL_slice, List.cons_append, List.nil_append] at hs ⊢
  refine Sep.new hs fun b1 h hs => ?_
  have hI : RdI h.size h .i64 ⟨some ⟨b1, 0, none⟩, 2, 2⟩ [3, 2] := hs.blkI 0 rfl wf rfl
  rw [mBind_ap]
  refine (Shared_s hI (by simp)).mono ?_
  rintro v h ⟨o3, rfl, hs'⟩
  have hs := hs.rebase hs'
  rw [hS] at hs
  simp only [unL_slice, List.cons_append, List.nil_append] at hs ⊢
  have h1 := hs.rowLen 4 rfl
  have h2 := hs.rowLen 2 rfl
  have h3 := hs.rowLen 0 rfl
  rw [mBind_ap]
  refine mIf_pos (by rw [h1]; rfl) ?_
  ((refine Sep.idx hs 4 rfl (by first | omega | (simp only [List.length_set, List.length_map, List.length_replicate, List.length_append, List.length_cons, List.length_nil, List.length_reverse, List.length_range]; omega) | (simp; omega)) (by first | omega | (simp only [List.length_set, List.length_map, List.length_replicate, List.length_append, List.length_cons, List.length_nil, List.length_reverse, List.length_range]; omega) | (simp; omega)) fun aa haa => ?_; try simp only [Int.toNat_natCast] at haa); refine Sep.rldI0 hs 4 rfl (fun _ => rfl) haa (List.getElem?_eq_getElem (by first | omega | (simp only [List.length_set, List.length_map, List.length_replicate, List.length_append, List.length_cons, List.length_nil, List.length_reverse, List.length_range]; omega) | (simp; omega))) rfl ?_; refine Sep.rldI hs 4 rfl (fun _ => rfl) haa (List.getElem?_eq_getElem (by first | omega | (simp only [List.length_set, List.length_map, List.length_replicate, List.length_append, List.length_cons, List.length_nil, List.length_reverse, List.length_range]; omega) | (simp; omega))) rfl ?_; refine Sep.rldI hs 4 rfl (fun _ => rfl) haa (List.getElem?_eq_getElem (by first | omega | (simp only [List.length_set, List.length_map, List.length_replicate, List.length_append, List.length_cons, List.length_nil, List.length_reverse, List.length_range]; omega) | (simp; omega))) rfl ?_; rw [mRet_ap]; simp only [Bool.and_true, mBind_ap])
  refine mIf_pos rfl ?_
  ((refine Sep.idx hs 4 rfl (by first | omega | (simp only [List.length_set, List.length_map, List.length_replicate, List.length_append, List.length_cons, List.length_nil, List.length_reverse, List.length_range]; omega) | (simp; omega)) (by first | omega | (simp only [List.length_set, List.length_map, List.length_replicate, List.length_append, List.length_cons, List.length_nil, List.length_reverse, List.length_range]; omega) | (simp; omega)) fun aa_1 haa_1 => ?_; try simp only [Int.toNat_natCast] at haa_1); refine Sep.rldI0 hs 4 rfl (fun _ => rfl) haa_1 (List.getElem?_eq_getElem (by first | omega | (simp only [List.length_set, List.length_map, List.length_replicate, List.length_append, List.length_cons, List.length_nil, List.length_reverse, List.length_range]; omega) | (simp; omega))) rfl ?_; refine Sep.rldI hs 4 rfl (fun _ => rfl) haa_1 (List.getElem?_eq_getElem (by first | omega | (simp only [List.length_set, List.length_map, List.length_replicate, List.length_append, List.length_cons, List.length_nil, List.length_reverse, List.length_range]; omega) | (simp; omega))) rfl ?_; refine Sep.rldI hs 4 rfl (fun _ => rfl) haa_1 (List.getElem?_eq_getElem (by first | omega | (simp only [List.length_set, List.length_map, List.length_replicate, List.length_append, List.length_cons, List.length_nil, List.length_reverse, List.length_range]; omega) | (simp; omega))) rfl ?_; rw [mRet_ap])
  refine mIf_pos rfl ?_
  ((refine Sep.idx hs 2 rfl (by first | omega | (simp only [List.length_set, List.length_map, List.length_replicate, List.length_append, List.length_cons, List.length_nil, List.length_reverse, List.length_range]; omega) | (simp; omega)) (by first | omega | (simp only [List.length_set, List.length_map, List.length_replicate, List.length_append, List.length_cons, List.length_nil, List.length_reverse, List.length_range]; omega) | (simp; omega)) fun aa_2 haa_2 => ?_; try simp only [Int.toNat_natCast] at haa_2); refine Sep.rldI0 hs 2 rfl (fun _ => rfl) haa_2 (List.getElem?_eq_getElem (by first | omega | (simp only [List.length_set, List.length_map, List.length_replicate, List.length_append, List.length_cons, List.length_nil, List.length_reverse, List.length_range]; omega) | (simp; omega))) rfl ?_; rw [mRet_ap])
  refine mIf_pos rfl ?_
  ((refine Sep.idx hs 2 rfl (by first | omega | (simp only [List.length_set, List.length_map, List.length_replicate, List.length_append, List.length_cons, List.length_nil, List.length_reverse, List.length_range]; omega) | (simp; omega)) (by first | omega | (simp only [List.length_set, List.length_map, List.length_replicate, List.length_append, List.length_cons, List.length_nil, List.length_reverse, List.length_range]; omega) | (simp; omega)) fun aa_3 haa_3 => ?_; try simp only [Int.toNat_natCast] at haa_3); refine Sep.rldI0 hs 2 rfl (fun _ => rfl) haa_3 (List.getElem?_eq_getElem (by first | omega | (simp only [List.length_set, List.length_map, List.length_replicate, List.length_append, List.length_cons, List.length_nil, List.length_reverse, List.length_range]; omega) | (simp; omega))) rfl ?_; rw [mRet_ap])
  refine mIf_pos rfl ?_
  ((refine Sep.idx hs 0 rfl (by first | omega | (simp only [List.length_set, List.length_map, List.length_replicate, List.length_append, List.length_cons, List.length_nil, List.length_reverse, List.length_range]; omega) | (simp; omega)) (by first | omega | (simp only [List.length_set, List.length_map, List.length_replicate, List.length_append, List.length_cons, List.length_nil, List.length_reverse, List.length_range]; omega) | (simp; omega)) fun aa_4 haa_4 => ?_; try simp only [Int.toNat_natCast] at haa_4); refine Sep.rldI0 hs 0 rfl (fun _ => rfl) haa_4 (List.getElem?_eq_getElem (by first | omega | (simp only [List.length_set, List.length_map, List.length_replicate, List.length_append, List.length_cons, List.length_nil, List.length_reverse, List.length_range]; omega) | (simp; omega))) rfl ?_; rw [mRet_ap])
  refine mIf_pos rfl ?_
  ((refine Sep.idx hs 0 rfl (by first | omega | (simp only [List.length_set, List.length_map, List.length_replicate, List.length_append, List.length_cons, List.length_nil, List.length_reverse, List.length_range]; omega) | (simp; omega)) (by first | omega | (simp only [List.length_set, List.length_map, List.length_replicate, List.length_append, List.length_cons, List.length_nil, List.length_reverse, List.length_range]; omega) | (simp; omega)) fun aa_5 haa_5 => ?_; try simp only [Int.toNat_natCast] at haa_5); refine Sep.rldI0 hs 0 rfl (fun _ => rfl) haa_5 (List.getElem?_eq_getElem (by first | omega | (simp only [List.length_set, List.length_map, List.length_replicate, List.length_append, List.length_cons, List.length_nil, List.length_reverse, List.length_range]; omega) | (simp; omega))) rfl ?_; rw [mRet_ap])
  refine mIf_pos rfl ?_
  refine Sep.new hs fun b1 h hs => ?_
  have hI : RdI h.size h .i64 ⟨some ⟨b1, 0, none⟩, 2, 2⟩ [3, 2] := hs.blkI 0 rfl wf rfl
  rw [mBind_ap]
  refine (Fair_s hI (by simp) hq hsm).mono ?_
  rintro v h ⟨rfl, hs'⟩
  have hs := hs.rebase hs'
  rw [show List.replicate [(3 : Int), 2].length (0 : Int) = [0, 0] from rfl, hF]
  simp only [unI_int, List.cons_append, List.nil_append] at hs ⊢
  rw [mRet_ap]
  refine mIf_pos rfl ?_
  rw [mBind_ap]
  refine (Run_bad (by omega)).mono ?_
  rintro v h' ⟨rfl, rfl⟩
  simp only [unL_slice]
  exact ⟨rfl, hs.drop.drop.drop.drop.drop.drop.drop⟩
end
end Go.Proofs.Ytinjifhjjkdmoaa
