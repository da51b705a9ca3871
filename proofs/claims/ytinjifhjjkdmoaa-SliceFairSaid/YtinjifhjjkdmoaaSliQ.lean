/- Turns of equal length: the turns, what goes over them, ticks. Conditions: none. -/
import Derived.Test.YtinjifhjjkdmoaaSliL
import Derived.Test.YtinjifhjjkdmoaaSbW
namespace Go.Proofs.Ytinjifhjjkdmoaa
open Go Go.Sb
set_option linter.unusedSimpArgs false
set_option linter.unusedVariables false
section
variable {h0 h : Hp} {R : List As} {s : Sl} {zs : List Int} {q : Int}
theorem map_cl_b (zs : List Int) : ∀ x ∈ zs.map cl, 0 ≤ x ∧ x ≤ 1048576 := by
  intro x hx; obtain ⟨z, _, rfl⟩ := List.mem_map.1 hx; exact cl_b z
theorem run14 (hq : 1 ≤ q ∧ q ≤ 1048576) : ∀ (f : Nat) (lf : List Int) (row : List Nat) (done : List Trn) (now : Int) (ls rs os : Sl) (h : Hp), SI lf row → lf.length ≤ 1000 → sm lf ≤ f → 0 ≤ now → now + sm lf ≤ 1500 → (done.length : Int) ≤ now → row.length ≤ 1000 → Sep h0 h [aRow encN 1 rs row, aRow encI 1 ls lf, aRow Trn.enc 3 os done] →
    K_slice_Run_14 q ls rs os now h (fun v h' => ∃ o : Sl, v = .slice o.p o.n o.c ∧ Sep h0 h' [aRow Trn.enc 3 o (done ++ turns q f lf row now)]) := by
  have stop : ∀ (f : Nat) (lf : List Int) (done : List Trn) (now : Int) (ls rs os : Sl) (h : Hp), Sep h0 h [aRow encN 1 rs [], aRow encI 1 ls lf, aRow Trn.enc 3 os done] →
      K_slice_Run_14 q ls rs os now h (fun v h' => ∃ o : Sl, v = .slice o.p o.n o.c ∧ Sep h0 h' [aRow Trn.enc 3 o (done ++ turns q f lf [] now)]) := by
    intro f lf done now ls rs os h hs
    have hrn := hs.rowLen 0 rfl
    apply S_slice_Run_14
    unfold B_slice_Run_14
    refine mIf_neg (by rw [hrn]; simp) ?_
    have : turns q f lf [] now = [] := by cases f <;> rfl
    rw [this, List.append_nil]
    exact ⟨os, rfl, hs.drop.drop⟩
  intro f
  induction f with
  | zero =>
    intro lf row done now ls rs os h hI hn hf h0n hs1 hd hrw hs
    have : row = [] := by
      cases row with
      | nil => rfl
      | cons i row =>
        have h1 := (hI.mem i).1 (by simp)
        have h2 := sm_ge lf i hI.all
        omega
    subst this
    exact stop 0 lf done now ls rs os h hs
  | succ f ih =>
    intro lf row done now ls rs os h hI hn hf h0n hs1 hd hrw hs
    cases row with
    | nil => exact stop (f + 1) lf done now ls rs os h hs
    | cons i row =>
      have hi := hI.lt (i := i) (by simp)
      have hp := (hI.mem i).1 (by simp)
      have hge := sm_ge lf i hI.all
      have hsum := hI.sum (q := q)
      have hst := hI.step hq.1
      have hnn := sm_nonneg _ hst.all
      have hrn := hs.rowLen 0 rfl
      have hon := hs.rowLen 2 rfl
      rw [List.length_cons] at hrn hrw
      have hmin : (if q < gt lf i then q else gt lf i) = min (gt lf i) q := by split <;> omega
      apply S_slice_Run_14
      unfold B_slice_Run_14
      refine mIf_pos (by simp; omega) ?_
      refine hs.idx 0 rfl (by omega) (by simp) fun a ha => ?_
      refine hs.rldI0 0 rfl (fun _ => rfl) ha (List.getElem?_eq_getElem (by simp)) rfl ?_
      simp only [Int.toNat_zero, List.getElem_cons_zero]
      refine hs.slc 0 rfl (fun _ => rfl) (by omega) (by omega) (by simp; omega) rfl fun rs' hrs' hs => ?_
      simp only [List.set_cons_zero] at hs
      rw [show ((rs.n : Int)).toNat = (i :: row).length by simp; omega, List.take_length, show (1 : Int).toNat = 1 from rfl, List.drop_succ_cons, List.drop_zero] at hs
      refine hs.idx 1 rfl (by omega) (by omega) fun a ha => ?_
      refine hs.rldI0 1 rfl (fun _ => rfl) ha (List.getElem?_eq_getElem (by omega)) rfl ?_
      refine hs.idx 1 rfl (by omega) (by omega) fun a ha => ?_
      refine hs.rldI0 1 rfl (fun _ => rfl) ha (List.getElem?_eq_getElem (by omega)) rfl ?_
      refine hs.idx 1 rfl (by omega) (by omega) fun a ha => ?_
      have hg : lf[(i : Int).toNat]'(by omega) = gt lf i := by rw [gt_at hi]; congr 1
      rw [hg, hmin, wrap64 (gt lf i - min (gt lf i) q) (by omega), wrap64 (now + min (gt lf i) q) (by omega)]
      refine hs.ist 1 rfl ha (by omega) fun h hs => ?_
      simp only [List.set_cons_zero, List.set_cons_succ, Int.toNat_natCast] at hs
      refine Sep.new hs fun nb h hs => ?_
      refine hs.app1 3 0 ⟨i, now, now + min (gt lf i) q⟩ rfl rfl (fun _ => rfl) (by intro v hv; simp only [Trn.enc, List.mem_cons, List.not_mem_nil, or_false] at hv; rcases hv with rfl | rfl | rfl <;> rfl) rfl (by omega) (by omega) fun os' h hos' hs => ?_
      simp only [List.set_cons_zero, List.set_cons_succ] at hs
      have hs := hs.drop
      have hll : (lf.set i (gt lf i - min (gt lf i) q)).length = lf.length := by simp
      refine hs.idx 1 rfl (by omega) (by omega) fun a ha => ?_
      refine hs.rldI0 1 rfl (fun _ => rfl) ha (List.getElem?_eq_getElem (by omega)) rfl ?_
      have hg2 : (lf.set i (gt lf i - min (gt lf i) q))[(i : Int).toNat]'(by omega) = gt lf i - min (gt lf i) q := by simp
      rw [hg2]
      have goal : turns q (f + 1) lf (i :: row) now = ⟨i, now, now + min (gt lf i) q⟩ :: turns q f (lf.set i (gt lf i - min (gt lf i) q)) (if gt lf i - min (gt lf i) q > 0 then row ++ [i] else row) (now + min (gt lf i) q) := rfl
      rw [goal]
      refine mIf_dec (fun hc => ?_) (fun hc => ?_)
      · rw [if_pos hc] at hst ⊢
        refine app_one (enc := encN) i hs rfl (fun _ => rfl) rfl (by omega) fun rs'' h hrs'' hs => ?_
        have := ih _ _ (done ++ [⟨i, now, now + min (gt lf i) q⟩]) (now + min (gt lf i) q) ls rs'' os' h hst (by omega) (by omega) (by omega) (by omega) (by simp; omega) (by simp; omega) hs
        rw [List.append_assoc] at this
        exact this
      · rw [if_neg hc] at hst ⊢
        have := ih _ _ (done ++ [⟨i, now, now + min (gt lf i) q⟩]) (now + min (gt lf i) q) ls rs' os' h hst (by omega) (by omega) (by omega) (by omega) (by simp; omega) (by omega) hs
        rw [List.append_assoc] at this
        exact this
theorem row0_le (w : List Int) (k : Nat) : (row0 w k).length ≤ k := by
  unfold row0
  have := List.length_filter_le (fun i => decide (0 < gt w i)) (List.range k)
  simpa using this
theorem run6 (hr : RdI h0.size h0 .i64 s zs) (hn : zs.length ≤ 1000) (hq : 1 ≤ q ∧ q ≤ 1048576) (hsm : sm (zs.map cl) ≤ 1500) : ∀ (d k : Nat) (ls rs : Sl) (h : Hp), k + d = zs.length → Sep h0 h [aRow encN 1 rs (row0 (zs.map cl) k), aRow encI 1 ls ((zs.take k).map cl ++ List.replicate d 0)] →
    K_slice_Run_6 q ls rs s (s.n : Int) (k : Int) h (fun v h' => ∃ o : Sl, v = .slice o.p o.n o.c ∧ Sep h0 h' [aRow Trn.enc 3 o (turns q 1500 (zs.map cl) (row0 (zs.map cl) zs.length) 0)])
  | 0, k, ls, rs, h, hk, hs => by
    have hsn := hr.n
    apply S_slice_Run_6
    unfold B_slice_Run_6
    refine mIf_neg (by simp; omega) ?_
    rw [List.take_of_length_le (by omega), List.replicate_zero, List.append_nil] at hs
    have hfirst := SI.first (w := zs.map cl) (fun i => by rw [gt_map_cl]; split; exact (cl_b _).1; omega)
    rw [List.length_map] at hfirst
    have hkl : k = zs.length := by omega
    subst hkl
    have hs : Sep h0 h [aRow encN 1 rs (row0 (zs.map cl) zs.length), aRow encI 1 ls (zs.map cl), aRow Trn.enc 3 ⟨none, 0, 0⟩ []] := (hs.nilRow Trn.enc 3).re [1, 2, 0] rfl
    have := run14 hq 1500 (zs.map cl) (row0 (zs.map cl) zs.length) [] 0 ls rs _ h hfirst (by simpa using hn) (by omega) (by omega) (by omega) (by simp) (by have := row0_le (zs.map cl) zs.length; omega) hs
    rw [List.nil_append] at this
    exact this
  | d + 1, k, ls, rs, h, hk, hs => by
    have ih := run6 hr hn hq hsm d (k + 1)
    have hsn := hr.n
    have hkl : k < zs.length := by omega
    have hb := cl_b zs[k]
    apply S_slice_Run_6
    unfold B_slice_Run_6
    refine mIf_pos (by simp; omega) ?_
    refine hs.argIn hr hkl ?_
    rw [mBind_ap]
    refine (cl_s _).mono ?_
    rintro v h' ⟨rfl, rfl⟩
    simp only [unI_int]
    have hlen : ((zs.take k).map cl ++ List.replicate (d + 1) (0 : Int)).length = zs.length := by simp; omega
    have hset : ((zs.take k).map cl ++ List.replicate (d + 1) (0 : Int)).set k (cl zs[k]) = (zs.take (k + 1)).map cl ++ List.replicate d 0 := by
      rw [List.set_append_right _ _ (by simp; omega)]
      simp only [List.length_map, List.length_take, Nat.min_eq_left (Nat.le_of_lt hkl), Nat.sub_self]
      rw [List.replicate_succ, List.set_cons_zero, List.take_succ_eq_append_getElem hkl, List.map_append, List.append_assoc]
      rfl
    refine hs.idx 1 rfl (by omega) (by omega) fun a ha => ?_
    refine hs.ist 1 rfl ha (by omega) fun h hs => ?_
    simp only [List.set_cons_zero, List.set_cons_succ, Int.toNat_natCast] at hs
    rw [hset] at hs
    have hlen2 : ((zs.take (k + 1)).map cl ++ List.replicate d (0 : Int)).length = zs.length := by simp; omega
    refine hs.idx 1 rfl (by omega) (by omega) fun a ha => ?_
    refine hs.rldI0 1 rfl (fun _ => rfl) ha (List.getElem?_eq_getElem (by omega)) rfl ?_
    have hg : ((zs.take (k + 1)).map cl ++ List.replicate d (0 : Int))[(k : Int).toNat]'(by omega) = cl zs[k] := by
      simp only [Int.toNat_natCast]
      rw [List.getElem_append_left (by simp; omega)]
      simp
    rw [hg]
    have hgk : gt (zs.map cl) k = cl zs[k] := by rw [gt_map_cl, if_pos hkl, gt_at hkl]
    have hrs := row0_succ (zs.map cl) k
    rw [hgk] at hrs
    rw [wrap64 ((k : Int) + 1) (by omega), show ((k : Int) + 1) = ((k + 1 : Nat) : Int) by omega]
    have hrl := row0_le (zs.map cl) k
    refine mIf_dec (fun hc => ?_) (fun hc => ?_)
    · refine app_one (enc := encN) k hs rfl (fun _ => rfl) rfl (by omega) fun rs' h hrs' hs => ?_
      rw [if_pos hc] at hrs
      rw [← hrs] at hs
      exact ih ls rs' h (by omega) hs
    · rw [if_neg hc] at hrs
      rw [← hrs] at hs
      exact ih ls rs _ (by omega) hs
/-- the turns of a row of works -/
abbrev trns (zs : List Int) (q : Int) : List Trn := turns q 1500 (zs.map cl) (row0 (zs.map cl) zs.length) 0
theorem Run_s (hr : RdI h.size h .i64 s zs) (hn : zs.length ≤ 1000) (hq : 1 ≤ q ∧ q ≤ 1048576) (hsm : sm (zs.map cl) ≤ 1500) : N_slice_Run s q h (fun v h' => ∃ o : Sl, v = .slice o.p o.n o.c ∧ Sep h h' [aRow Trn.enc 3 o (trns zs q)]) := by
  have hsn := hr.n
  apply S_slice_Run
  unfold B_slice_Run
  rw [mBind_ap]
  refine right_s.mono ?_
  rintro v h' ⟨rfl, rfl⟩
  simp only [unB_bool]
  refine mIf_neg (by simp; omega) ?_
  refine (Sep.init h').make encI 1 0 rfl (by omega) (by omega) (by omega) fun ls h hls hs => ?_
  rw [Int.toNat_natCast, hsn] at hs
  exact run6 hr hn hq hsm zs.length 0 ls _ h (by omega) ((hs.nilRow encN 1))
theorem Run_bad (hq : ¬ (1 ≤ q ∧ q ≤ 1048576)) : N_slice_Run s q h (fun v h' => v = .slice none 0 0 ∧ h' = h) := by
  apply S_slice_Run
  unfold B_slice_Run
  rw [mBind_ap]
  refine right_s.mono ?_
  rintro v h' ⟨rfl, rfl⟩
  simp only [unB_bool]
  refine mIf_pos (by rw [decide_eq_false hq]; rfl) ?_
  exact ⟨rfl, rfl⟩
end
end Go.Proofs.Ytinjifhjjkdmoaa
