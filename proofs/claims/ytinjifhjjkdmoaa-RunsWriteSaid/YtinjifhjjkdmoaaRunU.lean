/- Rows in fewer bytes: RunsWrite. Conditions: none. -/
import Derived.Test.YtinjifhjjkdmoaaRunT
import Derived.Test.YtinjifhjjkdmoaaSbW
namespace Go.Proofs.Ytinjifhjjkdmoaa
open Go Go.Sb
set_option linter.unusedSimpArgs false
set_option linter.unusedVariables false
section
variable {h0 h g : Hp} {R : List As} {B : Nat} {s x : Sl} {c : Int} {l zs : List Int}
theorem wr_wf : ∀ (f : Nat) (zs : List Int), (∀ z ∈ zs, 0 ≤ z ∧ z ≤ 255) → ∀ z ∈ wr f zs, 0 ≤ z ∧ z ≤ 255
  | 0, zs, hz, z, h => by simp [wr] at h
  | f + 1, [], hz, z, h => by simp [wr] at h
  | f + 1, y :: l, hz, z, h => by
    have ha := alike_le (y :: l)
    have hl := lits_le (y :: l) 128
    unfold wr at h
    split at h
    · rename_i h3
      simp only [List.mem_cons] at h
      rcases h with h | h | h
      · omega
      · rw [h]; exact hz y (by simp)
      · exact wr_wf f _ (fun w hw => hz w (List.mem_of_mem_drop hw)) z h
    · rename_i h3
      have hp := lits_pos (x := y) (l := l) (by omega)
      simp only [List.mem_cons, List.mem_append] at h
      rcases h with h | h | h
      · omega
      · exact hz z (List.mem_of_mem_take h)
      · exact wr_wf f _ (fun w hw => hz w (List.mem_of_mem_drop hw)) z h
set_option maxRecDepth 100000 in
theorem wr15 {x40 : Addr} {k : Int} (hr : RdI g.size g .u8 x zs) (hcap : x.n ≤ x.c) (hn : zs.length ≤ 100000) (Q : Value → Hp → Prop) (hk : 0 ≤ k ∧ k ≤ 2)
    (hidx : ∀ (K : Sl → M Value), K x g Q → (mIdx (Sl.mk (some x40) 2 2) k 1 fun (x44 : Addr) => mLdL x44 K) g Q)
    (next : ∀ h L, Sep g h L → K_signalboxlaw53_RunsWrite_15 (Sl.mk (some x40) 2 2) 2 (k + 1) h Q) (hk2 : k < 2) : K_signalboxlaw53_RunsWrite_15 (Sl.mk (some x40) 2 2) 2 k g Q := by
  have hz : ∀ z ∈ zs, 0 ≤ z ∧ z ≤ 255 := fun z hz => (u8wf z).1 (hr.wf z hz)
  have hwf1 : ∀ z ∈ wr zs.length zs, IntKind.u8.min ≤ z ∧ z ≤ IntKind.u8.max := fun z h => (u8wf z).2 (wr_wf _ _ hz z h)
  have hwf0 : ∀ z ∈ zs, IntKind.u8.min ≤ z ∧ z ≤ IntKind.u8.max := hr.wf
  have hxn := hr.n
  have hlen := (wr_len zs.length zs (Nat.le_refl _)).1
  have hp := wr_parts zs.length zs (Nat.le_refl _)
  have hw2 := hp.len
  apply S_signalboxlaw53_RunsWrite_15
  unfold B_signalboxlaw53_RunsWrite_15
  refine mIf_pos (by simp; omega) ?_
  refine hidx _ ?_
  rw [mBind_ap]
  refine (Write_s hr hcap (by omega)).mono ?_
  rintro v h ⟨o1, rfl, hs⟩
  simp only [unL_slice]
  have ho1 := hs.rowLen 0 rfl
  have hc1 := hs.rowCap 0 rfl
  rw [mBind_ap]
  refine (Read_s hp (hs.rowI 0 rfl hwf1) hc1 (by omega) (by omega)).mono ?_
  rintro v h ⟨o2, rfl, hs'⟩
  have hs := hs.rebase hs'
  simp only [un2_tuple, unL_slice, unI_int, List.cons_append, List.nil_append] at hs ⊢
  rw [mBind_ap]
  refine (Size_s hp (hs.rowI 1 rfl hwf1) hc1 (by omega) (by omega)).mono ?_
  rintro v h ⟨rfl, hs'⟩
  have hs := hs.rebase hs'
  simp only [un2_tuple, unL_slice, unI_int, List.cons_append, List.nil_append] at hs ⊢
  rw [wrap64 (k + 1) (by omega)]
  have hrf : ∀ {h L}, Sep g h L → N_signalboxref53_Write x h (fun v h' => ∃ o : Sl, v = .slice o.p o.n o.c ∧ Sep g h' (aRow encU 1 o (wr zs.length zs) :: L)) := by
    intro h L hs
    refine (refWrite_s (hr.now hs) hcap (by omega)).mono ?_
    rintro v h' ⟨o, rfl, hs'⟩
    exact ⟨o, rfl, hs.rebase hs'⟩
  have hworst : ∀ {h}, N_runs_Worst (x.n : Int) h (fun v h' => v = .int .i64 ((x.n : Int) + ((x.n : Int) + 127) / 128) ∧ h' = h) := by
    intro h
    have := worst_s (n := (x.n : Int)) (h := h) (by omega)
    rw [show min (max (x.n : Int) 0) 1099511627776 = (x.n : Int) by omega] at this
    exact this
  generalize hW : wr zs.length zs = W at *
  have hb1 : (!((strOf W).toList == (strOf W).toList)) = false := by simp
  have hb2 : (!((strOf zs).toList == (strOf zs).toList)) = false := by simp
  have hb3 : ((zs.length : Int) != (x.n : Int)) = false := by simp; omega
  have hb4 : (decide ((o1.n : Int) > (x.n : Int) + ((x.n : Int) + 127) / 128)) = false := by simp; omega
  repeat' (first
    | with_reducible refine mAnd_intro ?_ ?_
    | (with_reducible refine mIf_neg (hb1) ?_)
    | (refine mIf_neg (show (match false with | true => true | false => ((0 : Int) != (0 : Int))) = false from rfl) ?_)
    | (refine mIf_neg (show ((0 : Int) != (0 : Int)) = false from rfl) ?_)
    | (refine mIf_neg hb1 ?_)
    | (refine mIf_neg hb2 ?_)
    | (refine mIf_neg hb3 ?_)
    | (refine mIf_neg hb4 ?_)
    | (rw [mBind_ap]; refine (hrf hs).mono ?_; rintro v h ⟨o3, rfl, hs⟩; simp only [unL_slice])
    | (rw [mBind_ap]; refine hworst.mono ?_; rintro v h' ⟨rfl, rfl⟩; simp only [unI_int])
    | exact next _ _ hs
    | (refine (hr.under hs.under).str ?_)
    | (refine (hs.rowI 0 rfl hwf1).str ?_)
    | (refine (hs.rowI 1 rfl hwf1).str ?_)
    | (refine (hs.rowI 2 rfl hwf1).str ?_)
    | (refine (hs.rowI 0 rfl hwf0).str ?_)
    | (refine (hs.rowI 1 rfl hwf0).str ?_))
theorem wr10 {b t20 : Sl} {times c t21 t22 : Int} {m : Nat} (Q : Value → Hp → Prop) (hm : m ≤ 100) (next : ∀ (row : Sl) (xs : List Int) (h : Hp), xs = zs ++ List.replicate m c → Sep h0 h [aRow encU 1 row xs] → K_signalboxlaw53_RunsWrite_7 b times row t20 t21 (IntKind.i64.wrap (t22 + (1 : Int))) h Q) : ∀ (d k : Nat) (row : Sl) (h : Hp), k + d = m → zs.length ≤ 10000 → Sep h0 h [aRow encU 1 row (zs ++ List.replicate k c)] →
    K_signalboxlaw53_RunsWrite_10 b times row c t20 t21 t22 (m : Int) (k : Int) h Q
  | 0, k, row, h, hk, hz, hs => by
    apply S_signalboxlaw53_RunsWrite_10
    unfold B_signalboxlaw53_RunsWrite_10
    refine mIf_neg (by simp; omega) ?_
    exact next row _ h (by rw [show k = m by omega]) hs
  | d + 1, k, row, h, hk, hz, hs => by
    have ih := fun row h => wr10 (b := b) (t20 := t20) (times := times) (t21 := t21) (t22 := t22) (c := c) Q hm next d (k + 1) row h (by omega) hz
    apply S_signalboxlaw53_RunsWrite_10
    unfold B_signalboxlaw53_RunsWrite_10
    refine mIf_pos (by simp; omega) ?_
    refine Sep.new hs fun nb h hs => ?_
    refine hs.app1 1 0 c rfl rfl (fun _ => rfl) (by intro v hv; simp only [List.mem_singleton] at hv; subst hv; rfl) rfl (by omega) (by simp; omega) fun o h hn hs => ?_
    rw [wrap64 _ (by omega), show ((k : Int) + 1) = ((k + 1 : Nat) : Int) by omega]
    refine ih o h ?_
    have hs := hs.drop
    rw [List.append_assoc, ← List.replicate_succ'] at hs
    exact hs
theorem wr7 {b : Sl} {times : Int} {bs : List Int} (hr : RdI h0.size h0 .u8 b bs) (hcap : b.n ≤ b.c) (hn : bs.length ≤ 300) (ht : 0 ≤ times ∧ times ≤ 255) : ∀ (d k : Nat) (row : Sl) (xs : List Int) (h : Hp), k + d = bs.length → xs.length ≤ 20 * k → (∀ z ∈ xs, 0 ≤ z ∧ z ≤ 255) → Sep h0 h [aRow encU 1 row xs] →
    K_signalboxlaw53_RunsWrite_7 b times row b (b.n : Int) (k : Int) h (RFin h0)
  | 0, k, row, xs, h, hk, hx, hw, hs => by
    have hbn := hr.n
    apply S_signalboxlaw53_RunsWrite_7
    unfold B_signalboxlaw53_RunsWrite_7
    refine mIf_neg (by simp; omega) ?_
    refine Sep.new hs fun nb h hs => ?_
    have hbr := hr.now hs
    have hblk := hs.blk 0 rfl
    refine wr15 (g := h) (k := 0) hbr hcap (by omega) _ (by omega) (fun K hK => ?_) ?_ (by omega)
    · refine mIdx_of (by omega) (by omega) ?_
      rw [add_mk]
      refine mLdL_of (p := b.p) (n := b.n) (c := b.c) (by rw [hblk.cell]; rfl) hK
    intro h1 L hs1
    have hs1 := hs.rebase hs1
    have hs1 : Sep h0 h1 (aBlk nb [.slice b.p b.n b.c, .slice row.p row.n row.c] :: aRow encU 1 row xs :: L) := hs1.perm (List.perm_append_comm)
    have hrow := hs1.rowI 1 rfl (fun z hz => (u8wf z).2 (hw z hz))
    have hrc := hs1.rowCap 1 rfl
    have hblk := hs1.blk 0 rfl
    refine wr15 (g := h1) (k := 0 + 1) hrow hrc (by omega) _ (by omega) (fun K hK => ?_) ?_ (by omega)
    · refine mIdx_of (by omega) (by omega) ?_
      rw [add_mk]
      refine mLdL_of (p := row.p) (n := row.n) (c := row.c) (by rw [hblk.cell]; rfl) hK
    intro h2 L2 hs2
    have hs2 := hs1.rebase hs2
    apply S_signalboxlaw53_RunsWrite_15
    unfold B_signalboxlaw53_RunsWrite_15
    refine mIf_neg (by simp) ?_
    exact ⟨rfl, hs2.under⟩
  | d + 1, k, row, xs, h, hk, hx, hw, hs => by
    have ih := fun row xs h => wr7 hr hcap hn ht d (k + 1) row xs h (by omega)
    have hbn := hr.n
    apply S_signalboxlaw53_RunsWrite_7
    unfold B_signalboxlaw53_RunsWrite_7
    refine mIf_pos (by simp; omega) ?_
    refine hs.argIn hr (j := k) (by omega) ?_
    refine ⟨by omega, ?_⟩
    have hc := (u8wf _).1 (hr.wf (bs[k]'(by omega)) (List.getElem_mem _))
    generalize bs[k]'(by omega) = c at *
    have hN : (IntKind.i64.wrap ((1 : Int) + (IntKind.i64.wrap (Int.tmod times (20 : Int))))) = ((1 + (times % 20).toNat : Nat) : Int) := by
      rw [Int.tmod_eq_emod_of_nonneg ht.1, wrap64 (times % 20) (by omega), wrap64 _ (by omega)]; omega
    have hm : (times % 20).toNat ≤ 19 := by omega
    rw [hN]
    generalize (times % 20).toNat = m at *
    refine wr10 (zs := xs) (m := 1 + m) _ (by omega) (fun row xs' h he hs => ?_) (1 + m) 0 row h (by omega) (by omega) (by simpa using hs)
    rw [wrap64 _ (by omega), show ((k : Int) + 1) = ((k + 1 : Nat) : Int) by omega]
    subst he
    refine ih row _ h (by simp; omega) ?_ hs
    intro z hz
    rcases List.mem_append.1 hz with hz | hz
    · exact hw z hz
    · rw [List.eq_of_mem_replicate hz]; exact hc
theorem RunsWrite_ok {b : Sl} {times : Int} {bs : List Int} (hr : RdI h0.size h0 .u8 b bs) (hcap : b.n ≤ b.c) (ht : 0 ≤ times ∧ times ≤ 255) : N_signalboxlaw53_RunsWrite b times h0 (RFin h0) := by
  have hbn := hr.n
  apply S_signalboxlaw53_RunsWrite
  unfold B_signalboxlaw53_RunsWrite
  rw [mBind_ap]
  refine (rfixed_s (Sep.init h0)).mono ?_
  rintro v h ⟨rfl, hs⟩
  simp only [unB_bool]
  refine mIf_neg rfl ?_
  refine mIf_dec (fun hc => ⟨rfl, hs.under⟩) (fun hc => ?_)
  exact wr7 hr hcap (by omega) ht bs.length 0 _ [] h (by omega) (by simp) (by simp) (hs.nilRow _ _)
end
end Go.Proofs.Ytinjifhjjkdmoaa
