/- Bytes that go through a ring: PipeOrder. Conditions: none. -/
import Derived.Test.YtinjifhjjkdmoaaPipL
import Derived.Test.YtinjifhjjkdmoaaSbW
namespace Go.Proofs.Ytinjifhjjkdmoaa
open Go Go.Sb
set_option linter.unusedSimpArgs false
set_option linter.unusedVariables false
def aFrz (b : Nat) (cs : List Value) : As := ⟨fun F h => F = [b] ∧ ∃ T f, h[b]? = some (.cells cs.toArray T f), fun F h h' ⟨hF, T, f, hb⟩ he => ⟨hF, T, f, by rw [he b (by simp [hF])]; exact hb⟩, fun F h ⟨hF, T, f, hb⟩ b' hb' => by
  subst hF
  simp only [List.mem_singleton] at hb'
  subst hb'
  rcases Nat.lt_or_ge b' h.size with hl | hl
  · exact hl
  · rw [Array.getElem?_eq_none hl] at hb; cases hb⟩
abbrev PFin (h0 : Hp) : Value → Hp → Prop := fun v h' => v = .bool true ∧ Under h0.size h0 h'
section
variable {α : Type} {h0 h : Hp} {R : List As} {b r : Nat} {Q zs ws rs : List Int} {cl : Bool} {s bS wS rS : Sl}
theorem Sep.mark {cs : List Value} {n c : Nat} {K : M α} {X : α → Hp → Prop} (hs : Sep h0 h (aBlk b cs :: R)) (hK : ∀ h', Sep h0 h' (aFrz b cs :: R) → K h' X) : mMark ⟨some ⟨b, 0, none⟩, n, c⟩ K h X := by
  obtain ⟨T, hb⟩ := hs.blk 0 rfl
  have hl : b < h.size := by
    rcases Nat.lt_or_ge b h.size with hl | hl
    · exact hl
    · rw [Array.getElem?_eq_none hl] at hb; cases hb
  refine ⟨b, 0, cs.toArray, T, rfl, hb, hK _ (hs.upd fun F hF => ?_)⟩
  unfold aBlk at hF
  obtain ⟨rfl, _⟩ := hF
  refine ⟨[b], ⟨rfl, T, (cs.toArray.size, cs.toArray.size + 1), ?_⟩, ⟨by simp, fun b' hb' hne => ?_⟩, id, fun b' hb' => .inl hb'⟩
  · rw [Array.getElem?_setIfInBounds, if_pos rfl, if_pos hl]
  · rw [Array.getElem?_setIfInBounds, if_neg (by intro e; subst e; exact hne (by simp))]
theorem frz_rd {n c : Nat} (hs : Sep h0 h (aFrz b (zs.map (.int .u8)) :: R)) (hn : n = zs.length) (hw : ∀ z ∈ zs, isU8 z) : RdI h.size h .u8 ⟨some ⟨b, 0, none⟩, n, c⟩ zs := by
  obtain ⟨F, hF, _, _⟩ := hs.holds 0 rfl
  have hF : F = [b] ∧ ∃ T f, h[b]? = some (.cells (zs.map (.int .u8)).toArray T f) := hF
  obtain ⟨_, T, f, hb⟩ := hF
  have hl : b < h.size := by
    rcases Nat.lt_or_ge b h.size with hl | hl
    · exact hl
    · rw [Array.getElem?_eq_none hl] at hb; cases hb
  refine ⟨hn, fun i z hz => ⟨_, rfl, hl, ?_⟩, hw⟩
  rw [add_mk, Nat.zero_add]
  unfold hcell
  rw [hb]
  simp [hz]
theorem New_none (hs : Sep h0 h R) : N_pipe_New 0 h (fun v h' => v = .pointer none ∧ Sep h0 h' R) := by
  apply S_pipe_New
  unfold B_pipe_New
  exact ⟨rfl, hs⟩
theorem pfixed_s (hs : Sep h0 h []) : N_signalboxlaw37_fixed h (PFin h0) := by
  have hu8 : ∀ z : Int, 0 ≤ z → z ≤ 255 → isU8 z := fun z h1 h2 => ⟨by rw [show IntKind.u8.min = 0 by decide]; exact h1, by rw [show IntKind.u8.max = 255 by decide]; exact h2⟩
  apply S_signalboxlaw37_fixed
  unfold B_signalboxlaw37_fixed
  rw [mBind_ap]
  refine (New_s (by omega) (by omega) hs).mono ?_
  rintro v h ⟨b, rfl, sl, ys, f, hs, hk⟩
  simp only [unP_pointer]
  refine Sep.new hs fun cb h hs => ?_
  refine Sep.mark hs fun h hs => ?_
  have hs : Sep h0 h (aBlk b [.slice sl.p sl.n sl.c, .int .i64 (f : Int), .int .i64 (([] : List Int).length : Int), .bool false] :: aRow encU 1 sl ys :: aFrz cb (([97, 10, 98, 99] : List Int).map (.int .u8)) :: []) := hs.reT 3 [1, 2, 0] rfl (by simp)
  have hp : Pip h0 [aFrz cb (([97, 10, 98, 99] : List Int).map (.int .u8))] b 3 [] false h := ⟨sl, ys, f, hs, hk⟩
  rw [mBind_ap]
  refine (Write_s (zs := [97, 10, 98, 99]) (fun h' hs' => frz_rd hs' rfl (by simp; exact ⟨hu8 _ (by omega) (by omega), hu8 _ (by omega) (by omega), hu8 _ (by omega) (by omega), hu8 _ (by omega) (by omega)⟩)) (Nat.le_refl _) (by simp) hp).mono ?_
  rintro v h ⟨rfl, hp⟩
  have hp : Pip h0 [aFrz cb (([97, 10, 98, 99] : List Int).map (.int .u8))] b 3 [97, 10, 98] false h := hp
  simp only [un2_tuple, unI_int]
  rw [mBind_ap]
  refine (Line_hit (i := 1) (by decide +kernel) (by omega) hp).mono ?_
  rintro v h ⟨o1, rfl, hp⟩
  have hp : Pip h0 [aRow encU 1 o1 [97, 10], aFrz cb (([97, 10, 98, 99] : List Int).map (.int .u8))] b 3 [98] false h := hp
  simp only [un2_tuple, unL_slice, unI_int]
  rw [mBind_ap]
  refine (Line_none (by decide +kernel) (by simp) hp).mono ?_
  rintro v h ⟨rfl, hp⟩
  simp only [un2_tuple, unL_slice, unI_int]
  rw [mBind_ap]
  refine (Read_s (by omega) hp).mono ?_
  rintro v h ⟨o2, rfl, hp⟩
  have hp : Pip h0 [aRow encU 1 o2 [98], aRow encU 1 o1 [97, 10], aFrz cb (([97, 10, 98, 99] : List Int).map (.int .u8))] b 3 [] false h := hp
  simp only [un2_tuple, unL_slice, unI_int]
  rw [mBind_ap]
  refine (Read_s (by omega) hp).mono ?_
  rintro v h ⟨o3, rfl, hp⟩
  have hp := hp.forget
  simp only [un2_tuple, unL_slice, unI_int]
  rw [mBind_ap]
  refine (Close_s hp).mono ?_
  rintro v h hp
  rw [mBind_ap]
  refine (Read_s (by omega) hp).mono ?_
  rintro v h ⟨o4, rfl, hp⟩
  obtain ⟨sl, ys, f, hs, hk⟩ := hp.forget
  simp only [un2_tuple, unL_slice, unI_int]
  rw [mBind_ap]
  refine mIf_pos (by decide) ?_
  refine RdI.str (hs.rowI' 3 rfl (by simp; exact ⟨hu8 _ (by omega) (by omega), hu8 _ (by omega) (by omega)⟩)).1 ?_
  rw [mRet_ap, mBind_ap]
  refine mIf_pos (by decide +kernel) ?_
  refine RdI.str (hs.rowI' 2 rfl (by simp; exact hu8 _ (by omega) (by omega))).1 ?_
  rw [mRet_ap, mBind_ap]
  refine mIf_pos (by decide +kernel) ?_
  rw [mBind_ap]
  refine (New_none hs).mono ?_
  rintro v h ⟨rfl, hs⟩
  simp only [unP_pointer]
  exact ⟨rfl, hs.under⟩
theorem po9 (hb : RdI h0.size h0 .u8 bS zs) (hbc : bS.n ≤ bS.c) (hw : RdI h0.size h0 .u8 wS ws) (hr : RdI h0.size h0 .u8 rS rs) (hzl : zs.length ≤ 400) (hwl : ws.length ≤ 100) (hr1 : r ≤ 256) : ∀ (d k m : Nat) (rest out : Sl) (os Q : List Int) (h : Hp), k + d = ws.length → RdI h0.size h0 .u8 rest (zs.drop m) → rest.n ≤ rest.c → m ≤ zs.length → os ++ Q = zs.take m → Pip h0 [aRow encU 1 out os] b r Q false h →
    K_signalboxlaw37_PipeOrder_9 bS rS (some ⟨b, 0, none⟩) rest out wS (wS.n : Int) (k : Int) h (PFin h0)
  | 0, k, m, rest, out, os, Q, h, hk, hrest, hrc, hm, hos, hp => by
    have hwn := hw.n
    have hbn := hb.n
    have hrn := hrest.n
    rw [List.length_drop] at hrn
    have hwf : ∀ z ∈ os ++ Q, isU8 z := fun z hz => hb.wf z (List.mem_of_mem_take (hos ▸ hz))
    have hlen : os.length + Q.length = m := by have := congrArg List.length hos; rw [List.length_append, List.length_take] at this; omega
    apply S_signalboxlaw37_PipeOrder_9
    unfold B_signalboxlaw37_PipeOrder_9
    refine mIf_neg (by simp; omega) ?_
    rw [mBind_ap]
    refine (Read_s (by omega) hp).mono ?_
    rintro v h ⟨x, rfl, sl, ys, f, hs, hk⟩
    rw [show (5000 : Int).toNat = 5000 from rfl, List.take_of_length_le (by omega)] at hs
    simp only [un2_tuple, unL_slice, unI_int]
    refine hs.appI 3 rfl (hs.rowI' 2 rfl fun z hz => hwf z (by simp [hz])).1 rfl (by omega) (by omega) fun s' h hn hs => ?_
    simp only [List.set_cons_succ, List.set_cons_zero] at hs
    rw [hos] at hs
    rw [wrap64 _ (by omega)]
    refine hb.slc hbc (by omega) (by omega) (by omega) rfl fun x91 hx91 _ => ?_
    rw [show ((bS.n : Int) - (rest.n : Int)).toNat = m by omega, Int.toNat_zero, List.drop_zero] at hx91
    have r1 := (hs.rowI' 3 rfl fun z hz => hb.wf z (List.mem_of_mem_take hz)).1
    have r2 := hx91.now hs
    refine mAnd_intro ?_ ?_
    · refine r1.str (r2.str ?_)
      exact ⟨by simp, hs.under⟩
    · refine r2.str (r1.str ?_)
      exact ⟨by simp, hs.under⟩
  | d + 1, k, m, rest, out, os, Q, h, hk, hrest, hrc, hm, hos, hp => by
    have ih := po9 hb hbc hw hr hzl hwl hr1 d (k + 1)
    have hwn := hw.n
    have hbn := hb.n
    have hrn := hrest.n
    have hrrn := hr.n
    rw [List.length_drop] at hrn
    have hwf : ∀ z ∈ os ++ Q, isU8 z := fun z hz => hb.wf z (List.mem_of_mem_take (hos ▸ hz))
    have hlen : os.length + Q.length = m := by have := congrArg List.length hos; rw [List.length_append, List.length_take] at this; omega
    apply S_signalboxlaw37_PipeOrder_9
    unfold B_signalboxlaw37_PipeOrder_9
    refine mIf_pos (by simp; omega) ?_
    refine (hw.under hp.sep.under).ix (j := k) (by omega) ?_
    have hw1 := hw.wf (ws[k]'(by omega)) (by simp)
    generalize ws[k]'(by omega) = w at hw1
    rw [show IntKind.u8.min = 0 by decide, show IntKind.u8.max = 255 by decide] at hw1
    rw [wrap64 w (by omega)]
    have hn : (if (rest.n : Int) < w then (rest.n : Int) else w) = ((min (zs.length - m) w.toNat : Nat) : Int) := by split <;> omega
    rw [hn]
    generalize hkk : min (zs.length - m) w.toNat = k1 at *
    refine hrest.slc hrc (by omega) (by omega) (by rw [List.length_drop]; omega) rfl fun x50 hx50 hx50c => ?_
    rw [Int.toNat_natCast, Int.toNat_zero, List.drop_zero] at hx50
    rw [mBind_ap]
    refine (Write_s (fun h' hs' => hx50.now hs') hx50c (by rw [List.length_take, List.length_drop]; omega) hp).mono ?_
    rintro v h ⟨rfl, hp⟩
    have hl50 : ((zs.drop m).take k1).length = k1 := by rw [List.length_take, List.length_drop]; omega
    rw [hl50] at hp ⊢
    generalize hww : min k1 (r - Q.length) = n at *
    rw [List.take_take, Nat.min_eq_left (by omega)] at hp
    simp only [un2_tuple, unI_int]
    refine hrest.slc hrc (by omega) (by omega) (by rw [List.length_drop]; omega) rfl fun x56 hx56 hx56c => ?_
    rw [Int.toNat_natCast, Int.toNat_natCast, List.take_of_length_le (by rw [List.length_drop]; omega), List.drop_drop] at hx56
    have hos1 : os ++ (Q ++ (zs.drop m).take n) = zs.take (m + n) := by rw [← List.append_assoc, hos, List.take_add]
    generalize hq1 : Q ++ (zs.drop m).take n = Q1 at *
    have hwf1 : ∀ z ∈ os ++ Q1, isU8 z := fun z hz => hb.wf z (List.mem_of_mem_take (hos1 ▸ hz))
    have hlen1 : os.length + Q1.length = m + n := by have := congrArg List.length hos1; rw [List.length_append, List.length_take] at this; omega
    have hk1 : IntKind.i64.wrap ((k : Int) + 1) = ((k + 1 : Nat) : Int) := by rw [wrap64 _ (by omega)]; omega
    refine mIf_intro (fun hc => ?_) (fun hc => ?_)
    · have hc : k < rs.length := by simp at hc; omega
      refine (hr.under hp.sep.under).ix (j := k) hc ?_
      have hr1 := hr.wf (rs[k]'hc) (by simp)
      generalize rs[k]'hc = q at hr1
      rw [show IntKind.u8.min = 0 by decide, show IntKind.u8.max = 255 by decide] at hr1
      rw [wrap64 q (by omega), mBind_ap]
      refine (Read_s (by omega) hp).mono ?_
      rintro v h ⟨x, rfl, sl, ys, f, hs, hk'⟩
      simp only [un2_tuple, unL_slice, unI_int]
      refine hs.appI 3 rfl (hs.rowI' 2 rfl fun z hz => hwf1 z (by simp [List.mem_of_mem_take hz])).1 rfl (by omega) (by rw [List.length_take]; omega) fun s' h hn hs => ?_
      simp only [List.set_cons_succ, List.set_cons_zero] at hs
      rw [hk1]
      exact ih (m + n) x56 s' _ _ h (by omega) hx56 hx56c (by omega) (by rw [List.append_assoc, List.take_append_drop]; exact hos1) ⟨sl, ys, f, (hs.front 2 rfl).drop, hk'⟩
    · rw [hk1]
      exact ih (m + n) x56 out os Q1 h (by omega) hx56 hx56c (by omega) hos1 hp
theorem PipeOrder_ok {room : Int} (hroom : 0 ≤ room ∧ room ≤ 255) (hb : RdI h0.size h0 .u8 bS zs) (hbc : bS.n ≤ bS.c) (hw : RdI h0.size h0 .u8 wS ws) (hr : RdI h0.size h0 .u8 rS rs) : N_signalboxlaw37_PipeOrder room bS wS rS h0 (PFin h0) := by
  have hwn := hw.n
  have hbn := hb.n
  apply S_signalboxlaw37_PipeOrder
  unfold B_signalboxlaw37_PipeOrder
  rw [mBind_ap]
  refine (pfixed_s (Sep.init h0)).mono ?_
  rintro v h ⟨rfl, hu⟩
  simp only [unB_bool]
  refine mIf_neg rfl ?_
  refine mIf_intro (fun hc => ⟨rfl, hu⟩) (fun hc => ?_)
  simp only [Bool.or_eq_false_iff, decide_eq_false_iff_not] at hc
  rw [wrap64 room (by omega), wrap64 _ (by omega), mBind_ap]
  refine (New_s (by omega) (by omega) ((Sep.init h0).more hu)).mono ?_
  rintro v h ⟨b, rfl, sl, ys, f, hs, hk⟩
  simp only [unP_pointer]
  exact po9 hb hbc hw hr (by omega) (by omega) (by omega) ws.length 0 0 bS ⟨none, 0, 0⟩ [] [] h (Nat.zero_add _) hb hbc (Nat.zero_le _) (by simp) ⟨sl, ys, f, (hs.nilRow encU 1).reT 3 [1, 2, 0] rfl (by simp), hk⟩
end
end Go.Proofs.Ytinjifhjjkdmoaa
