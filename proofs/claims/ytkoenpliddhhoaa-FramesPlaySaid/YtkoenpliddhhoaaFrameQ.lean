/- Frames: the law FramesNest, and what stands at the head of both. Conditions: none. -/
import Derived.Test.YtkoenpliddhhoaaFrameL
import Derived.Test.YtkoenpliddhhoaaSbS
namespace Go.Proofs.Ytkoenpliddhhoaa
open Go Go.Sb

section
variable {h0 h : Hp} {R : List As} {b : Nat} {l : List (Int × Int)} {pk : Int}
theorem All_s (hs : Sep h0 h (aStk b l pk :: R)) (hl : FOk l) : N_frames_Stack_All (some ⟨b, 0, none⟩) h (fun v h' => ∃ out : Sl, v = .slice out.p out.n out.c ∧ Sep h0 h' (aStk b l pk :: aRow Fr.enc 3 out (frs 0 l) :: R)) := by
  obtain ⟨s, hs⟩ := aStk_iff.1 hs
  have h256 := hl.n
  have hn := hs.rowLen 1 rfl
  rw [frs_len] at hn
  apply S_frames_Stack_All
  unfold B_frames_Stack_All
  simp only [Option.isNone_some, mIf_false, mNil_some]
  refine Sep.ldL hs 0 rfl rfl ?_
  rw [mBind_ap]
  have clone : N_slices_Clone_frames_Frame_frames_Frame s h (fun v h' => ∃ out : Sl, v = .slice out.p out.n out.c ∧ Sep h0 h' (aRow Fr.enc 3 out (frs 0 l) :: aBlk b [.slice s.p s.n s.c, .int .i64 pk] :: aRow Fr.enc 3 s (frs 0 l) :: R)) := by
    apply S_slices_Clone_frames_Frame_frames_Frame
    unfold B_slices_Clone_frames_Frame_frames_Frame
    refine mIf_intro (fun hc => ?_) (fun hc => ?_)
    · have hl0 : l = [] := by
        false_or_by_contra
        rename_i hne
        have hpos : 0 < (frs 0 l).length := by rw [frs_len]; exact List.length_pos_iff.2 hne
        have : mIdx s 0 3 (fun _ => (mRet () : M Unit)) h (fun _ _ => True) := hs.idx 1 rfl (by omega) (by omega) fun _ _ => trivial
        obtain ⟨a, ha, _⟩ := this
        rw [ha] at hc; cases hc
      subst hl0
      exact ⟨⟨none, 0, 0⟩, rfl, hs.nilRow Fr.enc 3⟩
    · (refine Sep.new hs fun nb h hs => ?_; try simp only [List.toList_toArray] at hs)
      have hs2 := Blk.row (enc := Fr.enc) (sz := 3) (xs := []) (n := 0) hs 0 rfl rfl rfl
      simp only [List.set_cons_zero] at hs2
      obtain ⟨F, hF, _⟩ := hs2.holds 2 rfl
      refine hs2.app_ 0 (frs 0 l) rfl (fun _ => rfl) (aRow_cells (fun _ => rfl) hF) (by rw [frs_len]; exact hn) ?_ rfl (by omega) (by rw [frs_len]; simp; omega) fun s' h hn hs => ?_
      · intro v hv
        obtain ⟨x, _, hx⟩ := List.mem_flatMap.1 hv
        simp only [Fr.enc, List.mem_cons, List.not_mem_nil, or_false] at hx
        rcases hx with rfl | rfl | rfl <;> rfl
      · simp only [List.set_cons_zero, List.nil_append] at hs
        exact ⟨s', rfl, hs⟩
  refine clone.mono ?_
  rintro v h ⟨out, rfl, hs⟩
  simp only [unL_slice, mRet_ap]
  refine ⟨out, rfl, aStk_iff.2 ⟨s, hs.perm ?_⟩⟩
  exact (List.Perm.swap _ _ _).trans ((List.Perm.swap _ _ _).cons _)
theorem All_nil (h : Hp) : N_frames_Stack_All none h (fun v h' => v = .slice none 0 0 ∧ h' = h) := by
  apply S_frames_Stack_All
  unfold B_frames_Stack_All
  simp
theorem ffixed_s (hs : Sep h0 h R) : N_signalboxlaw15_fixed h (fun v h' => v = .bool true ∧ Sep h0 h' R) := by
  apply S_signalboxlaw15_fixed
  unfold B_signalboxlaw15_fixed
  rw [mBind_ap]
  refine (sNew_s hs).mono ?_
  rintro v h ⟨b, rfl, hs⟩
  simp only [unP_pointer, mBind_ap]
  refine (Push_s hs ⟨by simp, by simp⟩ 1 5 (by decide) (by simp) (by decide)).mono ?_
  rintro v h ⟨rfl, hs⟩
  have e1 : max (0 : Int) (fsum [] + 5) = 5 := by decide
  rw [e1, List.nil_append] at hs
  simp only [un2_tuple, unI_int, mBind_ap]
  have k1 : FOk [(1, 5)] := ⟨by simp, by simp⟩
  refine (Push_s hs k1 2 3 (by decide) (by simp) (by decide)).mono ?_
  rintro v h ⟨rfl, hs⟩
  have e2 : max (5 : Int) (fsum [(1, 5)] + 3) = 8 := by decide
  rw [e2] at hs
  simp only [List.cons_append, List.nil_append, un2_tuple, unI_int, mBind_ap] at hs ⊢
  have k2 : FOk [(1, 5), (2, 3)] := ⟨by simp, by simp⟩
  refine (Pop_s hs k2 1).mono ?_
  rintro v h ⟨rfl, hs⟩
  have e3 : popL [(1, 5), (2, 3)] 1 = [(1, 5), (2, 3)] := by decide
  rw [e3] at hs
  simp only [unI_int, mBind_ap]
  refine (Pop_s hs k2 2).mono ?_
  rintro v h ⟨rfl, hs⟩
  have e4 : popL [(1, 5), (2, 3)] 2 = [(1, 5)] := by decide
  rw [e4] at hs
  simp only [unI_int, mBind_ap]
  refine (Push_bad h b 3 (-1) (by decide)).mono ?_
  rintro v h' ⟨rfl, rfl⟩
  simp only [un2_tuple, unI_int, mBind_ap]
  refine mIf_pos (by decide) ?_
  rw [mBind_ap]
  refine (Depth_s hs k1).mono ?_
  rintro v h ⟨rfl, hs⟩
  simp only [unI_int, mRet_ap]
  refine mIf_pos (by decide) ?_
  rw [mBind_ap]
  refine (Peak_s hs).mono ?_
  rintro v h' ⟨rfl, rfl⟩
  simp only [unI_int, mRet_ap]
  refine mIf_pos (by decide) ?_
  rw [mBind_ap]
  refine (All_s hs k1).mono ?_
  rintro v h ⟨out, rfl, hs⟩
  have hn := hs.rowLen 1 rfl
  simp only [unL_slice, mRet_ap]
  rw [hn]
  exact ⟨rfl, hs.drop.drop⟩
end
/-- what has been pushed, ahead of place k -/
def pushed (zs : List Int) (k : Nat) : List (Int × Int) := (zs.take k).mapIdx fun i z => ((i : Int), z)
theorem pushed_succ (zs : List Int) (k : Nat) (hk : k < zs.length) : pushed zs (k + 1) = pushed zs k ++ [((k : Int), zs[k])] := by
  unfold pushed
  rw [List.take_succ_eq_append_getElem hk, List.mapIdx_append]
  simp [Nat.min_eq_left (Nat.le_of_lt hk)]
theorem pushed_len (zs : List Int) (k : Nat) (hk : k ≤ zs.length) : (pushed zs k).length = k := by
  unfold pushed; simp; omega
theorem pushed_ok (zs : List Int) (hz : ∀ z ∈ zs, 0 ≤ z ∧ z ≤ 255) (hlen : zs.length ≤ 200) : ∀ (k : Nat), k ≤ zs.length → FOk (pushed zs k)
  | 0, _ => ⟨by simp [pushed], by simp [pushed]⟩
  | k + 1, hk => by
    have ih := pushed_ok zs hz hlen k (by omega)
    rw [pushed_succ zs k (by omega)]
    refine ⟨by simp [pushed_len zs k (by omega)]; omega, fun x hx => ?_⟩
    rcases List.mem_append.1 hx with hx | hx
    · exact ih.z x hx
    · simp only [List.mem_singleton] at hx
      subst hx
      have := hz zs[k] (List.getElem_mem _)
      simp only; omega
theorem FramesNest_ok {h : Hp} {ls : Sl} {zs : List Int} (hl : RdI h.size h .u8 ls zs) : N_signalboxlaw15_FramesNest ls h (fun v h' => v = .bool true ∧ Under h.size h h') := by
  apply S_signalboxlaw15_FramesNest
  unfold B_signalboxlaw15_FramesNest
  rw [mBind_ap]
  refine (ffixed_s (Sep.init h)).mono ?_
  rintro v h1 ⟨rfl, hs⟩
  simp only [unB_bool, Bool.not_true, mIf_false]
  have hln := hl.n
  refine mIf_dec (fun hc => ⟨rfl, hs.under⟩) (fun hc => ?_)
  rw [mBind_ap]
  refine (sNew_s hs).mono ?_
  rintro v h2 ⟨b, rfl, hs⟩
  simp only [unP_pointer]
  have hlen : zs.length ≤ 200 := by omega
  have hz : ∀ z ∈ zs, 0 ≤ z ∧ z ≤ 255 := fun z hz => by
    have := hl.wf z hz
    rwa [show IntKind.u8.min = 0 by decide, show IntKind.u8.max = 255 by decide] at this
  have hok := pushed_ok zs hz hlen
  have down : ∀ (k : Nat) (hh : Hp), k ≤ zs.length → Sep h hh [aStk b (pushed zs k) (fsum (pushed zs zs.length))] → K_signalboxlaw15_FramesNest_16 (some ⟨b, 0, none⟩) (fsum (pushed zs zs.length)) ((k : Int) - 1) hh (fun v h' => v = .bool true ∧ Under h.size h h') := by
    intro k
    induction k with
    | zero =>
      intro hh hk hs
      apply S_signalboxlaw15_FramesNest_16
      unfold B_signalboxlaw15_FramesNest_16
      rw [decide_eq_false (by omega), mIf_false, mBind_ap]
      refine (Depth_s hs (hok 0 hk)).mono ?_
      rintro v h ⟨rfl, hs⟩
      simp only [unI_int, mBind_ap]
      refine mIf_pos rfl ?_
      rw [mBind_ap]
      refine (Peak_s hs).mono ?_
      rintro v h' ⟨rfl, rfl⟩
      simp only [unI_int, mRet_ap, beq_self_eq_true, mIf_true, mBind_ap]
      refine (Pop_s hs (hok 0 hk) 0).mono ?_
      rintro v h ⟨rfl, hs⟩
      exact ⟨rfl, hs.under⟩
    | succ k ih =>
      intro hh hk hs
      apply S_signalboxlaw15_FramesNest_16
      unfold B_signalboxlaw15_FramesNest_16
      rw [decide_eq_true (by omega), mIf_true, mBind_ap, show ((k + 1 : Nat) : Int) - 1 = (k : Int) by omega]
      have hp := pushed_succ zs k (by omega)
      refine (Pop_s hs (hok (k + 1) hk) k).mono ?_
      rintro v h ⟨rfl, hs⟩
      have e1 : popE (pushed zs (k + 1)) k = 0 := by unfold popE; rw [hp, topF_snoc, if_neg (by simp), if_pos rfl]
      have e2 : popL (pushed zs (k + 1)) k = pushed zs k := by unfold popL; rw [hp, topF_snoc, if_neg (by simp), if_pos rfl, List.dropLast_concat]
      rw [e1]
      rw [e2] at hs
      simp only [unI_int, bne_self_eq_false, mIf_false]
      rw [wrap64 _ (by omega)]
      exact ih h (by omega) hs
  have up : ∀ (d i : Nat) (h3 : Hp), i + d = zs.length → Sep h h3 [aStk b (pushed zs i) (fsum (pushed zs i))] → K_signalboxlaw15_FramesNest_8 ls (some ⟨b, 0, none⟩) (fsum (pushed zs i)) ls (ls.n : Int) (i : Int) h3 (fun v h' => v = .bool true ∧ Under h.size h h') := by
    intro d
    induction d with
    | zero =>
      intro i h3 hid hs
      apply S_signalboxlaw15_FramesNest_8
      unfold B_signalboxlaw15_FramesNest_8
      rw [decide_eq_false (by omega), mIf_false, wrap64 _ (by omega)]
      have hi : i = zs.length := by omega
      subst hi
      rw [hln]
      exact down zs.length h3 (by omega) hs
    | succ d ih =>
      intro i h3 hid hs
      apply S_signalboxlaw15_FramesNest_8
      unfold B_signalboxlaw15_FramesNest_8
      rw [decide_eq_true (by omega), mIf_true]
      refine hs.argI hl (by omega) (by omega) ?_
      have hi : i < zs.length := by omega
      rw [show zs[(i : Int).toNat]'(by omega) = zs[i] from rfl]
      have hzi := hz zs[i] (List.getElem_mem hi)
      rw [wrap64 zs[i] (by omega), mBind_ap]
      have hoki := hok i (by omega)
      have hb := fsum_b _ hoki.z
      rw [pushed_len zs i (by omega)] at hb
      refine (Push_s hs hoki i zs[i] (by unfold pushBad; simp; omega) (by rw [pushed_len zs i (by omega)]; omega) (by omega)).mono ?_
      rintro v h4 ⟨rfl, hs⟩
      simp only [un2_tuple, unI_int, bne_self_eq_false, Bool.or_self, mIf_false]
      have e1 : fsum (pushed zs (i + 1)) = fsum (pushed zs i) + zs[i] := by rw [pushed_succ zs i hi, fsum_app]; simp [fsum]
      rw [wrap64 _ (by omega), wrap64 _ (by omega), ← e1, show (i : Int) + 1 = ((i + 1 : Nat) : Int) by omega]
      refine ih (i + 1) h4 (by omega) ?_
      rw [show max (fsum (pushed zs i)) (fsum (pushed zs i) + zs[i]) = fsum (pushed zs (i + 1)) by rw [e1]; omega, ← pushed_succ zs i hi] at hs
      exact hs
  exact up zs.length 0 h2 (by omega) hs
end Go.Proofs.Ytkoenpliddhhoaa
