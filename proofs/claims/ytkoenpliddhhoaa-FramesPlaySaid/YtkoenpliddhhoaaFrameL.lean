/- Frames: what each call answers, over what is owned. Conditions: none. -/
import Derived.Test.YtkoenpliddhhoaaFrameM
import Derived.Test.YtkoenpliddhhoaaSbS
namespace Go.Proofs.Ytkoenpliddhhoaa
open Go Go.Sb

structure Fr where
  who : Int
  base : Int
  size : Int
def Fr.enc (x : Fr) : List Value := [.int .i64 x.who, .int .i64 x.base, .int .i64 x.size]
/-- frames, each with who and how much; one on the other -/
def fsum (l : List (Int × Int)) : Int := (l.map (·.2)).sum
def frs : Int → List (Int × Int) → List Fr
  | _, [] => []
  | d, (w, z) :: l => ⟨w, d, z⟩ :: frs (d + z) l
theorem frs_len : ∀ (d : Int) (l : List (Int × Int)), (frs d l).length = l.length
  | _, [] => rfl
  | d, (w, z) :: l => by simp [frs, frs_len]
theorem frs_app : ∀ (d : Int) (l m : List (Int × Int)), frs d (l ++ m) = frs d l ++ frs (d + fsum l) m
  | d, [], m => by simp [frs, fsum]
  | d, (w, z) :: l, m => by
    simp only [List.cons_append, frs, frs_app (d + z) l m, fsum, List.map_cons, List.sum_cons]
    rw [Int.add_assoc]
theorem fsum_app (l m : List (Int × Int)) : fsum (l ++ m) = fsum l + fsum m := by simp [fsum]
structure FOk (l : List (Int × Int)) : Prop where
  n : l.length ≤ 256
  z : ∀ x ∈ l, 0 ≤ x.2 ∧ x.2 ≤ 4096
theorem fsum_b : ∀ (l : List (Int × Int)), (∀ x ∈ l, 0 ≤ x.2 ∧ x.2 ≤ 4096) → 0 ≤ fsum l ∧ fsum l ≤ 4096 * l.length
  | [], _ => by simp [fsum]
  | (w, z) :: l, h => by
    have := fsum_b l fun x hx => h x (by simp [hx])
    have h1 := h (w, z) (by simp)
    simp only [fsum, List.map_cons, List.sum_cons, List.length_cons] at *
    omega
theorem snoc_of {X : Type} (l : List X) (h : l ≠ []) : ∃ m x, l = m ++ [x] := ⟨l.dropLast, l.getLast h, (List.dropLast_concat_getLast h).symm⟩
/-- the uppermost one -/
def topF (l : List (Int × Int)) : Fr := match l.getLast? with
  | some x => ⟨x.1, fsum l - x.2, x.2⟩
  | none => ⟨0, 0, 0⟩
theorem topF_snoc (m : List (Int × Int)) (x : Int × Int) : topF (m ++ [x]) = ⟨x.1, fsum m, x.2⟩ := by
  unfold topF
  simp [fsum]
theorem topF_depth (l : List (Int × Int)) : (topF l).base + (topF l).size = fsum l := by
  unfold topF
  cases h : l.getLast? with
  | none => rw [List.getLast?_eq_none_iff] at h; subst h; simp [fsum]
  | some x => simp only; omega
def topB (l : List (Int × Int)) : Bool := !l.isEmpty
theorem frs_top (m : List (Int × Int)) (x : Int × Int) : frs 0 (m ++ [x]) = frs 0 m ++ [topF (m ++ [x])] := by
  rw [frs_app, topF_snoc]; simp [frs]
/-- the stack behind block b -/
def aStk (b : Nat) (l : List (Int × Int)) (pk : Int) : As := aEx fun s : Sl => aStar (aBlk b [.slice s.p s.n s.c, .int .i64 pk]) (aRow Fr.enc 3 s (frs 0 l))
section
variable {h0 h : Hp} {R : List As} {b : Nat} {l : List (Int × Int)} {pk : Int}
theorem aStk_iff : Sep h0 h (aStk b l pk :: R) ↔ ∃ s : Sl, Sep h0 h (aBlk b [.slice s.p s.n s.c, .int .i64 pk] :: aRow Fr.enc 3 s (frs 0 l) :: R) := by
  unfold aStk; rw [Sep.ex]; simp only [Sep.star]
theorem sNew_s (hs : Sep h0 h R) : N_frames_New h (fun v h' => ∃ b, v = .pointer (some ⟨b, 0, none⟩) ∧ Sep h0 h' (aStk b [] 0 :: R)) := by
  apply S_frames_New
  unfold B_frames_New
  have hs := hs.nilRow Fr.enc 3
  (refine Sep.new hs fun nb h hs => ?_; try simp only [List.toList_toArray] at hs)
  exact ⟨nb, rfl, aStk_iff.2 ⟨⟨none, 0, 0⟩, hs⟩⟩
theorem end_s (hs : Sep h0 h R) (a c d : Int) : N_frames_Frame_end a c d h (fun v h' => v = .int .i64 (IntKind.i64.wrap (c + d)) ∧ Sep h0 h' R) := by
  apply S_frames_Frame_end
  unfold B_frames_Frame_end
  (refine Sep.new hs fun nb h hs => ?_; try simp only [List.toList_toArray] at hs)
  simp only [add_mk, Nat.zero_add]
  refine Sep.ldI hs 0 rfl rfl ?_; refine Sep.ldI hs 0 rfl rfl ?_
  exact ⟨rfl, hs.drop⟩
theorem Top_s (hs : Sep h0 h (aStk b l pk :: R)) (hl : FOk l) : N_frames_Stack_Top (some ⟨b, 0, none⟩) h (fun v h' => v = .tuple #[.agg #[.int .i64 (topF l).who, .int .i64 (topF l).base, .int .i64 (topF l).size], .bool (topB l)] ∧ Sep h0 h' (aStk b l pk :: R)) := by
  obtain ⟨s, hs⟩ := aStk_iff.1 hs
  have hn := hs.rowLen 1 rfl
  rw [frs_len] at hn
  have h256 := hl.n
  apply S_frames_Stack_Top
  unfold B_frames_Stack_Top
  (refine Sep.new hs fun nb h hs => ?_; try simp only [List.toList_toArray] at hs)
  simp only [Option.isNone_some, mIf_false, mNil_some, mBind_ap]
  refine Sep.ldL hs 1 rfl rfl ?_
  simp only [mRet_ap, add_mk, Nat.zero_add]
  refine mIf_intro (fun hc => ?_) (fun hc => ?_)
  · have hc : s.n = 0 := by simpa using hc
    have hl0 : l = [] := List.length_eq_zero_iff.1 (by omega)
    subst hl0
    (refine Sep.st hs 0 rfl rfl rfl fun h hs => ?_; simp only [List.set_cons_zero, List.set_cons_succ] at hs); (refine Sep.st hs 0 rfl rfl rfl fun h hs => ?_; simp only [List.set_cons_zero, List.set_cons_succ] at hs); (refine Sep.st hs 0 rfl rfl rfl fun h hs => ?_; simp only [List.set_cons_zero, List.set_cons_succ] at hs); refine Sep.ldI hs 0 rfl rfl ?_; refine Sep.ldI hs 0 rfl rfl ?_; refine Sep.ldI hs 0 rfl rfl ?_
    exact ⟨rfl, aStk_iff.2 ⟨s, hs.drop⟩⟩
  · have hc : ¬ s.n = 0 := by simpa using hc
    obtain ⟨m, x, rfl⟩ := snoc_of l (by rintro rfl; simp at hn; omega)
    refine Sep.ldL hs 1 rfl rfl ?_; refine Sep.ldL hs 1 rfl rfl ?_
    simp only [List.length_append, List.length_cons, List.length_nil] at hn
    rw [wrap64 _ (by simp only [List.length_append, List.length_cons, List.length_nil] at h256; omega)]
    refine hs.idx 2 rfl (by omega) (by rw [frs_len]; simp; omega) fun a ha => ?_
    have hget : (frs 0 (m ++ [x]))[((s.n : Int) - 1).toNat]? = some (topF (m ++ [x])) := by
      rw [frs_top, show ((s.n : Int) - 1).toNat = (frs 0 m).length by rw [frs_len]; omega]; simp
    refine hs.rldI0 2 rfl (fun _ => rfl) ha hget rfl ?_
    refine hs.rldI 2 rfl (fun _ => rfl) ha hget rfl ?_
    refine hs.rldI 2 rfl (fun _ => rfl) ha hget rfl ?_
    (refine Sep.st hs 0 rfl rfl rfl fun h hs => ?_; simp only [List.set_cons_zero, List.set_cons_succ] at hs); (refine Sep.st hs 0 rfl rfl rfl fun h hs => ?_; simp only [List.set_cons_zero, List.set_cons_succ] at hs); (refine Sep.st hs 0 rfl rfl rfl fun h hs => ?_; simp only [List.set_cons_zero, List.set_cons_succ] at hs); refine Sep.ldI hs 0 rfl rfl ?_; refine Sep.ldI hs 0 rfl rfl ?_; refine Sep.ldI hs 0 rfl rfl ?_
    exact ⟨by simp [topB], aStk_iff.2 ⟨s, hs.drop⟩⟩
theorem Top_nil (hs : Sep h0 h R) : N_frames_Stack_Top none h (fun v h' => v = .tuple #[.agg #[.int .i64 0, .int .i64 0, .int .i64 0], .bool false] ∧ Sep h0 h' R) := by
  apply S_frames_Stack_Top
  unfold B_frames_Stack_Top
  (refine Sep.new hs fun nb h hs => ?_; try simp only [List.toList_toArray] at hs)
  simp only [Option.isNone_none, mIf_true, mRet_ap, mBind_ap, add_mk, Nat.zero_add]
  (refine Sep.st hs 0 rfl rfl rfl fun h hs => ?_; simp only [List.set_cons_zero, List.set_cons_succ] at hs); (refine Sep.st hs 0 rfl rfl rfl fun h hs => ?_; simp only [List.set_cons_zero, List.set_cons_succ] at hs); (refine Sep.st hs 0 rfl rfl rfl fun h hs => ?_; simp only [List.set_cons_zero, List.set_cons_succ] at hs); refine Sep.ldI hs 0 rfl rfl ?_; refine Sep.ldI hs 0 rfl rfl ?_; refine Sep.ldI hs 0 rfl rfl ?_
  exact ⟨rfl, hs.drop⟩
theorem Depth_s (hs : Sep h0 h (aStk b l pk :: R)) (hl : FOk l) : N_frames_Stack_Depth (some ⟨b, 0, none⟩) h (fun v h' => v = .int .i64 (fsum l) ∧ Sep h0 h' (aStk b l pk :: R)) := by
  apply S_frames_Stack_Depth
  unfold B_frames_Stack_Depth
  rw [mBind_ap]
  refine (Top_s hs hl).mono ?_
  rintro v h ⟨rfl, hs⟩
  simp only [unT_tuple, unC_cons, unA_agg, unI_int, unB_bool, unE_nil]
  (refine Sep.new hs fun nb h hs => ?_; try simp only [List.toList_toArray] at hs)
  simp only [add_mk, Nat.zero_add]
  (refine Sep.st hs 0 rfl rfl rfl fun h hs => ?_; simp only [List.set_cons_zero, List.set_cons_succ] at hs); (refine Sep.st hs 0 rfl rfl rfl fun h hs => ?_; simp only [List.set_cons_zero, List.set_cons_succ] at hs); (refine Sep.st hs 0 rfl rfl rfl fun h hs => ?_; simp only [List.set_cons_zero, List.set_cons_succ] at hs); refine Sep.ldI hs 0 rfl rfl ?_; refine Sep.ldI hs 0 rfl rfl ?_; refine Sep.ldI hs 0 rfl rfl ?_
  rw [mBind_ap]
  refine (end_s hs.drop _ _ _).mono ?_
  rintro v h ⟨rfl, hs⟩
  have hb := fsum_b l hl.z
  have := hl.n
  simp only [unI_int, mRet_ap]
  rw [topF_depth, wrap64 _ (by omega)]
  exact ⟨rfl, hs⟩
theorem Depth_nil (hs : Sep h0 h R) : N_frames_Stack_Depth none h (fun v h' => v = .int .i64 0 ∧ Sep h0 h' R) := by
  apply S_frames_Stack_Depth
  unfold B_frames_Stack_Depth
  rw [mBind_ap]
  refine (Top_nil hs).mono ?_
  rintro v h ⟨rfl, hs⟩
  simp only [unT_tuple, unC_cons, unA_agg, unI_int, unB_bool, unE_nil]
  (refine Sep.new hs fun nb h hs => ?_; try simp only [List.toList_toArray] at hs)
  simp only [add_mk, Nat.zero_add]
  (refine Sep.st hs 0 rfl rfl rfl fun h hs => ?_; simp only [List.set_cons_zero, List.set_cons_succ] at hs); (refine Sep.st hs 0 rfl rfl rfl fun h hs => ?_; simp only [List.set_cons_zero, List.set_cons_succ] at hs); (refine Sep.st hs 0 rfl rfl rfl fun h hs => ?_; simp only [List.set_cons_zero, List.set_cons_succ] at hs); refine Sep.ldI hs 0 rfl rfl ?_; refine Sep.ldI hs 0 rfl rfl ?_; refine Sep.ldI hs 0 rfl rfl ?_
  rw [mBind_ap]
  refine (end_s hs.drop _ _ _).mono ?_
  rintro v h ⟨rfl, hs⟩
  exact ⟨rfl, hs⟩
theorem Peak_s (hs : Sep h0 h (aStk b l pk :: R)) : N_frames_Stack_Peak (some ⟨b, 0, none⟩) h (fun v h' => v = .int .i64 pk ∧ h' = h) := by
  obtain ⟨s, hs⟩ := aStk_iff.1 hs
  apply S_frames_Stack_Peak
  unfold B_frames_Stack_Peak
  simp only [Option.isNone_some, mIf_false, mNil_some, add_mk, Nat.zero_add]
  refine Sep.ldI hs 0 rfl rfl ?_
  exact ⟨rfl, rfl⟩
theorem Peak_nil (h : Hp) : N_frames_Stack_Peak none h (fun v h' => v = .int .i64 0 ∧ h' = h) := by
  apply S_frames_Stack_Peak
  unfold B_frames_Stack_Peak
  simp
def popE (l : List (Int × Int)) (who : Int) : Int := if l = [] then 8 else if (topF l).who = who then 0 else 9
def popL (l : List (Int × Int)) (who : Int) : List (Int × Int) := if l = [] then l else if (topF l).who = who then l.dropLast else l
theorem Pop_s (hs : Sep h0 h (aStk b l pk :: R)) (hl : FOk l) (who : Int) : N_frames_Stack_Pop (some ⟨b, 0, none⟩) who h (fun v h' => v = .int .i64 (popE l who) ∧ Sep h0 h' (aStk b (popL l who) pk :: R)) := by
  have h256 := hl.n
  apply S_frames_Stack_Pop
  unfold B_frames_Stack_Pop
  rw [mBind_ap]
  refine (Top_s hs hl).mono ?_
  rintro v h ⟨rfl, hs⟩
  simp only [unT_tuple, unC_cons, unA_agg, unI_int, unB_bool, unE_nil]
  (refine Sep.new hs fun nb h hs => ?_; try simp only [List.toList_toArray] at hs)
  simp only [add_mk, Nat.zero_add, mNil_some]
  (refine Sep.st hs 0 rfl rfl rfl fun h hs => ?_; simp only [List.set_cons_zero, List.set_cons_succ] at hs); (refine Sep.st hs 0 rfl rfl rfl fun h hs => ?_; simp only [List.set_cons_zero, List.set_cons_succ] at hs); (refine Sep.st hs 0 rfl rfl rfl fun h hs => ?_; simp only [List.set_cons_zero, List.set_cons_succ] at hs)
  unfold popE popL
  by_cases hl0 : l = []
  · rw [if_pos hl0, if_pos hl0]
    subst hl0
    exact ⟨rfl, hs.drop⟩
  · rw [if_neg hl0, if_neg hl0]
    refine mIf_neg (by unfold topB; cases l <;> simp_all) ?_
    refine Sep.ldI hs 0 rfl rfl ?_
    refine mIf_intro (fun hc => ?_) (fun hc => ?_)
    · have hc : ¬ (topF l).who = who := by simpa using hc
      rw [if_neg hc, if_neg hc]
      exact ⟨rfl, hs.drop⟩
    · have hc : (topF l).who = who := by simpa using hc
      rw [if_pos hc, if_pos hc]
      obtain ⟨s, hs⟩ := aStk_iff.1 hs.drop
      have hn := hs.rowLen 1 rfl
      rw [frs_len] at hn
      obtain ⟨m, x, rfl⟩ := snoc_of l hl0
      simp only [List.length_append, List.length_cons, List.length_nil] at hn h256
      refine Sep.ldL hs 0 rfl rfl ?_; refine Sep.ldL hs 0 rfl rfl ?_
      rw [wrap64 _ (by omega)]
      refine hs.slc 1 rfl (fun _ => rfl) (by omega) (by omega) (by rw [frs_len]; simp; omega) rfl fun s' hn' hs => ?_
      simp only [List.set_cons_zero, List.set_cons_succ] at hs
      (refine Sep.st hs 0 rfl rfl rfl fun h hs => ?_; simp only [List.set_cons_zero, List.set_cons_succ] at hs)
      have e : List.drop (Int.toNat 0) (List.take ((s.n : Int) - 1).toNat (frs 0 (m ++ [x]))) = frs 0 m := by
        rw [frs_top, show ((s.n : Int) - 1).toNat = (frs 0 m).length by rw [frs_len]; omega]; simp
      rw [e] at hs
      rw [List.dropLast_concat]
      exact ⟨rfl, aStk_iff.2 ⟨s', hs⟩⟩
theorem Pop_nil (hs : Sep h0 h R) (who : Int) : N_frames_Stack_Pop none who h (fun v h' => v = .int .i64 8 ∧ Sep h0 h' R) := by
  apply S_frames_Stack_Pop
  unfold B_frames_Stack_Pop
  rw [mBind_ap]
  refine (Top_nil hs).mono ?_
  rintro v h ⟨rfl, hs⟩
  simp only [unT_tuple, unC_cons, unA_agg, unI_int, unB_bool, unE_nil]
  (refine Sep.new hs fun nb h hs => ?_; try simp only [List.toList_toArray] at hs)
  simp only [add_mk, Nat.zero_add]
  (refine Sep.st hs 0 rfl rfl rfl fun h hs => ?_; simp only [List.set_cons_zero, List.set_cons_succ] at hs); (refine Sep.st hs 0 rfl rfl rfl fun h hs => ?_; simp only [List.set_cons_zero, List.set_cons_succ] at hs); (refine Sep.st hs 0 rfl rfl rfl fun h hs => ?_; simp only [List.set_cons_zero, List.set_cons_succ] at hs)
  exact ⟨rfl, hs.drop⟩
def pushBad (z : Int) : Bool := (decide (z < (0 : Int))) || (decide (z > (4096 : Int)))
theorem Push_s (hs : Sep h0 h (aStk b l pk :: R)) (hl : FOk l) (who z : Int) (hz : pushBad z = false) (hlt : l.length < 256) (hpk : fsum l ≤ pk) :
    N_frames_Stack_Push (some ⟨b, 0, none⟩) who z h (fun v h' => v = .tuple #[.int .i64 (fsum l), .int .i64 0] ∧ Sep h0 h' (aStk b (l ++ [(who, z)]) (max pk (fsum l + z)) :: R)) := by
  have hz' : 0 ≤ z ∧ z ≤ 4096 := by unfold pushBad at hz; simp at hz; omega
  have hb := fsum_b l hl.z
  obtain ⟨s, hs⟩ := aStk_iff.1 hs
  have hn := hs.rowLen 1 rfl
  rw [frs_len] at hn
  apply S_frames_Stack_Push
  unfold B_frames_Stack_Push
  simp only [Option.isNone_some, mIf_false, mNil_some]
  refine mIf_neg hz ?_
  refine Sep.ldL hs 0 rfl rfl ?_
  rw [decide_eq_false (by omega), mIf_false, mBind_ap]
  refine (Depth_s (aStk_iff.2 ⟨s, hs⟩) hl).mono ?_
  rintro v h ⟨rfl, hs⟩
  obtain ⟨s, hs⟩ := aStk_iff.1 hs
  simp only [unI_int]
  refine hs.new fun f h hs => ?_
  simp only [add_mk, Nat.zero_add]
  (refine Sep.st hs 0 rfl rfl rfl fun h hs => ?_; simp only [List.set_cons_zero, List.set_cons_succ] at hs); (refine Sep.st hs 0 rfl rfl rfl fun h hs => ?_; simp only [List.set_cons_zero, List.set_cons_succ] at hs); (refine Sep.st hs 0 rfl rfl rfl fun h hs => ?_; simp only [List.set_cons_zero, List.set_cons_succ] at hs)
  have hf : frs 0 l ++ [(⟨who, fsum l, z⟩ : Fr)] = frs 0 (l ++ [(who, z)]) := by rw [frs_app]; simp [frs]
  have k9 : ∀ (h : Hp) (s' : Sl), Sep h0 h (aBlk f (⟨who, fsum l, z⟩ : Fr).enc :: aBlk b [.slice s'.p s'.n s'.c, .int .i64 pk] :: aRow Fr.enc 3 s' (frs 0 l ++ [(⟨who, fsum l, z⟩ : Fr)]) :: R) →
      K_frames_Stack_Push_9 (some ⟨b, 0, none⟩) ⟨f, 0, none⟩ h (fun v h' => v = .tuple #[.int .i64 (fsum l), .int .i64 0] ∧ Sep h0 h' (aStk b (l ++ [(who, z)]) (max pk (fsum l + z)) :: R)) := by
    intro h s' hs
    have hm : (if IntKind.i64.wrap (fsum l + z) > pk then IntKind.i64.wrap (fsum l + z) else pk) = max pk (fsum l + z) := by
      rw [wrap64 _ (by omega)]; omega
    have fin : ∀ h, Sep h0 h (aBlk f (⟨who, fsum l, z⟩ : Fr).enc :: aBlk b [.slice s'.p s'.n s'.c, .int .i64 pk] :: aRow Fr.enc 3 s' (frs 0 l ++ [(⟨who, fsum l, z⟩ : Fr)]) :: R) → (mSt ⟨b, 1, none⟩ (.int .i64 (if IntKind.i64.wrap (fsum l + z) > pk then IntKind.i64.wrap (fsum l + z) else pk)) <|
        mLdI .i64 ⟨f, 1, none⟩ fun (x52 : Int) => mRet (Value.tuple #[.int .i64 x52, .int .i64 (0 : Int)])) h (fun v h' => v = .tuple #[.int .i64 (fsum l), .int .i64 0] ∧ Sep h0 h' (aStk b (l ++ [(who, z)]) (max pk (fsum l + z)) :: R)) := by
      intro h hs
      (refine Sep.st hs 1 rfl rfl rfl fun h hs => ?_; simp only [List.set_cons_zero, List.set_cons_succ] at hs); refine Sep.ldI hs 0 rfl rfl ?_
      rw [hm] at hs
      rw [hf] at hs
      exact ⟨rfl, aStk_iff.2 ⟨s', hs.drop⟩⟩
    apply S_frames_Stack_Push_9
    unfold B_frames_Stack_Push_9
    simp only [mNil_some, add_mk, Nat.zero_add]
    refine ⟨?_, ?_⟩
    · refine Sep.ldI hs 1 rfl rfl ?_; refine Sep.ldI hs 0 rfl rfl ?_; refine Sep.ldI hs 0 rfl rfl ?_; refine Sep.ldI hs 0 rfl rfl ?_
      rw [mBind_ap]
      refine (end_s hs _ _ _).mono ?_
      rintro v h ⟨rfl, hs⟩
      simp only [unI_int]
      exact fin h hs
    · refine Sep.ldI hs 0 rfl rfl ?_; refine Sep.ldI hs 0 rfl rfl ?_; refine Sep.ldI hs 0 rfl rfl ?_
      refine ⟨?_, ?_⟩
      · refine Sep.ldI hs 1 rfl rfl ?_
        rw [mBind_ap]
        refine (end_s hs _ _ _).mono ?_
        rintro v h ⟨rfl, hs⟩
        simp only [unI_int]
        exact fin h hs
      · rw [mBind_ap]
        refine (end_s hs _ _ _).mono ?_
        rintro v h ⟨rfl, hs⟩
        simp only [unI_int]
        refine Sep.ldI hs 1 rfl rfl ?_
        exact fin h hs
  have app : ∀ (h : Hp) (nb : Nat), Sep h0 h (aBlk nb (⟨who, fsum l, z⟩ : Fr).enc :: aBlk f (⟨who, fsum l, z⟩ : Fr).enc :: aBlk b [.slice s.p s.n s.c, .int .i64 pk] :: aRow Fr.enc 3 s (frs 0 l) :: R) →
      (mApp 67 3 24 #[.int .i64 (0 : Int), .int .i64 (0 : Int), .int .i64 (0 : Int)] s ⟨(some ⟨nb, 0, none⟩), 1, 1⟩ fun (x38 : Sl) => mSt ⟨b, 0, none⟩ (.slice x38.p x38.n x38.c) <| K_frames_Stack_Push_9 (some ⟨b, 0, none⟩) ⟨f, 0, none⟩) h (fun v h' => v = .tuple #[.int .i64 (fsum l), .int .i64 0] ∧ Sep h0 h' (aStk b (l ++ [(who, z)]) (max pk (fsum l + z)) :: R)) := by
    intro h nb hs
    refine hs.app1 3 0 ⟨who, fsum l, z⟩ rfl rfl (fun _ => rfl) (by simp [Fr.enc, Value.oneCell']) rfl (by omega) (by rw [frs_len]; omega) fun s' h hn hs => ?_
    simp only [List.set_cons_zero, List.set_cons_succ] at hs
    (refine Sep.st hs 2 rfl rfl rfl fun h hs => ?_; simp only [List.set_cons_zero, List.set_cons_succ] at hs)
    exact k9 h s' hs.drop
  refine ⟨?_, ?_⟩
  · refine Sep.ldL hs 1 rfl rfl ?_; refine Sep.ldI hs 0 rfl rfl ?_; refine Sep.ldI hs 0 rfl rfl ?_; refine Sep.ldI hs 0 rfl rfl ?_; (refine Sep.new hs fun nb h hs => ?_; try simp only [List.toList_toArray] at hs)
    exact app h nb hs
  · refine Sep.ldI hs 0 rfl rfl ?_; refine Sep.ldI hs 0 rfl rfl ?_; refine Sep.ldI hs 0 rfl rfl ?_
    refine ⟨?_, ?_⟩
    · refine Sep.ldL hs 1 rfl rfl ?_; (refine Sep.new hs fun nb h hs => ?_; try simp only [List.toList_toArray] at hs)
      exact app h nb hs
    · (refine Sep.new hs fun nb h hs => ?_; try simp only [List.toList_toArray] at hs); refine Sep.ldL hs 2 rfl rfl ?_
      exact app h nb hs
theorem Push_bad (h : Hp) (b : Nat) (who z : Int) (hz : pushBad z = true) : N_frames_Stack_Push (some ⟨b, 0, none⟩) who z h (fun v h' => v = .tuple #[.int .i64 0, .int .i64 5] ∧ h' = h) := by
  apply S_frames_Stack_Push
  unfold B_frames_Stack_Push
  simp only [Option.isNone_some, mIf_false]
  exact mIf_pos hz ⟨rfl, rfl⟩
theorem Push_nil (h : Hp) (who z : Int) : N_frames_Stack_Push none who z h (fun v h' => v = .tuple #[.int .i64 0, .int .i64 1] ∧ h' = h) := by
  apply S_frames_Stack_Push
  unfold B_frames_Stack_Push
  simp
end
end Go.Proofs.Ytkoenpliddhhoaa
