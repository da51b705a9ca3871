/- The law ReadyPlays: one act. Conditions: none. -/
import Derived.Test.YtimpaammdmeocaaRdyT
import Derived.Test.YtimpaammdmeocaaSbW
namespace Go.Proofs.Ytimpaammdmeocaa
open Go Go.Sb
set_option linter.unusedSimpArgs false
set_option linter.unusedVariables false
section
variable {h0 h : Hp} {R : List As} {b c : Nat} {C : PCfg} {sm sc se st sl : Sl} {ts : List (PTask × Sl)} {rows nx ord ls : Sl} {l : List Nat} {acts : List RAct} {ys : List PQ} {k : Nat}
/-- what comes after an act -/
abbrev Next (h0 : Hp) (C : PCfg) (sm sc se st sl rows nx ord ls : Sl) (b c : Nat) (l : List Nat) (k : Nat) : Prop := ∀ (ys : List PQ) (R : List As) (h : Hp), LInv C ys → Sep h0 h (St C sm sc se st sl rows nx ord b c l ys R) →
  K_signalboxlaw16_ReadyPlays_16 ⟨c, 0, none⟩ (some ⟨b, 0, none⟩) ord rows nx (sumQ ys : Int) ls (ls.n : Int) (IntKind.i64.wrap ((k : Int) + 1)) h (RFin h0)
theorem lenR (hk : PrOk C) (hI : LInv C ys) (hs : Sep h0 h (St C sm sc se st sl rows nx ord b c l ys R)) : N_ready_Ready_Len (some ⟨b, 0, none⟩) h (fun v h' => v = .int .i64 (sumQ ys : Int) ∧ h' = h) :=
  Len_s (hs.reT 5 [2, 0, 1, 3, 4] rfl (by simp) : Sep h0 h (aReady b ys :: aGrid encJ 3 rows (ys.map PQ.q) :: aRow encI 1 nx (ys.map PQ.nx) :: aRow encI 1 ord (l.map Int.ofNat) :: aBlk c (cfgC C sm sc se st sl) :: R)) hI.q4
theorem k34 (hk : PrOk C) (hI : LInv C ys) (next : Next h0 C sm sc se st sl rows nx ord ls b c l k) (n : Nat) (hn : n + 1 = sumQ ys) (hs : Sep h0 h (St C sm sc se st sl rows nx ord b c l ys R)) :
    K_signalboxlaw16_ReadyPlays_34 ⟨c, 0, none⟩ (some ⟨b, 0, none⟩) ord rows nx (n : Int) ls (ls.n : Int) (k : Int) h (RFin h0) := by
  have hq := sumQ_le ys hI.q4
  have h1 := hI.len
  have h2 := hk.few
  apply S_signalboxlaw16_ReadyPlays_34
  unfold B_signalboxlaw16_ReadyPlays_34
  rw [mBind_ap]
  refine (lenR hk hI hs).mono ?_
  rintro v h' ⟨rfl, rfl⟩
  simp only [unI_int]
  have e : IntKind.i64.wrap ((n : Int) + 1) = (sumQ ys : Int) := by rw [wrap64 _ (by omega)]; omega
  rw [e]
  refine mIf_neg (by simp) ?_
  exact next ys R _ hI hs
set_option maxHeartbeats 4000000 in
theorem k28 (hk : PrOk C) (hI : LInv C ys) {i : Nat} {y : PQ} (hi : ys[i]? = some y) {a : RAct} {x17 x27 : Nat} (next : Next h0 C sm sc se st sl rows nx ord ls b c l k)
    (hs : Sep h0 h (aBlk x27 [.int .i64 (i : Int), .int .i64 y.nx, .int .i64 a.at_] :: aBlk x17 [.bool a.take, .int .i64 (i : Int), .int .i64 a.at_] :: St C sm sc se st sl rows nx ord b c l ys R)) :
    K_signalboxlaw16_ReadyPlays_28 ⟨c, 0, none⟩ (some ⟨b, 0, none⟩) ord rows nx (sumQ ys : Int) ⟨x17, 0, none⟩ ⟨x27, 0, none⟩ ls (ls.n : Int) (k : Int) h (RFin h0) := by
  obtain ⟨hil, hie⟩ := List.getElem?_eq_some_iff.1 hi
  have hq4 := hI.q4 y (List.mem_of_getElem? hi)
  have hnx : (ys.map PQ.nx)[i]? = some y.nx := by rw [List.getElem?_map, hi]; rfl
  apply S_signalboxlaw16_ReadyPlays_28
  unfold B_signalboxlaw16_ReadyPlays_28
  simp only [add_mk, Nat.zero_add]
  refine Sep.ldI hs 1 rfl rfl ?_
  refine Sep.idx hs 3 rfl (by omega) (by rw [List.length_map]; omega) fun a1 ha1 => ?_
  rw [Int.toNat_natCast] at ha1
  refine hs.rldI0 3 rfl (fun _ => rfl) ha1 hnx rfl ?_
  refine Sep.idx hs 3 rfl (by omega) (by rw [List.length_map]; omega) fun a2 ha2 => ?_
  rw [Int.toNat_natCast] at ha2
  refine hs.ist 3 rfl ha2 (by rw [List.length_map]; omega) fun h hs => ?_
  simp only [List.set_cons_zero, List.set_cons_succ] at hs
  refine Sep.ldI hs 1 rfl rfl ?_
  refine Sep.ldI hs 1 rfl rfl ?_
  rw [mBind_ap]
  have hs : Sep h0 h (aReady b ys :: aBlk x27 [.int .i64 (i : Int), .int .i64 y.nx, .int .i64 a.at_] :: aBlk x17 [.bool a.take, .int .i64 (i : Int), .int .i64 a.at_] :: aGrid encJ 3 rows (ys.map PQ.q) :: aRow encI 1 nx ((ys.map PQ.nx).set i (IntKind.i64.wrap (y.nx + 1))) :: aRow encI 1 ord (l.map Int.ofNat) :: aBlk c (cfgC C sm sc se st sl) :: R) := hs.reT 7 [4, 0, 1, 2, 3, 5, 6] rfl (by simp)
  refine (Release_s hs hi a.at_).mono ?_
  rintro v h ⟨rfl, hs⟩
  have hI' : LInv C (ys.set i (relY y i a.at_)) := hI.set hi _ rfl (by
    show (if y.q.length = 4 then y.q else y.q ++ [_]).length ≤ 4
    split
    · omega
    · rw [List.length_append, List.length_singleton]; omega)
  have hsum := sumQ_set ys i y (relY y i a.at_) hi
  have enx : (ys.set i (relY y i a.at_)).map PQ.nx = (ys.map PQ.nx).set i (IntKind.i64.wrap (y.nx + 1)) := by rw [List.map_set]; rfl
  have eq : (ys.set i (relY y i a.at_)).map PQ.q = (ys.map PQ.q).set i (if y.q.length = 4 then y.q else y.q ++ [⟨(i : Int), y.nx, a.at_⟩]) := by rw [List.map_set]; rfl
  rw [← enx] at hs
  have hrq : (relY y i a.at_).q = if y.q.length = 4 then y.q else y.q ++ [⟨(i : Int), y.nx, a.at_⟩] := rfl
  generalize hzs : ys.set i (relY y i a.at_) = zs at hs hI' hsum enx eq
  have hs : Sep h0 h (aBlk x27 [.int .i64 (i : Int), .int .i64 y.nx, .int .i64 a.at_] :: aBlk x17 [.bool a.take, .int .i64 (i : Int), .int .i64 a.at_] :: aGrid encJ 3 rows (ys.map PQ.q) :: aRow encI 1 nx (zs.map PQ.nx) :: aReady b zs :: aRow encI 1 ord (l.map Int.ofNat) :: aBlk c (cfgC C sm sc se st sl) :: R) := hs.reT 7 [1, 2, 3, 4, 0, 5, 6] rfl (by simp)
  (simp only [Bool.and_true, unT_tuple, unC_cons, unE_nil, unI_int, unA_agg]; (refine Sep.new hs fun nb h hs => ?_; try simp only [List.toList_toArray] at hs); (refine Sep.st hs 0 rfl rfl rfl fun h hs => ?_; simp only [List.set_cons_zero, List.set_cons_succ] at hs); (refine Sep.st hs 0 rfl rfl rfl fun h hs => ?_; simp only [List.set_cons_zero, List.set_cons_succ] at hs); (refine Sep.st hs 0 rfl rfl rfl fun h hs => ?_; simp only [List.set_cons_zero, List.set_cons_succ] at hs); refine Sep.ldI hs 0 rfl rfl ?_; refine Sep.ldI hs 0 rfl rfl ?_; refine Sep.ldI hs 0 rfl rfl ?_; refine Sep.ldI hs 1 rfl rfl ?_; refine Sep.ldI hs 1 rfl rfl ?_; refine Sep.ldI hs 1 rfl rfl ?_; simp only [mBind_ap])
  refine appS (m := mIf _ _ _) ?_ ?_
  rotate_left
  · intro Q' hQ
    refine mIf_neg (by simp) ?_
    (refine Sep.ldI hs 2 rfl rfl ?_)
    have hg : Sep h0 h (aGrid encJ 3 rows (ys.map PQ.q) :: _) := hs.reT 4 [3, 0, 1, 2] rfl (by simp)
    refine gridLd hg (i := i) (by rw [List.length_map]; exact hil) fun x L' hxn _ => ?_
    rw [List.getElem_map, hie] at hxn
    rw [mRet_ap, hxn]
    by_cases e : y.q.length = 4
    · rw [if_pos e, e]
      exact hQ
    · rw [if_neg e]
      have : (((y.q.length : Nat) : Int) == 4) = false := by simp; omega
      rw [this]
      exact hQ
  refine appS (m := mIf _ _ _) ?_ ?_
  rotate_left
  · intro Q' hQ
    refine mIf_neg rfl ?_
    rw [mRet_ap]
    by_cases e : y.q.length = 4
    · rw [if_pos e]; exact hQ
    · rw [if_neg e]; exact hQ
  refine mIf_neg rfl ?_
  by_cases e : y.q.length = 4
  · rw [if_pos e] at eq hrq ⊢
    refine mIf_neg (by rfl) ?_
    rw [hrq] at hsum
    have eq' : (ys.map PQ.q).set i y.q = ys.map PQ.q := by
      have hil' : i < (ys.map PQ.q).length := by rw [List.length_map]; exact hil
      have : (ys.map PQ.q)[i] = y.q := by rw [List.getElem_map, hie]
      rw [← this]; exact List.set_getElem_self hil'
    rw [eq'] at eq
    rw [← eq] at hs
    have hs : Sep h0 h (St C sm sc se st sl rows nx ord b c l zs R) := hs.drop.drop.drop
    rw [mBind_ap]
    refine (lenR hk hI' hs).mono ?_
    rintro v h' ⟨rfl, rfl⟩
    simp only [unI_int]
    rw [show sumQ ys = sumQ zs by omega]
    refine mIf_neg (by simp) ?_
    exact next zs R _ hI' hs
  · rw [if_neg e] at eq hrq ⊢
    rw [hrq, List.length_append, List.length_singleton] at hsum
    refine mIf_pos (by rfl) ?_
    have hg : Sep h0 h (aGrid encJ 3 rows (ys.map PQ.q) :: aBlk nb [.int .i64 (i : Int), .int .i64 y.nx, .int .i64 a.at_] :: aBlk x27 [.int .i64 (i : Int), .int .i64 y.nx, .int .i64 a.at_] :: aBlk x17 [.bool a.take, .int .i64 (i : Int), .int .i64 a.at_] :: aRow encI 1 nx (zs.map PQ.nx) :: aReady b zs :: aRow encI 1 ord (l.map Int.ofNat) :: aBlk c (cfgC C sm sc se st sl) :: R) := hs.reT 4 [3, 0, 1, 2] rfl (by simp)
    obtain ⟨ss, hl, hs⟩ := hg.gOpen i (by rw [List.length_map]; exact hil)
    rw [List.length_map] at hl
    rw [List.getElem_map, hie] at hs
    have fin : ∀ (s' : Sl) (x220 : Nat) (h : Hp), Sep h0 h (aBlk x220 [.int .i64 (i : Int), .int .i64 y.nx, .int .i64 a.at_] :: aRow encJ 3 s' (y.q ++ [⟨(i : Int), y.nx, a.at_⟩]) :: aRow encS 1 rows (ss.set i s') :: aAll ((List.zipWith (aRow encJ 3) ss (ys.map PQ.q)).eraseIdx i) :: aBlk nb [.int .i64 (i : Int), .int .i64 y.nx, .int .i64 a.at_] :: aBlk x27 [.int .i64 (i : Int), .int .i64 y.nx, .int .i64 a.at_] :: aBlk x17 [.bool a.take, .int .i64 (i : Int), .int .i64 a.at_] :: aRow encI 1 nx (zs.map PQ.nx) :: aReady b zs :: aRow encI 1 ord (l.map Int.ofNat) :: aBlk c (cfgC C sm sc se st sl) :: R) →
        K_signalboxlaw16_ReadyPlays_34 ⟨c, 0, none⟩ (some ⟨b, 0, none⟩) ord rows nx (sumQ ys : Int) ls (ls.n : Int) (k : Int) h (RFin h0) := by
      intro s' x220 h hs
      have h1 := Sep.gClose hs.drop (by rw [List.length_map]; exact hl) (by rw [List.length_map]; exact hil)
      rw [← eq] at h1
      refine k34 hk hI' next (sumQ ys) (by omega) (R := R) ?_
      exact (h1.reT 4 [1, 2, 3, 0] rfl (by simp)).drop.drop.drop
    have hiss : i < ss.length := by omega
    repeat' (first | with_reducible refine mAnd_intro ?_ ?_ | (first | (((with_reducible refine gd_mLdI ?_); refine Sep.ldI hs 5 rfl rfl ?_)) | (((with_reducible refine gd_mIdx ?_); (refine Sep.idx hs 1 rfl (by first | omega | (simp only [List.length_set, List.length_map, List.length_replicate, List.length_append, List.length_cons, List.length_nil, List.length_reverse, List.length_range]; omega) | (simp; omega)) (by first | omega | (simp only [List.length_set, List.length_map, List.length_replicate, List.length_append, List.length_cons, List.length_nil, List.length_reverse, List.length_range]; omega) | (simp; omega)) fun aa haa => ?_; try simp only [Int.toNat_natCast] at haa))) | (((with_reducible refine gd_mLdL ?_); refine Sep.rldL0 hs 1 rfl (fun _ => rfl) (by assumption) (List.getElem?_eq_getElem (by first | omega | (simp only [List.length_set, List.length_map, List.length_replicate, List.length_append, List.length_cons, List.length_nil, List.length_reverse, List.length_range]; omega) | (simp; omega))) rfl ?_)) | (((with_reducible refine gd_mLdI ?_); refine Sep.ldI hs 4 rfl rfl ?_)) | (((with_reducible refine gd_mNew ?_); (refine Sep.new hs fun nb_1 h hs => ?_; try simp only [List.toList_toArray] at hs))) | (((with_reducible refine gd_mIdx ?_); (refine Sep.idx hs 2 rfl (by first | omega | (simp only [List.length_set, List.length_map, List.length_replicate, List.length_append, List.length_cons, List.length_nil, List.length_reverse, List.length_range]; omega) | (simp; omega)) (by first | omega | (simp only [List.length_set, List.length_map, List.length_replicate, List.length_append, List.length_cons, List.length_nil, List.length_reverse, List.length_range]; omega) | (simp; omega)) fun aa_1 haa_1 => ?_; try simp only [Int.toNat_natCast] at haa_1))) | (((with_reducible refine gd_mSt ?_); (refine Sep.sst hs 2 rfl (by assumption) (by first | omega | (simp only [List.length_set, List.length_map, List.length_replicate, List.length_append, List.length_cons, List.length_nil, List.length_reverse, List.length_range]; omega) | (simp; omega)) fun h hs => ?_; simp only [List.set_cons_zero, List.set_cons_succ] at hs))) | (((with_reducible refine gd_mLdL ?_); refine Sep.rldL0 hs 2 rfl (fun _ => rfl) (by assumption) (List.getElem?_eq_getElem (by first | omega | (simp only [List.length_set, List.length_map, List.length_replicate, List.length_append, List.length_cons, List.length_nil, List.length_reverse, List.length_range]; omega) | (simp; omega))) rfl ?_)) | (((with_reducible refine gd_mLdI ?_); refine Sep.ldI hs 6 rfl rfl ?_)) | (((with_reducible refine gd_mIdx ?_); (refine Sep.idx hs 2 rfl (by first | omega | (simp only [List.length_set, List.length_map, List.length_replicate, List.length_append, List.length_cons, List.length_nil, List.length_reverse, List.length_range]; omega) | (simp; omega)) (by first | omega | (simp only [List.length_set, List.length_map, List.length_replicate, List.length_append, List.length_cons, List.length_nil, List.length_reverse, List.length_range]; omega) | (simp; omega)) fun aa haa => ?_; try simp only [Int.toNat_natCast] at haa)))) | (refine Sep.app1 hs 1 0 ⟨(i : Int), y.nx, a.at_⟩ rfl rfl (fun _ => rfl) (by simp [Value.oneCell']) rfl (by omega) (by omega) fun s' h hn hs => ?_; simp only [List.set_cons_zero, List.set_cons_succ] at hs))
    all_goals exact fin _ _ _ hs
end
end Go.Proofs.Ytimpaammdmeocaa
