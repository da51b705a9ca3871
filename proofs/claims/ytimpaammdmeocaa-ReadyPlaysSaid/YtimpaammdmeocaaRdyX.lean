/- The law ReadyPlays. Conditions: none. -/
import Derived.Test.YtimpaammdmeocaaRdyW
import Derived.Test.YtimpaammdmeocaaCfgC
import Derived.Test.YtimpaammdmeocaaSbW
namespace Go.Proofs.Ytimpaammdmeocaa
open Go Go.Sb
set_option linter.unusedSimpArgs false
set_option linter.unusedVariables false
section
variable {h0 h : Hp} {R L : List As} {b c : Nat} {C : PCfg} {sm sc se st sl : Sl} {ts : List (PTask × Sl)} {ls : Sl} {acts : List RAct}
abbrev zS : Sl := ⟨none, 0, 0⟩
theorem rdI0 {B : Nat} {k : IntKind} : RdI B h k zS [] := ⟨rfl, fun i z hz => by simp at hz, fun z hz => by cases hz⟩
theorem rdE0 {X : Type} {B : Nat} {enc : X → List Value} {sz : Nat} : RdE B h enc sz zS [] := ⟨rfl, fun i z hz => by simp at hz⟩
theorem blkR {X : Type} {enc : X → List Value} {sz k b n : Nat} {xs : List X} (hs : Sep h0 h L) (hk : L[k]? = some (aBlk b (xs.flatMap enc))) (hn : n = xs.length) (hl : ∀ x, (enc x).length = sz) (hsz : 0 < sz) : RdE h.size h enc sz ⟨some ⟨b, 0, none⟩, n, n⟩ xs := by
  have hlt := (List.getElem?_eq_some_iff.1 hk).1
  have hs := Blk.row (enc := enc) (xs := xs) (sz := sz) (n := n) hs k hk rfl hn
  exact hs.rowE k (List.getElem?_set_self (by simpa using hlt)) hl hsz
def zC : PCfg := ⟨0, 0, 0, 0, [], 0, [], [], [], []⟩
theorem zC_rd : CRd h zC zS zS zS zS zS [] := ⟨rdI0, rdI0, rdI0, rdI0, rdE0, Nat.le_refl _, rfl, fun p hp => by cases hp⟩
theorem zC_bad : checkN zC = 5 := by decide +kernel
def fT0 : PTask := ⟨1, 1, 9, 9, 0, 0, [⟨1, 2, 0⟩]⟩
def fT1 : PTask := ⟨4, 4, 9, 9, 0, 0, [⟨1, 2, 0⟩]⟩
def fC : PCfg := ⟨1, 1, 1, 1, [], 0, [], [], [fT0, fT1], []⟩
theorem fC_ok : checkN fC = 0 := by decide +kernel
def fY : List PQ := [⟨1, 1, [⟨0, 0, 3⟩]⟩, ⟨4, 1, [⟨1, 0, 5⟩]⟩]
theorem fY_first {v : Value} (hv : FirstV fY v) : v = .tuple #[jobV ⟨1, 0, 5⟩, .int .i64 4, .bool true] := by
  rcases hv with ⟨h1, _⟩ | ⟨i, y, x, q, ht, hq, _, rfl⟩
  · have := h1 ⟨1, 1, [⟨0, 0, 3⟩]⟩ (by simp [fY])
    simp at this
  · have h1 := ht.top 1 ⟨4, 1, [⟨1, 0, 5⟩]⟩ rfl (by simp)
    have ha := ht.at_
    match i, ha with
    | 0, ha =>
      have e : y = ⟨1, 1, [⟨0, 0, 3⟩]⟩ := by simpa [fY] using ha.symm
      subst e
      simp at h1
    | 1, ha =>
      have e : y = ⟨4, 1, [⟨1, 0, 5⟩]⟩ := by simpa [fY] using ha.symm
      subst e
      obtain ⟨rfl, rfl⟩ := List.cons.inj hq
      rfl
    | i + 2, ha => simp [fY] at ha
theorem relF {i : Nat} {y : PQ} {ys zs : List PQ} {t : Int} {j : PJob} (hs : Sep h0 h (aReady b ys :: R)) (hi : ys[i]? = some y) (he : y.q.length ≠ 4) (hj : j = ⟨(i : Int), y.nx, t⟩) (hz : ys.set i (relY y i t) = zs) {n : Int} (hn : n = (i : Int)) : N_ready_Ready_Release (some ⟨b, 0, none⟩) n t h (fun v h' => v = .tuple #[jobV j, .int .i64 0] ∧ Sep h0 h' (aReady b zs :: R)) := by
  subst hj hz hn
  refine (Release_s hs hi t).mono ?_
  rintro v h ⟨rfl, hs⟩
  rw [if_neg he]
  exact ⟨rfl, hs⟩
set_option maxRecDepth 100000 in
theorem fixed16_s {g : Hp} : N_signalboxlaw16_fixed g (fun v h' => v = .bool true ∧ Under g.size g h') := by
  apply S_signalboxlaw16_fixed
  unfold B_signalboxlaw16_fixed
  refine Sep.new (Sep.init g) fun q h hs => ?_
  refine Sep.new hs fun t h hs => ?_
  simp only [List.toList_toArray] at hs
  have hs : Sep g h (aBlk t (([(fT0, (⟨some ⟨q, 0, none⟩, 1, 1⟩ : Sl)), (fT1, (⟨some ⟨q, 0, none⟩, 1, 1⟩ : Sl))] : List (PTask × Sl)).flatMap encT) :: aBlk q (([⟨1, 2, 0⟩] : List POp).flatMap encO) :: []) := hs
  ((refine Sep.new hs fun nb h hs => ?_; try simp only [List.toList_toArray] at hs); (refine Sep.st hs 0 rfl rfl rfl fun h hs => ?_; simp only [List.set_cons_zero, List.set_cons_succ] at hs); (refine Sep.st hs 0 rfl rfl rfl fun h hs => ?_; simp only [List.set_cons_zero, List.set_cons_succ] at hs); (refine Sep.st hs 0 rfl rfl rfl fun h hs => ?_; simp only [List.set_cons_zero, List.set_cons_succ] at hs); (refine Sep.st hs 0 rfl rfl rfl fun h hs => ?_; simp only [List.set_cons_zero, List.set_cons_succ] at hs); (refine Sep.st hs 0 rfl rfl rfl fun h hs => ?_; simp only [List.set_cons_zero, List.set_cons_succ] at hs); (refine Sep.st hs 0 rfl rfl rfl fun h hs => ?_; simp only [List.set_cons_zero, List.set_cons_succ] at hs); (refine Sep.st hs 0 rfl rfl rfl fun h hs => ?_; simp only [List.set_cons_zero, List.set_cons_succ] at hs); (refine Sep.st hs 0 rfl rfl rfl fun h hs => ?_; simp only [List.set_cons_zero, List.set_cons_succ] at hs); (refine Sep.st hs 0 rfl rfl rfl fun h hs => ?_; simp only [List.set_cons_zero, List.set_cons_succ] at hs); (refine Sep.st hs 0 rfl rfl rfl fun h hs => ?_; simp only [List.set_cons_zero, List.set_cons_succ] at hs); refine Sep.ldI hs 0 rfl rfl ?_; refine Sep.ldI hs 0 rfl rfl ?_; refine Sep.ldI hs 0 rfl rfl ?_; refine Sep.ldI hs 0 rfl rfl ?_; refine Sep.ldL' hs 0 rfl rfl ?_; refine Sep.ldI hs 0 rfl rfl ?_; refine Sep.ldL' hs 0 rfl rfl ?_; refine Sep.ldL' hs 0 rfl rfl ?_; refine Sep.ldL' hs 0 rfl rfl ?_; refine Sep.ldL' hs 0 rfl rfl ?_; simp only [Bool.and_true, mBind_ap])
  have hc : CRd h fC zS zS zS ⟨some ⟨t, 0, none⟩, 2, 2⟩ zS [(fT0, (⟨some ⟨q, 0, none⟩, 1, 1⟩ : Sl)), (fT1, (⟨some ⟨q, 0, none⟩, 1, 1⟩ : Sl))] := by
    refine ⟨rdI0, rdI0, rdI0, rdI0, blkR hs (k := 1) rfl rfl (fun _ => rfl) (by omega), Nat.le_refl _, rfl, fun p hp => ?_⟩
    simp at hp
    rcases hp with rfl | rfl
    · exact ⟨blkR hs (k := 2) rfl rfl (fun _ => rfl) (by omega), Nat.le_refl _⟩
    · exact ⟨blkR hs (k := 2) rfl rfl (fun _ => rfl) (by omega), Nat.le_refl _⟩
  have hg := hs
  generalize h = h1 at hc hg
  clear hs
  have hs : Sep h1 h1 [] := Sep.init h1
  refine (New_ok hc fC_ok hs).mono ?_
  rintro v h ⟨b, R', rfl, hs⟩
  generalize R' ++ [] = R0 at hs
  have hs : Sep h1 h (aReady b [⟨1, 0, []⟩, ⟨4, 0, []⟩] :: R0) := hs
  (simp only [un2_tuple, unI_int, unP_pointer, mBind_ap])
  refine (relF (i := 0) (y := ⟨1, 0, []⟩) (zs := [⟨1, 1, [⟨0, 0, 3⟩]⟩, ⟨4, 0, []⟩]) (j := ⟨0, 0, 3⟩) hs rfl (by decide) rfl (by rfl) rfl).mono ?_
  rintro v h ⟨rfl, hs⟩
  (simp only [unT_tuple, unC_cons, unE_nil, unI_int, unA_agg]; (refine Sep.new hs fun nb_1 h hs => ?_; try simp only [List.toList_toArray] at hs); (refine Sep.st hs 0 rfl rfl rfl fun h hs => ?_; simp only [List.set_cons_zero, List.set_cons_succ] at hs); (refine Sep.st hs 0 rfl rfl rfl fun h hs => ?_; simp only [List.set_cons_zero, List.set_cons_succ] at hs); (refine Sep.st hs 0 rfl rfl rfl fun h hs => ?_; simp only [List.set_cons_zero, List.set_cons_succ] at hs); simp only [mBind_ap])
  have hs := hs.swap
  refine (relF (i := 1) (y := ⟨4, 0, []⟩) (zs := fY) (j := ⟨1, 0, 5⟩) hs rfl (by decide) rfl (by rfl) rfl).mono ?_
  rintro v h ⟨rfl, hs⟩
  (simp only [unT_tuple, unC_cons, unE_nil, unI_int, unA_agg]; (refine Sep.new hs fun nb_2 h hs => ?_; try simp only [List.toList_toArray] at hs); (refine Sep.st hs 0 rfl rfl rfl fun h hs => ?_; simp only [List.set_cons_zero, List.set_cons_succ] at hs); (refine Sep.st hs 0 rfl rfl rfl fun h hs => ?_; simp only [List.set_cons_zero, List.set_cons_succ] at hs); (refine Sep.st hs 0 rfl rfl rfl fun h hs => ?_; simp only [List.set_cons_zero, List.set_cons_succ] at hs); simp only [add_mk, Nat.zero_add, mBind_ap])
  have hs := hs.swap
  refine (First_s hs).mono ?_
  rintro v h ⟨hv, hs⟩
  rw [fY_first hv]
  (simp only [unT_tuple, unC_cons, unE_nil, unB_bool, Bool.and_true, unI_int, unA_agg]; (refine Sep.new hs fun nb_3 h hs => ?_; try simp only [List.toList_toArray] at hs); (refine Sep.st hs 0 rfl rfl rfl fun h hs => ?_; simp only [List.set_cons_zero, List.set_cons_succ] at hs); (refine Sep.st hs 0 rfl rfl rfl fun h hs => ?_; simp only [List.set_cons_zero, List.set_cons_succ] at hs); (refine Sep.st hs 0 rfl rfl rfl fun h hs => ?_; simp only [List.set_cons_zero, List.set_cons_succ] at hs); simp only [add_mk, Nat.zero_add, mBind_ap])
  have hs := hs.swap
  refine (Release_no hs (i := 2) (.inr (by decide)) 5).mono ?_
  rintro v h ⟨rfl, hs⟩
  (simp only [unT_tuple, unC_cons, unE_nil, unI_int, unA_agg]; (refine Sep.new hs fun nb_4 h hs => ?_; try simp only [List.toList_toArray] at hs); (refine Sep.st hs 0 rfl rfl rfl fun h hs => ?_; simp only [List.set_cons_zero, List.set_cons_succ] at hs); (refine Sep.st hs 0 rfl rfl rfl fun h hs => ?_; simp only [List.set_cons_zero, List.set_cons_succ] at hs); (refine Sep.st hs 0 rfl rfl rfl fun h hs => ?_; simp only [List.set_cons_zero, List.set_cons_succ] at hs); simp only [mBind_ap])
  refine (New_bad (C := zC) zC_rd (by decide +kernel) (Sep.init h)).mono ?_
  rintro v h2 ⟨rfl, hs2⟩
  have hs := hs.more hs2.under
  rw [zC_bad]
  (simp only [un2_tuple, unI_int, unP_pointer, mBind_ap])
  refine mIf_pos rfl ?_
  (refine Sep.ldI hs 3 rfl rfl ?_; refine Sep.ldI hs 3 rfl rfl ?_; refine Sep.ldI hs 3 rfl rfl ?_; rw [mRet_ap])
  refine mIf_pos rfl ?_
  (refine Sep.ldI hs 2 rfl rfl ?_; refine Sep.ldI hs 2 rfl rfl ?_; refine Sep.ldI hs 2 rfl rfl ?_; refine Sep.ldI hs 3 rfl rfl ?_; refine Sep.ldI hs 3 rfl rfl ?_; refine Sep.ldI hs 3 rfl rfl ?_; rw [mRet_ap])
  refine mIf_pos rfl ?_
  (simp only [mBind_ap])
  refine (Len_s (ys := fY) hs.swap (by decide)).mono ?_
  rintro v h' ⟨rfl, rfl⟩
  (simp only [unI_int]; rw [mRet_ap])
  exact ⟨rfl, (hg.more hs.under).under⟩
theorem ReadyPlays_c (hc : CRd h0 C sm sc se st sl ts) (hb : (st.n : Int) ≤ 9223372036854775807) (hr : RdE h0.size h0 RAct.enc 3 ls acts) : N_signalboxlaw16_ReadyPlays C.sets C.ways C.hit C.miss sm C.groups sc se st sl ls h0 (RFin h0) := by
  have hrn := hr.n
  apply S_signalboxlaw16_ReadyPlays
  unfold B_signalboxlaw16_ReadyPlays
  refine Sep.new (Sep.init h0) fun x2 h hs => ?_
  simp only [List.toList_toArray] at hs
  have hs : Sep h0 h [aBlk x2 (cfgC C sm sc se st sl)] := hs
  rw [mBind_ap]
  refine fixed16_s.mono ?_
  rintro v h' ⟨rfl, hu⟩
  have hs := hs.more hu
  simp only [unB_bool]
  refine mIf_neg rfl ?_
  (refine Sep.ldI hs 0 rfl rfl ?_; refine Sep.ldI hs 0 rfl rfl ?_; refine Sep.ldI hs 0 rfl rfl ?_; refine Sep.ldI hs 0 rfl rfl ?_; refine Sep.ldL hs 0 rfl rfl ?_; refine Sep.ldI hs 0 rfl rfl ?_; refine Sep.ldL hs 0 rfl rfl ?_; refine Sep.ldL hs 0 rfl rfl ?_; refine Sep.ldL hs 0 rfl rfl ?_; refine Sep.ldL hs 0 rfl rfl ?_; simp only [add_mk, Nat.zero_add, mBind_ap])
  refine (Few_s hc hb hs).mono ?_
  rintro v h ⟨rfl, hs⟩
  simp only [unB_bool]
  rw [mBind_ap]
  refine mIf_intro (fun hg => ?_) (fun hg => ?_)
  · rw [mRet_ap]
    exact mIf_pos rfl ⟨rfl, hs.under⟩
  have hal : acts.length ≤ 150 := by simp at hg; omega
  (refine Sep.ldI hs 0 rfl rfl ?_; rw [mRet_ap])
  refine mIf_intro (fun hg2 => ⟨rfl, hs.under⟩) (fun hg2 => ?_)
  (refine Sep.ldI hs 0 rfl rfl ?_; refine Sep.ldI hs 0 rfl rfl ?_; refine Sep.ldI hs 0 rfl rfl ?_; refine Sep.ldI hs 0 rfl rfl ?_; refine Sep.ldL hs 0 rfl rfl ?_; refine Sep.ldI hs 0 rfl rfl ?_; refine Sep.ldL hs 0 rfl rfl ?_; refine Sep.ldL hs 0 rfl rfl ?_; refine Sep.ldL hs 0 rfl rfl ?_; refine Sep.ldL hs 0 rfl rfl ?_; simp only [mBind_ap])
  by_cases hk : checkN C = 0
  · refine (New_ok hc hk hs).mono ?_
    rintro v h ⟨b, R', rfl, hs⟩
    have hs : Sep h0 h (aBlk x2 (cfgC C sm sc se st sl) :: aReady b (C.tasks.map q0) :: R') := hs.perm (by
      have : (aReady b (C.tasks.map q0) :: (R' ++ [aBlk x2 (cfgC C sm sc se st sl)])) = (aReady b (C.tasks.map q0) :: R') ++ [aBlk x2 (cfgC C sm sc se st sl)] := rfl
      rw [this]
      exact List.perm_append_comm)
    (simp only [un2_tuple, unI_int, unP_pointer, Option.isNone_some, Bool.and_false, Bool.false_and, mIf_false]; refine Sep.ldI hs 0 rfl rfl ?_; refine Sep.ldI hs 0 rfl rfl ?_; refine Sep.ldI hs 0 rfl rfl ?_; refine Sep.ldI hs 0 rfl rfl ?_; refine Sep.ldL hs 0 rfl rfl ?_; refine Sep.ldI hs 0 rfl rfl ?_; refine Sep.ldL hs 0 rfl rfl ?_; refine Sep.ldL hs 0 rfl rfl ?_; refine Sep.ldL hs 0 rfl rfl ?_; refine Sep.ldL hs 0 rfl rfl ?_; simp only [mBind_ap])
    refine (rConf_s hc hs).mono ?_
    rintro v h ⟨rfl, hs⟩
    rw [hk]
    simp only [unI_int]
    refine mIf_neg rfl ?_
    have hpk := prOk hk
    have hlen := hc.len.2.2.2.2
    have hfew := hpk.few
    (refine Sep.ldI hs 0 rfl rfl ?_; refine Sep.ldI hs 0 rfl rfl ?_; refine Sep.ldI hs 0 rfl rfl ?_; refine Sep.ldI hs 0 rfl rfl ?_; refine Sep.ldL hs 0 rfl rfl ?_; refine Sep.ldI hs 0 rfl rfl ?_; refine Sep.ldL hs 0 rfl rfl ?_; refine Sep.ldL hs 0 rfl rfl ?_; refine Sep.ldL hs 0 rfl rfl ?_; refine Sep.ldL hs 0 rfl rfl ?_; simp only [mBind_ap])
    refine (Order_s hc (by omega) hs).mono ?_
    rintro v h ⟨o, l, rfl, ho, hs⟩
    (simp only [unL_slice]; refine Sep.ldL hs 1 rfl rfl ?_)
    refine hs.make encS 1 zS rfl (by omega) (by omega) (by omega) fun rows h hn1 hs => ?_
    rw [Int.toNat_natCast] at hs
    have hs := hs.gNew encJ 3
    (refine Sep.ldL hs 2 rfl rfl ?_)
    refine hs.make encI 1 0 rfl (by omega) (by omega) (by omega) fun nx h hn2 hs => ?_
    rw [Int.toNat_natCast] at hs
    have e1 : (C.tasks.map q0).map PQ.q = List.replicate st.n [] := List.eq_replicate_iff.2 ⟨by rw [List.length_map, List.length_map]; omega, fun z hz => by
      obtain ⟨y, hy, rfl⟩ := List.mem_map.1 hz
      obtain ⟨t, _, rfl⟩ := List.mem_map.1 hy
      rfl⟩
    have e2 : (C.tasks.map q0).map PQ.nx = List.replicate st.n 0 := List.eq_replicate_iff.2 ⟨by rw [List.length_map, List.length_map]; omega, fun z hz => by
      obtain ⟨y, hy, rfl⟩ := List.mem_map.1 hz
      obtain ⟨t, _, rfl⟩ := List.mem_map.1 hy
      rfl⟩
    have e3 : sumQ (C.tasks.map q0) = 0 := by
      unfold sumQ
      rw [List.map_map, List.sum_eq_zero_iff_forall_eq_nat]
      intro z hz
      obtain ⟨t, _, rfl⟩ := List.mem_map.1 hz
      rfl
    rw [← e1, ← e2] at hs
    have hI : LInv C (C.tasks.map q0) := by
      refine ⟨List.length_map _, fun i y hi => ?_, fun y hy => ?_⟩
      · rw [List.getElem?_map] at hi
        obtain ⟨t, h1, rfl⟩ := Option.map_eq_some_iff.1 hi
        unfold prA
        rw [h1]; rfl
      · obtain ⟨t, _, rfl⟩ := List.mem_map.1 hy
        exact Nat.zero_le _
    have h16 := k16 hc hpk ho hr hal acts.length 0 _ _ h (by omega) hI (hs.reT 5 [1, 0, 4, 2, 3] rfl (by simp))
    rw [e3] at h16
    exact h16
  · refine (New_bad hc hk hs).mono ?_
    rintro v h ⟨rfl, hs⟩
    (simp only [un2_tuple, unI_int, unP_pointer, Option.isNone_none, Bool.and_true]; refine Sep.ldI hs 0 rfl rfl ?_; refine Sep.ldI hs 0 rfl rfl ?_; refine Sep.ldI hs 0 rfl rfl ?_; refine Sep.ldI hs 0 rfl rfl ?_; refine Sep.ldL hs 0 rfl rfl ?_; refine Sep.ldI hs 0 rfl rfl ?_; refine Sep.ldL hs 0 rfl rfl ?_; refine Sep.ldL hs 0 rfl rfl ?_; refine Sep.ldL hs 0 rfl rfl ?_; refine Sep.ldL hs 0 rfl rfl ?_; simp only [mBind_ap])
    refine (rConf_s hc hs).mono ?_
    rintro v h ⟨rfl, hs⟩
    simp only [unI_int]
    refine mIf_pos (by simpa using hk) ?_
    (simp only [mBind_ap])
    refine (Take_nil hs).mono ?_
    rintro v h ⟨rfl, hs⟩
    (simp only [unT_tuple, unC_cons, unE_nil, unB_bool, Bool.not_false, Bool.and_true, unA_agg, unI_int]; (refine Sep.new hs fun nb h hs => ?_; try simp only [List.toList_toArray] at hs); (refine Sep.st hs 0 rfl rfl rfl fun h hs => ?_; simp only [List.set_cons_zero, List.set_cons_succ] at hs); (refine Sep.st hs 0 rfl rfl rfl fun h hs => ?_; simp only [List.set_cons_zero, List.set_cons_succ] at hs); (refine Sep.st hs 0 rfl rfl rfl fun h hs => ?_; simp only [List.set_cons_zero, List.set_cons_succ] at hs); simp only [mBind_ap])
    refine (Release_nil hs 0 0).mono ?_
    rintro v h ⟨rfl, hs⟩
    (simp only [unT_tuple, unC_cons, unE_nil, unI_int, unA_agg]; (refine Sep.new hs fun nb_1 h hs => ?_; try simp only [List.toList_toArray] at hs); (refine Sep.st hs 0 rfl rfl rfl fun h hs => ?_; simp only [List.set_cons_zero, List.set_cons_succ] at hs); (refine Sep.st hs 0 rfl rfl rfl fun h hs => ?_; simp only [List.set_cons_zero, List.set_cons_succ] at hs); (refine Sep.st hs 0 rfl rfl rfl fun h hs => ?_; simp only [List.set_cons_zero, List.set_cons_succ] at hs); simp only [mBind_ap])
    refine mIf_pos (by simp) ?_
    rw [mBind_ap]
    refine Len_nil.mono ?_
    rintro v h' ⟨rfl, rfl⟩
    (simp only [unI_int, mBind_ap])
    refine (Waiting_nil 0).mono ?_
    rintro v h' ⟨rfl, rfl⟩
    (simp only [unL_slice]; rw [mRet_ap])
    exact ⟨rfl, hs.under⟩
theorem ReadyPlays_ok {y : CConf} (o : y.ok h0) (hr : RdE h0.size h0 RAct.enc 3 ls acts) (ha : ∀ x ∈ acts, x.ok h0) : N_signalboxlaw16_ReadyPlays y.machine.sets y.machine.ways y.machine.hit y.machine.miss y.mailboxes y.groups y.counts y.ceilings y.tasks y.lines ls h0 (RFin h0) := by
  clear ha
  obtain ⟨M, cs, ce, T, L, ts, hc, hb⟩ := conf_rd o
  have := ReadyPlays_c hc hb hr
  exact this
end
end Go.Proofs.Ytimpaammdmeocaa
