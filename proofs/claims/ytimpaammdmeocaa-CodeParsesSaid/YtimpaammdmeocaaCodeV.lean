/- Configurations as bytes: the fixed calls. Conditions: none. -/
import Derived.Test.YtimpaammdmeocaaCodeU
import Derived.Test.YtimpaammdmeocaaSameL
import Derived.Test.YtimpaammdmeocaaCfgF
import Derived.Test.YtimpaammdmeocaaSbW
namespace Go.Proofs.Ytimpaammdmeocaa
open Go Go.Sb
set_option linter.unusedSimpArgs false
set_option linter.unusedVariables false
set_option linter.unusedVariables false
section
variable {h0 h : Hp} {R L : List As}
def oneT : PTask := ⟨1, 1, 300, 10, 0, 0, [⟨1, 5, 0⟩]⟩
def oneC : PCfg := ⟨1, 1, 1, 5, [], 0, [], [], [oneT], []⟩
theorem oneC_ok : checkN oneC = 0 := by decide +kernel
theorem one_len : fewLens oneC := by
  refine ⟨by decide, by decide, by decide, by decide, by decide, fun t ht => ?_⟩
  simp [oneC] at ht
  subst ht
  decide
theorem blkE {X : Type} {enc : X → List Value} {sz k b n : Nat} {xs : List X} (hs : Sep h0 h L) (hk : L[k]? = some (aBlk b (xs.flatMap enc))) (hn : n = xs.length) (hl : ∀ x, (enc x).length = sz) (hsz : 0 < sz) : RdE h.size h enc sz ⟨some ⟨b, 0, none⟩, n, n⟩ xs := by
  have hlt := (List.getElem?_eq_some_iff.1 hk).1
  have hs := Blk.row (enc := enc) (xs := xs) (sz := sz) (n := n) hs k hk rfl hn
  exact hs.rowE k (List.getElem?_set_self (by simpa using hlt)) hl hsz
theorem one_s (hs : Sep h0 h R) : N_signalboxlaw46_one h (fun v h' => ∃ st ts, v = .agg (cfgC oneC nilS nilS nilS st nilS).toArray ∧ CRd h' oneC nilS nilS nilS st nilS ts ∧ Sep h0 h' R) := by
  apply S_signalboxlaw46_one
  unfold B_signalboxlaw46_one
  refine Sep.new hs fun x h hs => ?_
  refine Sep.new hs fun q h hs => ?_
  refine Sep.new hs fun t h hs => ?_
  simp only [List.toList_toArray] at hs
  have hs : Sep h0 h (aBlk t (([(oneT, (⟨some ⟨q, 0, none⟩, 1, 1⟩ : Sl))] : List (PTask × Sl)).flatMap encT) :: aBlk q (([⟨1, 5, 0⟩] : List POp).flatMap encO) :: aBlk x (cfgC c0Cfg nilS nilS nilS nilS nilS) :: R) := hs
  ((refine Sep.st hs 2 rfl rfl rfl fun h hs => ?_; simp only [List.set_cons_zero, List.set_cons_succ] at hs); (refine Sep.st hs 2 rfl rfl rfl fun h hs => ?_; simp only [List.set_cons_zero, List.set_cons_succ] at hs); (refine Sep.st hs 2 rfl rfl rfl fun h hs => ?_; simp only [List.set_cons_zero, List.set_cons_succ] at hs); (refine Sep.st hs 2 rfl rfl rfl fun h hs => ?_; simp only [List.set_cons_zero, List.set_cons_succ] at hs); (refine Sep.st hs 2 rfl rfl rfl fun h hs => ?_; simp only [List.set_cons_zero, List.set_cons_succ] at hs); (refine Sep.st hs 2 rfl rfl rfl fun h hs => ?_; simp only [List.set_cons_zero, List.set_cons_succ] at hs); (refine Sep.st hs 2 rfl rfl rfl fun h hs => ?_; simp only [List.set_cons_zero, List.set_cons_succ] at hs); (refine Sep.st hs 2 rfl rfl rfl fun h hs => ?_; simp only [List.set_cons_zero, List.set_cons_succ] at hs); (refine Sep.st hs 2 rfl rfl rfl fun h hs => ?_; simp only [List.set_cons_zero, List.set_cons_succ] at hs); (refine Sep.st hs 2 rfl rfl rfl fun h hs => ?_; simp only [List.set_cons_zero, List.set_cons_succ] at hs); refine Sep.ldI hs 2 rfl rfl ?_; refine Sep.ldI hs 2 rfl rfl ?_; refine Sep.ldI hs 2 rfl rfl ?_; refine Sep.ldI hs 2 rfl rfl ?_; refine Sep.ldL' hs 2 rfl rfl ?_; refine Sep.ldI hs 2 rfl rfl ?_; refine Sep.ldL' hs 2 rfl rfl ?_; refine Sep.ldL' hs 2 rfl rfl ?_; refine Sep.ldL' hs 2 rfl rfl ?_; refine Sep.ldL' hs 2 rfl rfl ?_)
  refine ⟨⟨some ⟨t, 0, none⟩, 1, 1⟩, [(oneT, ⟨some ⟨q, 0, none⟩, 1, 1⟩)], rfl, ?_, hs.drop.drop.drop⟩
  have hs : Sep h0 h (aBlk t (([(oneT, (⟨some ⟨q, 0, none⟩, 1, 1⟩ : Sl))] : List (PTask × Sl)).flatMap encT) :: aBlk q (([⟨1, 5, 0⟩] : List POp).flatMap encO) :: aBlk x _ :: R) := hs
  refine ⟨rdI_nil, rdI_nil, rdI_nil, rdI_nil, blkE hs (k := 0) rfl rfl (fun _ => rfl) (by omega), Nat.le_refl _, rfl, fun p hp => ?_⟩
  simp at hp
  subst hp
  exact ⟨blkE hs (k := 1) rfl rfl (fun _ => rfl) (by omega), Nat.le_refl _⟩
set_option maxRecDepth 100000 in
theorem fixed46_s : N_signalboxlaw46_fixed h (fun v h' => v = .bool true ∧ Under h.size h h') := by
  apply S_signalboxlaw46_fixed
  unfold B_signalboxlaw46_fixed
  rw [mBind_ap]
  refine (one_s (Sep.init h)).mono ?_
  rintro v h1 ⟨st, ts, rfl, hc1, hs1⟩
  simp only [unA_agg, unC_cons, unI_int, unL_slice, unE_nil, List.toList_toArray]
  rw [mBind_ap]
  refine (Bytes_s hc1 (Sep.init h1)).mono ?_
  rintro v h2 ⟨o, rfl, hs2⟩
  rw [oneC_ok] at hs2 ⊢
  simp only [if_true] at hs2
  simp only [un2_tuple, unL_slice, unI_int]
  rw [mBind_ap]
  obtain ⟨hro, hoc⟩ := rowB hs2 (k := 0) rfl (encCfg_B oneC)
  have hel : (encCfg oneC).length ≤ 1000000 := by decide +kernel
  refine (Parse_s hro hoc hel (Sep.init h2)).mono ?_
  rintro v h3 ⟨sm3, sc3, se3, st3, sl3, ts3, rfl, ho3, hs3⟩
  rw [parse_enc oneC_ok] at ho3 hs3 ⊢
  have hc3 := crd_own ho3 hs3
  have hu3 : Under h.size h h3 := ((hs1.more hs2.under).more hs3.under).under
  have hs : Sep h3 h3 [] := Sep.init h3
  simp only [unT_tuple, unA_agg, unC_cons, unI_int, unL_slice, unE_nil, List.toList_toArray]
  ((refine Sep.new hs fun nb h hs => ?_; try simp only [List.toList_toArray] at hs); (refine Sep.st hs 0 rfl rfl rfl fun h hs => ?_; simp only [List.set_cons_zero, List.set_cons_succ] at hs); (refine Sep.st hs 0 rfl rfl rfl fun h hs => ?_; simp only [List.set_cons_zero, List.set_cons_succ] at hs); (refine Sep.st hs 0 rfl rfl rfl fun h hs => ?_; simp only [List.set_cons_zero, List.set_cons_succ] at hs); (refine Sep.st hs 0 rfl rfl rfl fun h hs => ?_; simp only [List.set_cons_zero, List.set_cons_succ] at hs); (refine Sep.st hs 0 rfl rfl rfl fun h hs => ?_; simp only [List.set_cons_zero, List.set_cons_succ] at hs); (refine Sep.st hs 0 rfl rfl rfl fun h hs => ?_; simp only [List.set_cons_zero, List.set_cons_succ] at hs); (refine Sep.st hs 0 rfl rfl rfl fun h hs => ?_; simp only [List.set_cons_zero, List.set_cons_succ] at hs); (refine Sep.st hs 0 rfl rfl rfl fun h hs => ?_; simp only [List.set_cons_zero, List.set_cons_succ] at hs); (refine Sep.st hs 0 rfl rfl rfl fun h hs => ?_; simp only [List.set_cons_zero, List.set_cons_succ] at hs); (refine Sep.st hs 0 rfl rfl rfl fun h hs => ?_; simp only [List.set_cons_zero, List.set_cons_succ] at hs); (refine Sep.new hs fun nb_1 h hs => ?_; try simp only [List.toList_toArray] at hs); simp only [add_mk, Nat.zero_add, mBind_ap])
  have hread1 : readO [172, 2, 9] = some (300, 2) := by decide +kernel
  have hread2 : readO [128, 0] = none := by decide +kernel
  refine (Read_s (xs := [172, 2, 9]) (hs.blkI 0 rfl (by intro z hz; rw [show IntKind.u8.min = 0 by decide, show IntKind.u8.max = 255 by decide]; simp at hz; omega) rfl) (Nat.le_refl _)).mono ?_
  rintro v h ⟨n1, k1, ok1, rfl, hok1, rfl⟩
  rw [hread1] at hok1
  obtain ⟨rfl, rfl, rfl⟩ := hok1
  simp only [un3_tuple, unI_int, unB_bool]
  ((refine Sep.new hs fun nb_2 h hs => ?_; try simp only [List.toList_toArray] at hs); simp only [mIf_true, mBind_ap])
  refine (Read_s (xs := [128, 0]) (hs.blkI 0 rfl (by intro z hz; rw [show IntKind.u8.min = 0 by decide, show IntKind.u8.max = 255 by decide]; simp at hz; omega) rfl) (Nat.le_refl _)).mono ?_
  rintro v h ⟨n2, k2, ok2, rfl, hok2, rfl⟩
  rw [hread2] at hok2
  have hok2 : ok2 = false := hok2
  subst hok2
  simp only [un3_tuple, unI_int, unB_bool]
  rw [mBind_ap]
  refine (Parse_s (raw := []) rdI_nil (Nat.le_refl _) (by simp) hs).mono ?_
  rintro v h ⟨sm4, sc4, se4, st4, sl4, ts4, rfl, hc4, hs⟩
  have hs := cfg_drop hs
  have hp : parseC [] = (c0Cfg, 2) := by decide +kernel
  rw [hp]
  simp only [unT_tuple, unA_agg, unC_cons, unI_int, unL_slice, unE_nil, List.toList_toArray]
  ((refine Sep.new hs fun nb_3 h hs => ?_; try simp only [List.toList_toArray] at hs); (refine Sep.st hs 0 rfl rfl rfl fun h hs => ?_; simp only [List.set_cons_zero, List.set_cons_succ] at hs); (refine Sep.st hs 0 rfl rfl rfl fun h hs => ?_; simp only [List.set_cons_zero, List.set_cons_succ] at hs); (refine Sep.st hs 0 rfl rfl rfl fun h hs => ?_; simp only [List.set_cons_zero, List.set_cons_succ] at hs); (refine Sep.st hs 0 rfl rfl rfl fun h hs => ?_; simp only [List.set_cons_zero, List.set_cons_succ] at hs); (refine Sep.st hs 0 rfl rfl rfl fun h hs => ?_; simp only [List.set_cons_zero, List.set_cons_succ] at hs); (refine Sep.st hs 0 rfl rfl rfl fun h hs => ?_; simp only [List.set_cons_zero, List.set_cons_succ] at hs); (refine Sep.st hs 0 rfl rfl rfl fun h hs => ?_; simp only [List.set_cons_zero, List.set_cons_succ] at hs); (refine Sep.st hs 0 rfl rfl rfl fun h hs => ?_; simp only [List.set_cons_zero, List.set_cons_succ] at hs); (refine Sep.st hs 0 rfl rfl rfl fun h hs => ?_; simp only [List.set_cons_zero, List.set_cons_succ] at hs); (refine Sep.st hs 0 rfl rfl rfl fun h hs => ?_; simp only [List.set_cons_zero, List.set_cons_succ] at hs); simp only [Bool.not_false, mIf_true])
  have same : ∀ h L (st : Sl) ts, Sep h3 h L → CRd h oneC nilS nilS nilS st nilS ts → N_signalboxref07_Same oneC.sets oneC.ways oneC.hit oneC.miss nilS oneC.groups nilS nilS st nilS oneC.sets oneC.ways oneC.hit oneC.miss sm3 oneC.groups sc3 se3 st3 sl3 h (fun v h' => v = .bool true ∧ Sep h3 h' L) := by
    intro h L st ts hs hc
    refine (Same_s hc (hc3.now hs) one_len (Sep.init h)).mono ?_
    rintro v h' ⟨rfl, hs'⟩
    exact ⟨rfl, hs.more hs'.under⟩
  have num : ∀ h L, Sep h3 h L → N_code_Number ⟨none, 0, 0⟩ 300 h (fun v h' => ∃ o : Sl, v = .slice o.p o.n o.c ∧ RdI h'.size h' .u8 o [172, 2] ∧ Sep h3 h' L) := by
    intro h L hs
    refine (Number_s 300 (by simp) (hs.nilRow encB 1)).mono ?_
    rintro v h' ⟨o, rfl, hs⟩
    have e : wrN [] 300 = [172, 2] := by decide +kernel
    rw [e] at hs
    exact ⟨o, rfl, (rowB hs (k := 0) rfl (by intro z hz; simp at hz; omega)).1, hs.drop⟩
  refine mIf_pos rfl ?_
  refine mAnd_intro ?_ ?_
  · refine mIf_pos rfl ?_
    rw [mBind_ap]
    refine (one_s hs).mono ?_
    rintro v h ⟨st5, ts5, rfl, hc5, hs⟩
    simp only [unA_agg, unC_cons, unI_int, unL_slice, unE_nil, List.toList_toArray]
    (refine Sep.ldI hs 3 rfl rfl ?_; refine Sep.ldI hs 3 rfl rfl ?_; refine Sep.ldI hs 3 rfl rfl ?_; refine Sep.ldI hs 3 rfl rfl ?_; refine Sep.ldL hs 3 rfl rfl ?_; refine Sep.ldI hs 3 rfl rfl ?_; refine Sep.ldL hs 3 rfl rfl ?_; refine Sep.ldL hs 3 rfl rfl ?_; refine Sep.ldL hs 3 rfl rfl ?_; refine Sep.ldL hs 3 rfl rfl ?_; simp only [mBind_ap])
    refine (same h _ st5 ts5 hs hc5).mono ?_
    rintro v h ⟨rfl, hs⟩
    simp only [unB_bool, mIf_true, mBind_ap]
    refine (num h _ hs).mono ?_
    rintro v h ⟨o, rfl, hro, hs⟩
    simp only [unL_slice]
    refine hro.str ?_
    rw [show strOf [172, 2] = ByteArray.mk #[172, 2] from rfl]
    refine mIf_pos (by simp) ?_
    refine mIf_pos rfl ?_
    refine mIf_pos rfl ?_
    exact ⟨rfl, hu3.trans ⟨hs.under.size, fun b hb => hs.under.at_ b (Nat.lt_of_lt_of_le hb hu3.size)⟩⟩
  · refine mIf_pos rfl ?_
    (refine Sep.ldI hs 3 rfl rfl ?_; refine Sep.ldI hs 3 rfl rfl ?_; refine Sep.ldI hs 3 rfl rfl ?_; refine Sep.ldI hs 3 rfl rfl ?_; refine Sep.ldL hs 3 rfl rfl ?_; refine Sep.ldI hs 3 rfl rfl ?_; refine Sep.ldL hs 3 rfl rfl ?_; refine Sep.ldL hs 3 rfl rfl ?_; refine Sep.ldL hs 3 rfl rfl ?_; refine Sep.ldL hs 3 rfl rfl ?_; simp only [mBind_ap])
    refine (one_s hs).mono ?_
    rintro v h ⟨st5, ts5, rfl, hc5, hs⟩
    simp only [unA_agg, unC_cons, unI_int, unL_slice, unE_nil, List.toList_toArray, mBind_ap]
    refine (same h _ st5 ts5 hs hc5).mono ?_
    rintro v h ⟨rfl, hs⟩
    simp only [unB_bool, mIf_true, mBind_ap]
    refine (num h _ hs).mono ?_
    rintro v h ⟨o, rfl, hro, hs⟩
    simp only [unL_slice]
    refine hro.str ?_
    rw [show strOf [172, 2] = ByteArray.mk #[172, 2] from rfl]
    refine mIf_pos (by simp) ?_
    refine mIf_pos rfl ?_
    refine mIf_pos rfl ?_
    exact ⟨rfl, hu3.trans ⟨hs.under.size, fun b hb => hs.under.at_ b (Nat.lt_of_lt_of_le hb hu3.size)⟩⟩
end
end Go.Proofs.Ytimpaammdmeocaa
