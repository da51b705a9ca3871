/- Cache: the laws CacheTwin and CacheAges. Conditions: none. -/
import Derived.Test.YtkoenpliddhhoaaCacheL
import Derived.Test.YtkoenpliddhhoaaSbW
namespace Go.Proofs.Ytkoenpliddhhoaa
open Go Go.Sb
set_option linter.unusedSimpArgs false
set_option linter.unusedVariables false

section
variable {h0 h : Hp} {R L : List As} {b w : Nat} {rows : List (List Int)}
def sof (rows : List (List Int)) (x : Int) : Nat := (x % rows.length).toNat
def rof (rows : List (List Int)) (x : Int) : List Int := rows.getD (sof rows x) []
def cst (w : Nat) (rows : List (List Int)) (x : Int) : List (List Int) := rows.set (sof rows x) (acc w (rof rows x) x)
theorem sof_lt (hc : COk w rows) {x : Int} : sof rows x < rows.length := by
  have := hc.n
  unfold sof
  have h1 := Int.emod_lt_of_pos x (show (0 : Int) < rows.length by omega)
  have h2 := Int.emod_nonneg x (show (rows.length : Int) ≠ 0 by omega)
  omega
theorem sof_cast (hc : COk w rows) {x : Int} : x % rows.length = (sof rows x : Nat) := by
  have := hc.n
  unfold sof
  have h2 := Int.emod_nonneg x (show (rows.length : Int) ≠ 0 by omega)
  omega
theorem rof_eq (hc : COk w rows) {x : Int} : rof rows x = rows[sof rows x]'(sof_lt hc) := by
  unfold rof
  rw [List.getD_eq_getElem?_getD, List.getElem?_eq_getElem (sof_lt hc)]
  rfl
theorem cst_ok (hc : COk w rows) (x : Int) : COk w (cst w rows x) := by
  refine ⟨by unfold cst; simpa using hc.n, hc.ways, fun row hr => ?_⟩
  unfold cst at hr
  rcases List.mem_or_eq_of_mem_set hr with h | h
  · exact hc.ok row h
  · subst h
    exact acc_ok (by rw [rof_eq hc]; exact hc.ok _ (List.getElem_mem _)) hc.ways.1 x
theorem cst_len (x : Int) : (cst w rows x).length = rows.length := by unfold cst; simp
theorem Acc_s (hs : Sep h0 h (aCache b w rows :: R)) (hc : COk w rows) {x : Int} (hx : 0 ≤ x ∧ x ≤ 255) :
    N_cache_Cache_Access (some ⟨b, 0, none⟩) x h (fun v h' => v = .tuple #[.bool (decide (x ∈ rof rows x)), .int .i64 0] ∧ Sep h0 h' (aCache b w (cst w rows x) :: R)) := by
  have := Access_s hs hc hx (sof_lt hc) (sof_cast hc)
  rw [← rof_eq hc] at this
  exact this
theorem Acc_bad (hs : Sep h0 h (aCache b w rows :: R)) {x : Int} (hx : x < 0) :
    N_cache_Cache_Access (some ⟨b, 0, none⟩) x h (fun v h' => v = .tuple #[.bool false, .int .i64 5] ∧ Sep h0 h' (aCache b w rows :: R)) := by
  apply S_cache_Cache_Access
  unfold B_cache_Cache_Access
  (simp only [Option.isNone_some, mNil_some, add_mk, Nat.zero_add, mIf_false, mBind_ap])
  refine (Of_bad _ _ hx).mono ?_
  rintro v h' ⟨rfl, rfl⟩
  rw [unI_int]
  exact mIf_pos rfl ⟨rfl, hs⟩
theorem Set_s (hs : Sep h0 h (aCache b w rows :: R)) (hc : COk w rows) {i : Nat} (hi : i < rows.length) : N_cache_Cache_Set (some ⟨b, 0, none⟩) i h (fun v h' => ∃ out : Sl, v = .slice out.p out.n out.c ∧ Sep h0 h' (aCache b w rows :: aRow encI 1 out rows[i] :: R)) := by
  obtain ⟨s, hs⟩ := aCache_iff.1 hs
  have hn := hs.swap.gLen
  apply S_cache_Cache_Set
  unfold B_cache_Cache_Set
  (simp only [Option.isNone_some, Bool.false_or, mNil_some, add_mk, Nat.zero_add, mBind_ap]; rw [decide_eq_false (by omega), mIf_false]; refine Sep.ldL hs 0 rfl rfl ?_; rw [mRet_ap]; rw [decide_eq_false (by omega), mIf_false]; refine Sep.ldL hs 0 rfl rfl ?_)
  obtain ⟨ss, hl, hs⟩ := hs.swap.gOpen i hi
  have hxn := hs.rowLen 0 rfl
  have hrn := (hc.ok _ (List.getElem_mem hi)).n
  have hw := hc.ways
  (refine Sep.idx hs 1 rfl (by first | omega | (simp only [List.length_set, List.length_map, List.length_replicate, List.length_append, List.length_cons, List.length_nil, List.length_reverse, List.length_range]; omega) | (simp; omega)) (by first | omega | (simp only [List.length_set, List.length_map, List.length_replicate, List.length_append, List.length_cons, List.length_nil, List.length_reverse, List.length_range]; omega) | (simp; omega)) fun aa haa => ?_; try simp only [Int.toNat_natCast] at haa)
  refine hs.rldL0 1 rfl (fun _ => rfl) haa (List.getElem?_eq_getElem (by omega)) rfl ?_
  refine vslc (by omega) (by omega) (by omega) (by omega) fun x hv1 hn1 hc1 => ?_
  have hs := hs.nilRow' encI 1 x (by simpa using hn1) (by simpa using hc1)
  refine hs.app_ 0 rows[i] rfl (fun _ => rfl) ?_ hxn ?_ rfl (by omega) (by simp; omega) fun s' h' hn' hs => ?_
  · have := hs.vcells 1 (m := rows[i].length) rfl (fun _ => rfl) (Vw.refl _ 1) (by omega) (by simp)
    rw [hxn]
    simpa using this
  · intro v hv
    obtain ⟨z, _, hz⟩ := List.mem_flatMap.1 hv
    simp only [List.mem_singleton] at hz
    subst hz; rfl
  simp only [List.set_cons_zero, List.nil_append] at hs
  have hs := Sep.gShut hl hi (Sep.reT 5 hs [1, 2, 3, 4, 0] rfl (by simp))
  rw [List.set_getElem_self] at hs
  exact ⟨s', rfl, aCache_iff.2 ⟨s, Sep.reT 3 hs [1, 0, 2] rfl (by simp)⟩⟩
theorem Twin_s (hs : Sep h0 h (aCache b w rows :: R)) (hc : COk w rows) : N_cache_Cache_Twin (some ⟨b, 0, none⟩) h (fun v h' => ∃ b', v = .pointer (some ⟨b', 0, none⟩) ∧ Sep h0 h' (aCache b' w rows :: aCache b w rows :: R)) := by
  obtain ⟨s, hs⟩ := aCache_iff.1 hs
  have hn := hs.swap.gLen
  have hcn := hc.n
  have loop : ∀ (b' : Nat) (d k : Nat) (h : Hp), k + d = rows.length → Sep h0 h (aCache b' w (rows.take k ++ List.replicate d []) :: aCache b w rows :: R) →
      K_cache_Cache_Twin_5 (some ⟨b, 0, none⟩) (some ⟨b', 0, none⟩) (rows.length : Int) (k : Int) h (fun v h' => ∃ b', v = .pointer (some ⟨b', 0, none⟩) ∧ Sep h0 h' (aCache b' w rows :: aCache b w rows :: R)) := by
    intro b' d
    induction d with
    | zero =>
      intro k h hk hs
      apply S_cache_Cache_Twin_5
      unfold B_cache_Cache_Twin_5
      (simp only [mNil_some, add_mk, Nat.zero_add]; rw [decide_eq_false (by omega), mIf_false])
      rw [List.take_of_length_le (by omega), List.replicate_zero, List.append_nil] at hs
      exact ⟨b', rfl, hs⟩
    | succ d ih =>
      intro k h hk hs
      have hk' : k < rows.length := by omega
      have hlen : (rows.take k ++ List.replicate (d + 1) []).length = rows.length := by simp; omega
      have fin : ∀ (h : Hp) (s' out : Sl), Sep h0 h (aBlk b' [.int .i64 w, .slice s'.p s'.n s'.c] :: aGrid encI 1 s' (rows.take k ++ List.replicate (d + 1) []) :: aRow encI 1 out rows[k] :: aCache b w rows :: R) →
          (mIdx s' (k : Int) 1 fun aa => mSt aa (.slice out.p out.n out.c) (K_cache_Cache_Twin_5 (some ⟨b, 0, none⟩) (some ⟨b', 0, none⟩) (rows.length : Int) (IntKind.i64.wrap ((k : Int) + 1)))) h (fun v h' => ∃ b', v = .pointer (some ⟨b', 0, none⟩) ∧ Sep h0 h' (aCache b' w rows :: aCache b w rows :: R)) := by
        intro h s' out hs
        have hn' := hs.swap.gLen
        obtain ⟨ss, hl, hs⟩ := hs.swap.gOpen k (by omega)
        refine hs.idx 1 rfl (by omega) (by omega) fun aa haa => ?_
        simp only [Int.toNat_natCast] at haa
        refine hs.rst0 1 out rfl (fun _ => rfl) haa (List.getElem?_eq_getElem (by omega)) (by omega) rfl rfl fun h hs => ?_
        simp only [List.set_cons_zero, List.set_cons_succ] at hs
        have hs := Sep.gClose (Sep.reT 6 hs [4, 1, 2, 3, 5, 0] rfl (by simp)) hl (by omega)
        have e : (rows.take k ++ List.replicate (d + 1) []).set k rows[k] = rows.take (k + 1) ++ List.replicate d [] := by
          rw [List.set_append_right _ _ (by simp; omega), List.replicate_succ, List.length_take, show k - min k rows.length = 0 by omega, List.set_cons_zero, List.take_succ_eq_append_getElem hk', List.append_assoc]
          rfl
        rw [e] at hs
        rw [wrap64 _ (by omega), show (k : Int) + 1 = ((k + 1 : Nat) : Int) by omega]
        exact ih (k + 1) h (by omega) (aCache_iff.2 ⟨s', (Sep.reT 4 hs [3, 1, 0, 2] rfl (by simp)).drop⟩)
      apply S_cache_Cache_Twin_5
      unfold B_cache_Cache_Twin_5
      (simp only [mNil_some, add_mk, Nat.zero_add]; rw [decide_eq_true (by omega), mIf_true])
      refine ⟨?_, ?_⟩
      · obtain ⟨s', hs⟩ := aCache_iff.1 hs
        (refine Sep.ldL hs 0 rfl rfl ?_; simp only [mBind_ap])
        refine (Set_s (Sep.reT 3 hs [2, 0, 1] rfl (by simp)) hc hk').mono ?_
        rintro v h ⟨out, rfl, hs⟩
        (simp only [unL_slice])
        exact fin h s' out (Sep.reT 4 hs [2, 3, 1, 0] rfl (by simp))
      · rw [mBind_ap]
        refine (Set_s hs.swap hc hk').mono ?_
        rintro v h ⟨out, rfl, hs⟩
        obtain ⟨s', hs⟩ := aCache_iff.1 (Sep.reT 3 hs [2, 1, 0] rfl (by simp))
        (simp only [unL_slice]; refine Sep.ldL hs 0 rfl rfl ?_)
        exact fin h s' out hs
  have go : ∀ (b' : Nat) (h : Hp), Sep h0 h (aCache b' w (List.replicate rows.length []) :: aCache b w rows :: R) → (mLdL ⟨b, 1, none⟩ fun x => K_cache_Cache_Twin_5 (some ⟨b, 0, none⟩) (some ⟨b', 0, none⟩) (x.n : Int) 0) h (fun v h' => ∃ b', v = .pointer (some ⟨b', 0, none⟩) ∧ Sep h0 h' (aCache b' w rows :: aCache b w rows :: R)) := by
    intro b' h hs
    obtain ⟨s, hs⟩ := aCache_iff.1 hs.swap
    have hn := hs.swap.gLen
    (refine Sep.ldL hs 0 rfl rfl ?_)
    rw [hn]
    exact loop b' rows.length 0 h (by omega) (aCache_iff.2 ⟨s, hs⟩).swap
  apply S_cache_Cache_Twin
  unfold B_cache_Cache_Twin
  (simp only [Option.isNone_some, mNil_some, add_mk, Nat.zero_add, mIf_false])
  refine ⟨?_, ?_⟩
  · (refine Sep.ldL hs 0 rfl rfl ?_; refine Sep.ldI hs 0 rfl rfl ?_; simp only [mBind_ap])
    rw [hn]
    refine (New_s (aCache_iff.2 ⟨s, hs⟩) hcn hc.ways).mono ?_
    rintro v h ⟨b', rfl, hs⟩
    simp only [unP_pointer]
    exact go b' h hs
  · (refine Sep.ldI hs 0 rfl rfl ?_; refine Sep.ldL hs 0 rfl rfl ?_; simp only [mBind_ap])
    rw [hn]
    refine (New_s (aCache_iff.2 ⟨s, hs⟩) hcn hc.ways).mono ?_
    rintro v h ⟨b', rfl, hs⟩
    simp only [unP_pointer]
    exact go b' h hs
theorem fixed08_s (hs : Sep h0 h R) : N_signalboxlaw08_fixed h (fun v h' => v = .bool true ∧ Sep h0 h' R) := by
  have c0 : COk 2 (List.replicate 2 []) := ⟨by simp, by omega, by intro row hr; simp at hr; subst hr; exact ⟨by simp, by simp⟩⟩
  have c1 := cst_ok c0 4
  have c2 := cst_ok c1 2
  have c3 := cst_ok c2 4
  apply S_signalboxlaw08_fixed
  unfold B_signalboxlaw08_fixed
  rw [mBind_ap]
  refine (New_s (n := 2) (w := 2) hs (by omega) (by omega)).mono ?_
  rintro v h ⟨b, rfl, hs⟩
  (simp only [unP_pointer, mBind_ap])
  refine (Acc_s hs c0 (by omega)).mono ?_
  rintro v h ⟨rfl, hs⟩
  (simp only [un2_tuple, unI_int, unB_bool, mBind_ap])
  refine (Acc_s hs c1 (by omega)).mono ?_
  rintro v h ⟨rfl, hs⟩
  (simp only [un2_tuple, unI_int, unB_bool, mBind_ap])
  refine (Acc_s hs c2 (by omega)).mono ?_
  rintro v h ⟨rfl, hs⟩
  (simp only [un2_tuple, unI_int, unB_bool, mBind_ap])
  refine (Acc_bad hs (by omega)).mono ?_
  rintro v h ⟨rfl, hs⟩
  (simp only [un2_tuple, unI_int, unB_bool, mBind_ap])
  refine (Set_s (i := 0) hs c3 (by decide)).mono ?_
  rintro v h ⟨out, rfl, hs⟩
  have hn := hs.rowLen 1 rfl
  (simp only [unL_slice, mBind_ap])
  refine mIf_pos (by rw [hn]; decide) ?_
  have e : (cst 2 (cst 2 (cst 2 (List.replicate 2 []) 4) 2) 4)[0]'(by decide) = [4, 2] := by decide
  rw [e] at hs
  ((refine Sep.idx hs 1 rfl (by first | omega | (simp only [List.length_set, List.length_map, List.length_replicate, List.length_append, List.length_cons, List.length_nil, List.length_reverse, List.length_range]; omega) | (simp; omega)) (by first | omega | (simp only [List.length_set, List.length_map, List.length_replicate, List.length_append, List.length_cons, List.length_nil, List.length_reverse, List.length_range]; omega) | (simp; omega)) fun aa haa => ?_; try simp only [Int.toNat_natCast] at haa); refine Sep.rldI0 hs 1 rfl (fun _ => rfl) haa (List.getElem?_eq_getElem (by first | omega | (simp only [List.length_set, List.length_map, List.length_replicate, List.length_append, List.length_cons, List.length_nil, List.length_reverse, List.length_range]; omega) | (simp; omega))) rfl ?_; rw [mRet_ap])
  refine mIf_pos rfl ?_
  (simp only [mBind_ap])
  refine (Age_s (i := 0) hs c3 (by omega) (by decide) (by decide)).mono ?_
  rintro v h ⟨rfl, hs⟩
  (simp only [unI_int]; rw [mRet_ap])
  refine mIf_pos (by decide) ?_
  (simp only [mBind_ap])
  refine (Of_s hs (by decide) (by omega)).mono ?_
  rintro v h' ⟨rfl, rfl⟩
  (simp only [unI_int]; rw [mRet_ap])
  refine mIf_pos (by decide) ?_
  (simp only [mBind_ap])
  refine (New_bad _ _ _ (by omega)).mono ?_
  rintro v h' ⟨rfl, rfl⟩
  exact ⟨rfl, hs.drop.drop⟩
end
abbrev CFin (h0 : Hp) : Value → Hp → Prop := fun v h' => v = .bool true ∧ Under h0.size h0 h'
section twin
variable {h0 : Hp} {b b' w : Nat} {ms : Sl} {zs : List Int}
/-- all of a row, used one by one -/
def runc (w : Nat) (rows : List (List Int)) (l : List Int) : List (List Int) := l.foldl (cst w) rows
theorem runc_ok {w : Nat} : ∀ {rows : List (List Int)} (l : List Int), COk w rows → COk w (runc w rows l)
  | _, [], hc => hc
  | _, x :: l, hc => runc_ok l (cst_ok hc x)
theorem runc_succ (w : Nat) (rows : List (List Int)) (zs : List Int) {k : Nat} (hk : k < zs.length) : runc w rows (zs.take (k + 1)) = cst w (runc w rows (zs.take k)) zs[k] := by
  unfold runc
  rw [List.take_succ_eq_append_getElem hk, List.foldl_append]
  rfl
def hitAt (w : Nat) (rows : List (List Int)) (zs : List Int) (k : Nat) : Bool := decide (zs.getD k 0 ∈ rof (runc w rows (zs.take k)) (zs.getD k 0))
theorem t20 {rows : List (List Int)} {hits : Sl} (hc : COk w rows) (hz : RdI h0.size h0 .u8 ms zs) (hlen : zs.length ≤ 100) : ∀ (d k : Nat) (h : Hp), k + d = zs.length →
    Sep h0 h [aCache b' w (runc w rows (zs.take k)), aRow encB 1 hits ((List.range zs.length).map (hitAt w rows zs))] →
    K_signalboxlaw08_CacheTwin_20 (some ⟨b', 0, none⟩) hits ms (ms.n : Int) (k : Int) h (CFin h0)
  | 0, k, h, hk, hs => by
    have hln := hz.n
    apply S_signalboxlaw08_CacheTwin_20
    unfold B_signalboxlaw08_CacheTwin_20
    (rw [decide_eq_false (by omega), mIf_false])
    exact ⟨rfl, hs.under⟩
  | d + 1, k, h, hk, hs => by
    have hln := hz.n
    have hzk := hz.wf zs[k] (List.getElem_mem (by omega))
    rw [show IntKind.u8.min = 0 by decide, show IntKind.u8.max = 255 by decide] at hzk
    have ih := t20 hc hz hlen (hits := hits) d (k + 1)
    have hrn := hs.rowLen 1 rfl
    rw [List.length_map, List.length_range] at hrn
    apply S_signalboxlaw08_CacheTwin_20
    unfold B_signalboxlaw08_CacheTwin_20
    (rw [decide_eq_true (by omega), mIf_true]; refine Sep.argIn hs hz (by first | omega | (simp only [List.length_set, List.length_map, List.length_replicate, List.length_append, List.length_cons, List.length_nil, List.length_reverse, List.length_range]; omega) | (simp; omega)) ?_; simp only [mBind_ap])
    rw [wrap64 _ (by omega)]
    refine (Acc_s hs (runc_ok _ hc) hzk).mono ?_
    rintro v h ⟨rfl, hs⟩
    (simp only [un2_tuple, unI_int, unB_bool]; (refine Sep.idx hs 1 rfl (by first | omega | (simp only [List.length_set, List.length_map, List.length_replicate, List.length_append, List.length_cons, List.length_nil, List.length_reverse, List.length_range]; omega) | (simp; omega)) (by first | omega | (simp only [List.length_set, List.length_map, List.length_replicate, List.length_append, List.length_cons, List.length_nil, List.length_reverse, List.length_range]; omega) | (simp; omega)) fun aa haa => ?_; try simp only [Int.toNat_natCast] at haa); refine Sep.rldB0 hs 1 rfl (fun _ => rfl) haa (List.getElem?_eq_getElem (by first | omega | (simp only [List.length_set, List.length_map, List.length_replicate, List.length_append, List.length_cons, List.length_nil, List.length_reverse, List.length_range]; omega) | (simp; omega))) rfl ?_)
    have e : ((List.range zs.length).map (hitAt w rows zs))[k]'(by simp; omega) = decide (zs[k] ∈ rof (runc w rows (zs.take k)) zs[k]) := by
      rw [List.getElem_map, List.getElem_range]
      unfold hitAt
      rw [List.getD_eq_getElem?_getD, List.getElem?_eq_getElem (by omega)]
      rfl
    rw [e]
    refine mIf_neg (by simp) ?_
    rw [wrap64 _ (by omega), show (k : Int) + 1 = ((k + 1 : Nat) : Int) by omega]
    refine ih h (by omega) ?_
    rw [runc_succ w rows zs (by omega)]
    exact hs
theorem t14 {rows : List (List Int)} (hc : COk w rows) (hz : RdI h0.size h0 .u8 ms zs) (hlen : zs.length ≤ 100) : ∀ (d k : Nat) (h : Hp) (hits : Sl), k + d = zs.length →
    Sep h0 h [aCache b w (runc w rows (zs.take k)), aCache b' w rows, aRow encB 1 hits ((List.range k).map (hitAt w rows zs))] →
    K_signalboxlaw08_CacheTwin_14 ms (some ⟨b, 0, none⟩) (some ⟨b', 0, none⟩) hits ms (ms.n : Int) (k : Int) h (CFin h0)
  | 0, k, h, hits, hk, hs => by
    have hln := hz.n
    apply S_signalboxlaw08_CacheTwin_14
    unfold B_signalboxlaw08_CacheTwin_14
    (rw [decide_eq_false (by omega), mIf_false])
    refine t20 hc hz hlen zs.length 0 h (by omega) ?_
    obtain rfl : k = zs.length := by omega
    exact hs.drop
  | d + 1, k, h, hits, hk, hs => by
    have hln := hz.n
    have hzk := hz.wf zs[k] (List.getElem_mem (by omega))
    rw [show IntKind.u8.min = 0 by decide, show IntKind.u8.max = 255 by decide] at hzk
    have ih := t14 hc hz hlen d (k + 1)
    apply S_signalboxlaw08_CacheTwin_14
    unfold B_signalboxlaw08_CacheTwin_14
    (rw [decide_eq_true (by omega), mIf_true]; refine Sep.argIn hs hz (by first | omega | (simp only [List.length_set, List.length_map, List.length_replicate, List.length_append, List.length_cons, List.length_nil, List.length_reverse, List.length_range]; omega) | (simp; omega)) ?_; simp only [mBind_ap])
    rw [wrap64 _ (by omega)]
    refine (Acc_s hs (runc_ok _ hc) hzk).mono ?_
    rintro v h ⟨rfl, hs⟩
    (simp only [un2_tuple, unI_int, unB_bool]; (refine Sep.new hs fun nb h hs => ?_; try simp only [List.toList_toArray] at hs))
    refine hs.app1 3 0 (decide (zs[k] ∈ rof (runc w rows (zs.take k)) zs[k])) rfl rfl (fun _ => rfl) (by simp [Value.oneCell']) rfl (by omega) (by simp; omega) fun s' h hn' hs => ?_
    simp only [List.set_cons_zero, List.set_cons_succ] at hs
    rw [wrap64 _ (by omega), show (k : Int) + 1 = ((k + 1 : Nat) : Int) by omega]
    refine ih h s' (by omega) ?_
    rw [runc_succ w rows zs (by omega), List.range_succ, List.map_append]
    have e : hitAt w rows zs k = decide (zs[k] ∈ rof (runc w rows (zs.take k)) zs[k]) := by
      unfold hitAt
      rw [List.getD_eq_getElem?_getD, List.getElem?_eq_getElem (by omega)]
      rfl
    rw [List.map_singleton, e]
    exact hs.drop
theorem t7 {ls : Sl} {ys : List Int} {rows : List (List Int)} (hc : COk w rows) (hy : RdI h0.size h0 .u8 ls ys) (hz : RdI h0.size h0 .u8 ms zs) (hleny : ys.length ≤ 100) (hlen : zs.length ≤ 100) : ∀ (d k : Nat) (h : Hp), k + d = ys.length →
    Sep h0 h [aCache b w (runc w rows (ys.take k))] → K_signalboxlaw08_CacheTwin_7 ms (some ⟨b, 0, none⟩) ls (ls.n : Int) (k : Int) h (CFin h0)
  | 0, k, h, hk, hs => by
    have hln := hy.n
    apply S_signalboxlaw08_CacheTwin_7
    unfold B_signalboxlaw08_CacheTwin_7
    (rw [decide_eq_false (by omega), mIf_false]; simp only [mBind_ap])
    refine (Twin_s hs (runc_ok _ hc)).mono ?_
    rintro v h ⟨b', rfl, hs⟩
    (simp only [unP_pointer])
    refine t14 (b' := b') (runc_ok (ys.take k) hc) hz hlen zs.length 0 h ⟨none, 0, 0⟩ (by omega) ?_
    have hs := hs.nilRow encB 1
    exact hs.re [2, 1, 0] rfl
  | d + 1, k, h, hk, hs => by
    have hln := hy.n
    have hzk := hy.wf ys[k] (List.getElem_mem (by omega))
    rw [show IntKind.u8.min = 0 by decide, show IntKind.u8.max = 255 by decide] at hzk
    have ih := t7 hc hy hz hleny hlen d (k + 1)
    apply S_signalboxlaw08_CacheTwin_7
    unfold B_signalboxlaw08_CacheTwin_7
    (rw [decide_eq_true (by omega), mIf_true]; refine Sep.argIn hs hy (by first | omega | (simp only [List.length_set, List.length_map, List.length_replicate, List.length_append, List.length_cons, List.length_nil, List.length_reverse, List.length_range]; omega) | (simp; omega)) ?_; simp only [mBind_ap])
    rw [wrap64 _ (by omega)]
    refine (Acc_s hs (runc_ok _ hc) hzk).mono ?_
    rintro v h ⟨rfl, hs⟩
    (simp only [un2_tuple, unI_int, unB_bool])
    rw [wrap64 _ (by omega), show (k : Int) + 1 = ((k + 1 : Nat) : Int) by omega]
    refine ih h (by omega) ?_
    rw [runc_succ w rows ys (by omega)]
    exact hs
theorem dims {a : Int} {n : Nat} (ha : 0 ≤ a ∧ a ≤ 255) (hn : 0 < n ∧ n ≤ 16) : ∃ m : Nat, IntKind.i64.wrap (1 + IntKind.i64.wrap (Int.tmod a n)) = (m : Int) ∧ 1 ≤ m ∧ m ≤ n := by
  rw [Int.tmod_eq_emod_of_nonneg ha.1]
  have h1 := Int.emod_lt_of_pos a (show (0 : Int) < n by omega)
  have h2 := Int.emod_nonneg a (show (n : Int) ≠ 0 by omega)
  rw [wrap64 (a % n) (by omega), wrap64 _ (by omega)]
  exact ⟨(1 + a % n).toNat, by omega, by omega, by omega⟩
theorem COk.init {n w : Nat} (hn : 1 ≤ n ∧ n ≤ 16) (hw : 1 ≤ w ∧ w ≤ 4) : COk w (List.replicate n []) :=
  ⟨by simpa using hn, hw, fun row hr => by rw [List.eq_of_mem_replicate hr]; exact ⟨by simp, by simp⟩⟩
theorem CacheTwin_ok {ls : Sl} {ys : List Int} {a c : Int} (ha : 0 ≤ a ∧ a ≤ 255) (hc : 0 ≤ c ∧ c ≤ 255) (hy : RdI h0.size h0 .u8 ls ys) (hz : RdI h0.size h0 .u8 ms zs) : N_signalboxlaw08_CacheTwin a c ls ms h0 (CFin h0) := by
  have hln := hy.n
  have hlm := hz.n
  apply S_signalboxlaw08_CacheTwin
  unfold B_signalboxlaw08_CacheTwin
  rw [mBind_ap]
  refine (fixed08_s (Sep.init h0)).mono ?_
  rintro v h1 ⟨rfl, hs⟩
  (simp only [unB_bool, Bool.not_true, mIf_false])
  refine mIf_intro (fun _ => ⟨rfl, hs.under⟩) (fun hcc => ?_)
  have hcc : ys.length ≤ 100 ∧ zs.length ≤ 100 := by simp at hcc; omega
  refine ⟨by omega, by omega, ?_⟩
  obtain ⟨n, e1, hn⟩ := dims (n := 16) ha (by omega)
  obtain ⟨w, e2, hw⟩ := dims (n := 4) hc (by omega)
  rw [show ((16 : Int)) = ((16 : Nat) : Int) from rfl, show ((4 : Int)) = ((4 : Nat) : Int) from rfl, e1, e2, mBind_ap]
  refine (New_s hs hn hw).mono ?_
  rintro v h ⟨b, rfl, hs⟩
  simp only [unP_pointer]
  exact t7 (COk.init hn hw) hy hz hcc.1 hcc.2 ys.length 0 h (by omega) hs
end twin
end Go.Proofs.Ytkoenpliddhhoaa
