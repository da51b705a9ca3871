/- Cache: the law CacheAges. Conditions: none. -/
import Derived.Test.YtkoenpliddhhoaaCacheQ
import Derived.Test.YtkoenpliddhhoaaSbW
namespace Go.Proofs.Ytkoenpliddhhoaa
open Go Go.Sb
set_option linter.unusedSimpArgs false
set_option linter.unusedVariables false

/-- whose the others were, since a block was used: fewer than there are ways, and it is there; or not -/
def AInv (w : Nat) (row : List Int) (block : Int) (f : Int → Option Value) (n : Nat) : Prop :=
  (n < w ∧ ∃ A B, row = A ++ block :: B ∧ A.length = n ∧ ∀ x, (f x).isSome = true ↔ x ∈ A) ∨ (w ≤ n ∧ block ∉ row)
theorem AInv.step {w : Nat} {row : List Int} {block x : Int} {f : Int → Option Value} {n : Nat} (h : AInv w row block f n) (hr : ROk w row) (hx : x ≠ block) (v : Value) :
    AInv w (acc w row x) block (fun j => if j = x then some v else f j) (if (f x).isSome then n else n + 1) := by
  rcases h with ⟨hn, A, B, rfl, hA, hf⟩ | ⟨hn, hb⟩
  · have hnd := hr.nd
    have hl := hr.n
    simp only [List.length_append, List.length_cons] at hl
    obtain ⟨nA, nB, nAB⟩ := List.nodup_append.1 hnd
    have hbB : block ∉ B := (List.nodup_cons.1 nB).1
    by_cases hxA : x ∈ A
    · left
      have hs : (f x).isSome = true := (hf x).2 hxA
      rw [if_pos hs]
      refine ⟨hn, x :: A.erase x, B, ?_, ?_, fun j => ?_⟩
      · unfold acc
        rw [if_pos (by simp [hxA]), List.erase_append_left _ hxA]
        rfl
      · have := List.length_pos_of_mem hxA
        rw [List.length_cons, List.length_erase_of_mem hxA]; omega
      · by_cases hj : j = x
        · simp [hj]
        · simp only [hj, if_false, List.mem_cons, false_or]
          rw [hf j, nA.mem_erase_iff]
          simp [hj]
    · have hs : ¬ (f x).isSome = true := fun h => hxA ((hf x).1 h)
      rw [if_neg hs]
      have hmem : ∀ j : Int, ((if j = x then some v else f j : Option Value)).isSome = true ↔ j ∈ x :: A := by
        intro j
        by_cases hj : j = x
        · simp [hj]
        · simp only [hj, if_false, List.mem_cons, false_or]
          exact hf j
      by_cases hxB : x ∈ B
      · left
        have hBl := List.length_pos_of_mem hxB
        refine ⟨by omega, x :: A, B.erase x, ?_, by simp [hA], hmem⟩
        unfold acc
        rw [if_pos (by simp [hxB]), List.erase_append_right _ hxA, List.erase_cons_tail (by simpa using fun h => hx h.symm)]
        rfl
      · have hnot : x ∉ A ++ block :: B := by simp [hxA, hxB, hx]
        unfold acc
        rw [if_neg hnot]
        by_cases hlt : (A ++ block :: B).length < w
        · rw [if_pos hlt]
          simp only [List.length_append, List.length_cons] at hlt
          exact .inl ⟨by omega, x :: A, B, rfl, by simp [hA], hmem⟩
        · rw [if_neg hlt]
          simp only [List.length_append, List.length_cons] at hlt
          by_cases hB : B = []
          · subst hB
            right
            refine ⟨by simp at hlt; omega, ?_⟩
            rw [List.dropLast_concat]
            simp only [List.mem_cons, not_or]
            exact ⟨Ne.symm hx, fun hm => nAB block hm block (by simp) rfl⟩
          · left
            have hBl : 0 < B.length := List.length_pos_iff.2 hB
            refine ⟨by omega, x :: A, B.dropLast, ?_, by simp [hA], hmem⟩
            rw [List.dropLast_append_cons, List.dropLast_cons_of_ne_nil hB]
            rfl
  · right
    refine ⟨by split <;> omega, ?_⟩
    unfold acc
    split
    · simp only [List.mem_cons, not_or]
      exact ⟨Ne.symm hx, fun hm => hb (List.mem_of_mem_erase hm)⟩
    · split
      · simp only [List.mem_cons, not_or]
        exact ⟨Ne.symm hx, hb⟩
      · simp only [List.mem_cons, not_or]
        exact ⟨Ne.symm hx, fun hm => hb (List.dropLast_subset _ hm)⟩
section ages
variable {h0 : Hp} {b w r : Nat} {ms : Sl} {zs : List Int} {block : Int}
theorem rof_cst_same {w : Nat} {rows : List (List Int)} (hc : COk w rows) {x y : Int} (hxy : x % rows.length = y % rows.length) : rof (cst w rows x) y = acc w (rof rows y) x := by
  have hs : sof rows x = sof rows y := by unfold sof; rw [hxy]
  have h1 : sof (cst w rows x) y = sof rows y := by unfold sof; rw [cst_len]
  unfold rof
  rw [h1]
  unfold cst rof
  rw [hs, List.getD_eq_getElem?_getD, List.getElem?_set_self (sof_lt hc)]
  rfl
theorem rof_cst_other {w : Nat} {rows : List (List Int)} (hc : COk w rows) {x y : Int} (hxy : ¬ x % rows.length = y % rows.length) : rof (cst w rows x) y = rof rows y := by
  have hs : sof rows x ≠ sof rows y := by
    intro h
    apply hxy
    rw [sof_cast hc (x := x), sof_cast hc (x := y), h]
  have h1 : sof (cst w rows x) y = sof rows y := by unfold sof; rw [cst_len]
  unfold rof
  rw [h1]
  unfold cst
  rw [List.getD_eq_getElem?_getD, List.getElem?_set_ne hs, ← List.getD_eq_getElem?_getD]
theorem rof_ok {w : Nat} {rows : List (List Int)} (hc : COk w rows) (x : Int) : ROk w (rof rows x) := by
  rw [rof_eq hc]; exact hc.ok _ (List.getElem_mem _)
theorem g16 (hb : 0 ≤ block ∧ block ≤ 255) (hz : RdI h0.size h0 .u8 ms zs) (hlen : zs.length ≤ 100) : ∀ (d k : Nat) (h : Hp) (rows : List (List Int)) (f : Int → Option Value) (n : Nat) (again : Bool), k + d = zs.length → COk w rows →
    (again = false → AInv w (rof rows block) block f n) → Sep h0 h [aCache b w rows, aMap r .u8 f n] →
    K_signalboxlaw08_CacheAges_16 block (rows.length : Int) (w : Int) (some ⟨b, 0, none⟩) (some r) again ms (ms.n : Int) (k : Int) h (CFin h0)
  | 0, k, h, rows, f, n, again, hk, hc, hI, hs => by
    have hln := hz.n
    have hcn := hc.n
    apply S_signalboxlaw08_CacheAges_16
    unfold B_signalboxlaw08_CacheAges_16
    (simp only [mNilM_some]; rw [decide_eq_false (by omega), mIf_false])
    cases again with
    | true => exact ⟨rfl, hs.under⟩
    | false =>
      (simp only [mIf_false, mBind_ap])
      rw [wrap64 _ (by omega)]
      refine (Acc_s hs hc hb).mono ?_
      rintro v h ⟨rfl, hs⟩
      (simp only [un2_tuple, unI_int, unB_bool, mBind_ap])
      refine mIf_pos rfl ?_
      (refine Sep.mapLen hs 1 rfl ?_; rw [mRet_ap])
      refine ⟨?_, hs.under⟩
      rcases hI rfl with ⟨h1, A, B, h2, _⟩ | ⟨h1, h2⟩
      · have : block ∈ rof rows block := by rw [h2]; simp
        rw [decide_eq_true this, decide_eq_true (by omega)]; rfl
      · rw [decide_eq_false h2, decide_eq_false (by omega)]; rfl
  | d + 1, k, h, rows, f, n, again, hk, hc, hI, hs => by
    have hln := hz.n
    have hcn := hc.n
    have hzk := hz.wf zs[k] (List.getElem_mem (by omega))
    rw [show IntKind.u8.min = 0 by decide, show IntKind.u8.max = 255 by decide] at hzk
    have ih := g16 hb hz hlen d (k + 1)
    apply S_signalboxlaw08_CacheAges_16
    unfold B_signalboxlaw08_CacheAges_16
    (simp only [mNilM_some]; rw [decide_eq_true (by omega), mIf_true]; refine Sep.argIn hs hz (by first | omega | (simp only [List.length_set, List.length_map, List.length_replicate, List.length_append, List.length_cons, List.length_nil, List.length_reverse, List.length_range]; omega) | (simp; omega)) ?_; simp only [mBind_ap])
    rw [wrap64 zs[k] (by omega)]
    refine (Acc_s hs hc hzk).mono ?_
    rintro v h ⟨rfl, hs⟩
    (simp only [un2_tuple, unI_int, unB_bool, mBind_ap])
    have hc' := cst_ok hc zs[k]
    have hlen' : ((cst w rows zs[k]).length : Int) = rows.length := by rw [cst_len]
    by_cases hxb : zs[k] = block
    · refine mIf_neg (by simp [hxb]) ?_
      (rw [mRet_ap]; simp only [mIf_false])
      rw [wrap64 _ (by omega), show (k : Int) + 1 = ((k + 1 : Nat) : Int) by omega, ← hlen']
      exact ih h (cst w rows zs[k]) f n _ (by omega) hc' (by simp [hxb]) hs
    · refine mIf_pos (by simp [hxb]) ?_
      refine ⟨by omega, by omega, ?_⟩
      rw [mRet_ap, wrap64 block (by omega), Int.tmod_eq_emod_of_nonneg hzk.1, Int.tmod_eq_emod_of_nonneg hb.1]
      have hag : (again || (zs[k] == block)) = again := by simp [hxb]
      rw [hag]
      refine mIf_intro (fun he => ?_) (fun he => ?_)
      · have he : zs[k] % (rows.length : Int) = block % rows.length := by simpa using he
        ((refine Sep.mapSet hs 1 rfl fun h hs => ?_; simp only [List.set_cons_zero, List.set_cons_succ] at hs))
        rw [wrap64 _ (by omega), show (k : Int) + 1 = ((k + 1 : Nat) : Int) by omega, ← hlen']
        refine ih h (cst w rows zs[k]) _ _ _ (by omega) hc' (fun ha => ?_) hs
        rw [rof_cst_same hc he]
        exact (hI ha).step (rof_ok hc block) hxb _
      · have he : ¬ zs[k] % (rows.length : Int) = block % rows.length := by simpa using he
        rw [wrap64 _ (by omega), show (k : Int) + 1 = ((k + 1 : Nat) : Int) by omega, ← hlen']
        refine ih h (cst w rows zs[k]) f n _ (by omega) hc' (fun ha => ?_) hs
        rw [rof_cst_other hc he]
        exact hI ha
theorem g8 {ls : Sl} {ys : List Int} (hb : 0 ≤ block ∧ block ≤ 255) (hy : RdI h0.size h0 .u8 ls ys) (hz : RdI h0.size h0 .u8 ms zs) (hleny : ys.length ≤ 100) (hlen : zs.length ≤ 100) : ∀ (d k : Nat) (h : Hp) (rows : List (List Int)), k + d = ys.length → COk w rows →
    Sep h0 h [aCache b w rows] → K_signalboxlaw08_CacheAges_8 block ms (rows.length : Int) (w : Int) (some ⟨b, 0, none⟩) ls (ls.n : Int) (k : Int) h (CFin h0)
  | 0, k, h, rows, hk, hc, hs => by
    have hln := hy.n
    have hway := hc.ways
    apply S_signalboxlaw08_CacheAges_8
    unfold B_signalboxlaw08_CacheAges_8
    (rw [decide_eq_false (by omega), mIf_false]; simp only [mBind_ap])
    rw [wrap64 block (by omega)]
    refine (Acc_s hs hc hb).mono ?_
    rintro v h ⟨rfl, hs⟩
    (simp only [un2_tuple, unI_int, unB_bool])
    refine hs.mapNew .u8 fun r h hs => ?_
    have hlen' : ((cst w rows block).length : Int) = rows.length := by rw [cst_len]
    rw [← hlen']
    refine g16 hb hz hlen zs.length 0 h _ (fun _ => none) 0 false (by omega) (cst_ok hc block) (fun _ => ?_) hs.swap
    rw [rof_cst_same hc rfl]
    left
    have hh : ∃ B, acc w (rof rows block) block = block :: B := by
      unfold acc
      split
      · exact ⟨_, rfl⟩
      · split <;> exact ⟨_, rfl⟩
    obtain ⟨B, hB⟩ := hh
    exact ⟨by omega, [], B, by rw [hB]; rfl, rfl, by simp⟩
  | d + 1, k, h, rows, hk, hc, hs => by
    have hln := hy.n
    have hzk := hy.wf ys[k] (List.getElem_mem (by omega))
    rw [show IntKind.u8.min = 0 by decide, show IntKind.u8.max = 255 by decide] at hzk
    have ih := g8 hb hy hz hleny hlen d (k + 1)
    apply S_signalboxlaw08_CacheAges_8
    unfold B_signalboxlaw08_CacheAges_8
    (rw [decide_eq_true (by omega), mIf_true]; refine Sep.argIn hs hy (by first | omega | (simp only [List.length_set, List.length_map, List.length_replicate, List.length_append, List.length_cons, List.length_nil, List.length_reverse, List.length_range]; omega) | (simp; omega)) ?_; simp only [mBind_ap])
    rw [wrap64 ys[k] (by omega)]
    refine (Acc_s hs hc hzk).mono ?_
    rintro v h ⟨rfl, hs⟩
    (simp only [un2_tuple, unI_int, unB_bool])
    have hlen' : ((cst w rows ys[k]).length : Int) = rows.length := by rw [cst_len]
    rw [wrap64 _ (by omega), show (k : Int) + 1 = ((k + 1 : Nat) : Int) by omega, ← hlen']
    exact ih h _ (by omega) (cst_ok hc _) hs
theorem CacheAges_ok {ls : Sl} {ys : List Int} {a c : Int} (ha : 0 ≤ a ∧ a ≤ 255) (hc : 0 ≤ c ∧ c ≤ 255) (hy : RdI h0.size h0 .u8 ls ys) (hb : 0 ≤ block ∧ block ≤ 255) (hz : RdI h0.size h0 .u8 ms zs) : N_signalboxlaw08_CacheAges a c ls block ms h0 (CFin h0) := by
  have hln := hy.n
  have hlm := hz.n
  apply S_signalboxlaw08_CacheAges
  unfold B_signalboxlaw08_CacheAges
  rw [mBind_ap]
  refine (fixed08_s (Sep.init h0)).mono ?_
  rintro v h1 ⟨rfl, hs⟩
  (simp only [unB_bool, Bool.not_true, mIf_false])
  refine mIf_intro (fun _ => ⟨rfl, hs.under⟩) (fun hcc => ?_)
  have hcc : ys.length ≤ 100 ∧ zs.length ≤ 100 := by simp at hcc; omega
  refine ⟨by omega, by omega, ?_⟩
  obtain ⟨n, e1, hn⟩ := dims (n := 16) ha (by omega)
  obtain ⟨w, e2, hw⟩ := dims (n := 4) hc (by omega)
  rw [show ((16 : Int)) = ((16 : Nat) : Int) from rfl, show ((4 : Int)) = ((4 : Nat) : Int) from rfl, e1, e2, mBind_ap]
  refine (New_s hs hn hw).mono ?_
  rintro v h ⟨b, rfl, hs⟩
  simp only [unP_pointer]
  have := g8 hb hy hz hcc.1 hcc.2 ys.length 0 h _ (by omega) (COk.init hn hw) hs
  rw [List.length_replicate] at this
  exact this
end ages
end Go.Proofs.Ytkoenpliddhhoaa
