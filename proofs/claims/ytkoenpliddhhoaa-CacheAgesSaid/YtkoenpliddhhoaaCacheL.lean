/- Cache: what each call answers, over what is owned. Conditions: none. -/
import Derived.Test.YtkoenpliddhhoaaCacheM
import Derived.Test.YtkoenpliddhhoaaSbW
namespace Go.Proofs.Ytkoenpliddhhoaa
open Go Go.Sb
set_option linter.unusedSimpArgs false
set_option linter.unusedVariables false

abbrev encI : Int → List Value := fun z => [.int .i64 z]
abbrev encB : Bool → List Value := fun z => [.bool z]
def aCache (b w : Nat) (rows : List (List Int)) : As := aEx fun s : Sl => aStar (aBlk b [.int .i64 w, .slice s.p s.n s.c]) (aGrid encI 1 s rows)
def acc (w : Nat) (row : List Int) (x : Int) : List Int := if x ∈ row then x :: row.erase x else if row.length < w then x :: row else x :: row.dropLast
structure ROk (w : Nat) (row : List Int) : Prop where
  n : row.length ≤ w
  nd : row.Nodup
theorem acc_ok {w : Nat} {row : List Int} (h : ROk w row) (hw : 1 ≤ w) (x : Int) : ROk w (acc w row x) := by
  unfold acc
  have hn := h.n
  by_cases hx : x ∈ row
  · rw [if_pos hx]
    refine ⟨?_, ?_⟩
    · have := List.length_pos_of_mem hx
      rw [List.length_cons, List.length_erase_of_mem hx]; omega
    · refine List.nodup_cons.2 ⟨fun hm => ?_, h.nd.erase x⟩
      exact (h.nd.mem_erase_iff.1 hm).1 rfl
  · rw [if_neg hx]
    by_cases hl : row.length < w
    · rw [if_pos hl]
      exact ⟨by rw [List.length_cons]; omega, List.nodup_cons.2 ⟨hx, h.nd⟩⟩
    · rw [if_neg hl]
      refine ⟨by simp; omega, List.nodup_cons.2 ⟨fun hm => hx (List.dropLast_subset _ hm), h.nd.sublist (List.dropLast_sublist _)⟩⟩
def idx (x : Int) (row : List Int) : Int := if x ∈ row then (row.idxOf x : Int) else -1
section
variable {h0 h : Hp} {R L : List As} {b w : Nat} {rows : List (List Int)}
theorem aCache_iff : Sep h0 h (aCache b w rows :: R) ↔ ∃ s : Sl, Sep h0 h (aBlk b [.int .i64 w, .slice s.p s.n s.c] :: aGrid encI 1 s rows :: R) := by
  unfold aCache; rw [Sep.ex]; simp only [Sep.star]
theorem New_s (hs : Sep h0 h R) {n w : Nat} (hn : 1 ≤ n ∧ n ≤ 16) (hw : 1 ≤ w ∧ w ≤ 4) : N_cache_New (n : Int) (w : Int) h (fun v h' => ∃ b, v = .pointer (some ⟨b, 0, none⟩) ∧ Sep h0 h' (aCache b w (List.replicate n []) :: R)) := by
  apply S_cache_New
  unfold B_cache_New
  refine mIf_neg (by simp; omega) ?_
  refine hs.make encS 1 ⟨none, 0, 0⟩ rfl (by omega) (by omega) (by omega) fun s h hsn hs => ?_
  ((refine Sep.new hs fun nb h hs => ?_; try simp only [List.toList_toArray] at hs))
  exact ⟨nb, rfl, aCache_iff.2 ⟨s, (hs.swap.gNew encI 1).swap⟩⟩
theorem New_bad (h : Hp) (n w : Int) (hn : n < 1) : N_cache_New n w h (fun v h' => v = .pointer none ∧ h' = h) := by
  apply S_cache_New
  unfold B_cache_New
  exact mIf_pos (by simp; omega) ⟨rfl, rfl⟩
theorem Of_s (hs : Sep h0 h (aCache b w rows :: R)) (hr : 1 ≤ rows.length) {x : Int} (hx : 0 ≤ x ∧ x ≤ 255) : N_cache_Cache_Of (some ⟨b, 0, none⟩) x h (fun v h' => v = .int .i64 (x % rows.length) ∧ h' = h) := by
  obtain ⟨s, hs⟩ := aCache_iff.1 hs
  have hn := hs.swap.gLen
  apply S_cache_Cache_Of
  unfold B_cache_Cache_Of
  refine mIf_neg (by simp; omega) ?_
  (simp only [mNil_some, add_mk, Nat.zero_add]; refine Sep.ldL hs 0 rfl rfl ?_)
  refine ⟨by omega, ?_⟩
  exact ⟨by rw [Int.tmod_eq_emod_of_nonneg hx.1, hn], rfl⟩
theorem Of_bad (h : Hp) (p : Option Addr) {x : Int} (hx : x < 0) : N_cache_Cache_Of p x h (fun v h' => v = .int .i64 (-1) ∧ h' = h) := by
  apply S_cache_Cache_Of
  unfold B_cache_Cache_Of
  exact mIf_pos (by simp; omega) ⟨rfl, rfl⟩
theorem Index_s (hs : Sep h0 h L) (k : Nat) {s : Sl} {row : List Int} (hk : L[k]? = some (aRow encI 1 s row)) (hrow : row.length ≤ 4) (x : Int) : N_slices_Index_int_int s x h (fun v h' => v = .int .i64 (idx x row) ∧ h' = h) := by
  have hn := hs.rowLen k hk
  apply S_slices_Index_int_int
  unfold B_slices_Index_int_int
  have loop : ∀ (d i : Nat), i + d = row.length → x ∉ row.take i → K_slices_Index_int_int_2 s x (s.n : Int) (i : Int) h (fun v h' => v = .int .i64 (idx x row) ∧ h' = h) := by
    intro d
    induction d with
    | zero =>
      intro i hi hx
      apply S_slices_Index_int_int_2
      unfold B_slices_Index_int_int_2
      (rw [decide_eq_false (by omega), mIf_false])
      rw [List.take_of_length_le (by omega)] at hx
      exact ⟨by unfold idx; rw [if_neg hx], rfl⟩
    | succ d ih =>
      intro i hi hx
      apply S_slices_Index_int_int_2
      unfold B_slices_Index_int_int_2
      rw [decide_eq_true (by omega), mIf_true]
      refine hs.idx k hk (by omega) (by omega) fun a ha => ?_
      refine hs.ild k hk ha (by omega) ?_
      simp only [Int.toNat_natCast]
      have hsp : row = row.take i ++ (row[i] :: row.drop (i + 1)) := by rw [← List.drop_eq_getElem_cons (by omega), List.take_append_drop]
      refine mIf_intro (fun hc => ?_) (fun hc => ?_)
      · have hc : x = row[i] := by simpa using hc
        refine ⟨?_, rfl⟩
        unfold idx
        have hm : x ∈ row := by rw [hc]; exact List.getElem_mem _
        rw [if_pos hm]
        have : row.idxOf x = i := by
          rw [hsp, List.idxOf_append, if_neg hx, ← hc, List.idxOf_cons_self, List.length_take]
          omega
        rw [this]
      · have hc : ¬ x = row[i] := by simpa using hc
        rw [wrap64 _ (by omega), show (i : Int) + 1 = ((i + 1 : Nat) : Int) by omega]
        refine ih (i + 1) (by omega) ?_
        intro hm
        rw [List.take_succ_eq_append_getElem (by omega), List.mem_append] at hm
        rcases hm with hm | hm
        · exact hx hm
        · exact hc (List.mem_singleton.1 hm)
  exact loop row.length 0 (by omega) (by simp)
structure COk (w : Nat) (rows : List (List Int)) : Prop where
  n : 1 ≤ rows.length ∧ rows.length ≤ 16
  ways : 1 ≤ w ∧ w ≤ 4
  ok : ∀ row ∈ rows, ROk w row
theorem Age_s (hs : Sep h0 h (aCache b w rows :: R)) (hc : COk w rows) {x : Int} (hx : 0 ≤ x ∧ x ≤ 255) {i : Nat} (hi : i < rows.length) (hxi : x % rows.length = i) : N_cache_Cache_Age (some ⟨b, 0, none⟩) x h (fun v h' => v = .int .i64 (idx x rows[i]) ∧ Sep h0 h' (aCache b w rows :: R)) := by
  apply S_cache_Cache_Age
  unfold B_cache_Cache_Age
  rw [mBind_ap]
  refine (Of_s hs hc.n.1 hx).mono ?_
  rintro v h' ⟨rfl, rfl⟩
  rw [hxi, unI_int]
  refine mIf_neg (by simp) ?_
  obtain ⟨s, hs⟩ := aCache_iff.1 hs
  (simp only [mNil_some, add_mk, Nat.zero_add]; refine Sep.ldL hs 0 rfl rfl ?_)
  obtain ⟨ss, hl, hs⟩ := hs.swap.gOpen i hi
  (refine Sep.idx hs 1 rfl (by first | omega | (simp only [List.length_set, List.length_map, List.length_replicate, List.length_append, List.length_cons, List.length_nil, List.length_reverse, List.length_range]; omega) | (simp; omega)) (by first | omega | (simp only [List.length_set, List.length_map, List.length_replicate, List.length_append, List.length_cons, List.length_nil, List.length_reverse, List.length_range]; omega) | (simp; omega)) fun aa haa => ?_; try simp only [Int.toNat_natCast] at haa)
  refine hs.rldL0 1 rfl (fun _ => rfl) haa (List.getElem?_eq_getElem (by omega)) rfl ?_
  rw [mBind_ap]
  refine (Index_s hs 0 rfl (Nat.le_trans (hc.ok _ (List.getElem_mem _)).n hc.ways.2) x).mono ?_
  rintro v h' ⟨rfl, rfl⟩
  rw [unI_int]
  have hs := Sep.gShut hl hi hs
  rw [List.set_getElem_self] at hs
  exact ⟨rfl, aCache_iff.2 ⟨s, hs.swap⟩⟩
theorem Access_s (hs : Sep h0 h (aCache b w rows :: R)) (hc : COk w rows) {x : Int} (hx : 0 ≤ x ∧ x ≤ 255) {i : Nat} (hi : i < rows.length) (hxi : x % rows.length = i) :
    N_cache_Cache_Access (some ⟨b, 0, none⟩) x h (fun v h' => v = .tuple #[.bool (decide (x ∈ rows[i])), .int .i64 0] ∧ Sep h0 h' (aCache b w (rows.set i (acc w rows[i] x)) :: R)) := by
  apply S_cache_Cache_Access
  unfold B_cache_Cache_Access
  (simp only [Option.isNone_some, mNil_some, add_mk, Nat.zero_add, mIf_false, mBind_ap])
  refine (Of_s hs hc.n.1 hx).mono ?_
  rintro v h' ⟨rfl, rfl⟩
  rw [hxi, unI_int]
  refine mIf_neg (by simp) ?_
  rw [mBind_ap]
  refine (Age_s hs hc hx hi hxi).mono ?_
  rintro v h' ⟨rfl, hs⟩
  rw [unI_int]
  obtain ⟨s, hs⟩ := aCache_iff.1 hs
  have hr := hc.ok _ (List.getElem_mem hi)
  have hw := hc.ways
  have hrn := hr.n
  (refine Sep.ldL hs 0 rfl rfl ?_)
  obtain ⟨ss, hl, hs⟩ := hs.swap.gOpen i hi
  have hsn := hs.rowLen 1 rfl
  have hxn := hs.rowLen 0 rfl
  (refine Sep.idx hs 1 rfl (by first | omega | (simp only [List.length_set, List.length_map, List.length_replicate, List.length_append, List.length_cons, List.length_nil, List.length_reverse, List.length_range]; omega) | (simp; omega)) (by first | omega | (simp only [List.length_set, List.length_map, List.length_replicate, List.length_append, List.length_cons, List.length_nil, List.length_reverse, List.length_range]; omega) | (simp; omega)) fun aa haa => ?_; try simp only [Int.toNat_natCast] at haa)
  refine hs.rldL0 1 rfl (fun _ => rfl) haa (List.getElem?_eq_getElem (by omega)) rfl ?_
  generalize hxs : rows[i] = xs at *
  have k13 : ∀ (h : Hp) (row : Sl) (ys : List Int) (at_ : Nat) (hit : Bool), at_ < ys.length → ys.length ≤ 4 → acc w xs x = x :: (ys.take at_ ++ ys.drop (at_ + 1)) →
      Sep h0 h (aRow encI 1 row ys :: aRow encS 1 s ss :: aAll ((List.zipWith (aRow encI 1) ss rows).eraseIdx i) :: aBlk b [.int .i64 w, .slice s.p s.n s.c] :: R) →
      K_cache_Cache_Access_13 (some ⟨b, 0, none⟩) x (i : Int) (at_ : Int) row hit h (fun v h' => v = .tuple #[.bool hit, .int .i64 0] ∧ Sep h0 h' (aCache b w (rows.set i (acc w xs x)) :: R)) := by
    intro h row ys at_ hit hat hy4 hacc hs
    have hrow := hs.rowLen 0 rfl
    have hcap := hs.rowCap 0 rfl
    apply S_cache_Cache_Access_13
    unfold B_cache_Cache_Access_13
    rw [wrap64 _ (by omega)]
    refine vslc (by omega) (by omega) (by omega) (by omega) fun d hv1 hn1 _ => ?_
    refine vslc (by omega) (by omega) (by omega) (by omega) fun e hv2 hn2 _ => ?_
    have hmin : min e.n d.n = at_ := by omega
    have hlt : (ys.take at_).length = at_ := by rw [List.length_take]; omega
    refine hs.vcopy 0 (ys.take at_) rfl (fun _ => rfl) hv1 ?_ (by omega) ?_ (by simp only [hlt]; omega) fun h hs => ?_
    · rw [hmin]
      have := hs.vcells 0 (m := at_) rfl (fun _ => rfl) hv2 (by omega) (by simp; omega)
      simpa using this
    · intro v hv
      obtain ⟨z, _, hz⟩ := List.mem_flatMap.1 hv
      simp only [List.mem_singleton] at hz
      subst hz; rfl
    simp only [List.set_cons_zero, List.set_cons_succ, hlt] at hs
    have hl1 : (ys.take (Int.toNat 1) ++ (ys.take at_ ++ ys.drop (Int.toNat 1 + at_))).length = ys.length := by simp; omega
    refine hs.idx 0 rfl (by omega) (by rw [hl1]; omega) fun a0 ha0 => ?_
    refine hs.ist 0 rfl ha0 (by rw [hl1]; show 0 < _; omega) fun h hs => ?_
    simp only [List.set_cons_zero, List.set_cons_succ] at hs
    have e1 : (ys.take (Int.toNat 1) ++ (ys.take at_ ++ ys.drop (Int.toNat 1 + at_))).set (Int.toNat 0) x = acc w xs x := by
      rw [hacc]
      cases ys with
      | nil => simp at hat
      | cons y ys => simp [Nat.add_comm 1 at_]
    rw [e1] at hs
    simp only [mNil_some, add_mk, Nat.zero_add]
    (refine Sep.ldL hs 3 rfl rfl ?_; (refine Sep.idx hs 1 rfl (by first | omega | (simp only [List.length_set, List.length_map, List.length_replicate, List.length_append, List.length_cons, List.length_nil, List.length_reverse, List.length_range]; omega) | (simp; omega)) (by first | omega | (simp only [List.length_set, List.length_map, List.length_replicate, List.length_append, List.length_cons, List.length_nil, List.length_reverse, List.length_range]; omega) | (simp; omega)) fun aa_1 haa_1 => ?_; try simp only [Int.toNat_natCast] at haa_1))
    refine hs.rst0 1 row rfl (fun _ => rfl) haa_1 (List.getElem?_eq_getElem (by omega)) (by omega) rfl rfl fun h hs => ?_
    simp only [List.set_cons_zero, List.set_cons_succ] at hs
    have hs := Sep.gClose hs hl hi
    exact ⟨rfl, aCache_iff.2 ⟨s, hs.swap⟩⟩
  have hhit : (idx x xs != (-1 : Int)) = decide (x ∈ xs) := by
    unfold idx
    by_cases hm : x ∈ xs
    · rw [if_pos hm, decide_eq_true hm]; simp
    · rw [if_neg hm, decide_eq_false hm]; rfl
  rw [hhit]
  by_cases hm : x ∈ xs
  · rw [decide_eq_true hm]
    (simp only [Bool.not_true, mIf_false])
    have hix : idx x xs = (xs.idxOf x : Nat) := by unfold idx; rw [if_pos hm]
    rw [hix]
    have hlt := List.idxOf_lt_length_of_mem hm
    refine k13 _ _ xs (xs.idxOf x) true hlt (by omega) ?_ hs
    unfold acc
    rw [if_pos hm]
    congr 1
    rw [List.erase_eq_eraseIdx_of_idxOf (i := xs.idxOf x) rfl, List.eraseIdx_eq_take_drop_succ]
  · rw [decide_eq_false hm]
    (simp only [Bool.not_false, mIf_true]; refine Sep.ldI hs 3 rfl rfl ?_)
    refine mIf_dec (fun hlt => ?_) (fun hlt => ?_)
    · (refine Sep.new hs fun nb h hs => ?_; try simp only [List.toList_toArray] at hs)
      refine hs.app1 1 0 x rfl rfl (fun _ => rfl) (by simp [Value.oneCell']) rfl (by omega) (by omega) fun s' h hn' hs => ?_
      simp only [List.set_cons_zero, List.set_cons_succ] at hs
      rw [wrap64 _ (by omega), show ((s'.n : Int) - 1) = (xs.length : Nat) by omega]
      refine k13 _ s' (xs ++ [x]) xs.length false (by simp) (by simp; omega) ?_ hs.drop
      unfold acc
      rw [if_neg hm, if_pos (by omega)]
      simp
    · rw [wrap64 _ (by omega), show (((ss[i]'(by omega)).n : Int) - 1) = ((xs.length - 1 : Nat) : Int) by omega]
      refine k13 _ _ xs (xs.length - 1) false (by omega) (by omega) ?_ hs
      unfold acc
      rw [if_neg hm, if_neg (by omega), show xs.length - 1 + 1 = xs.length by omega, List.drop_length, List.append_nil, List.dropLast_eq_take]
end
end Go.Proofs.Ytkoenpliddhhoaa
