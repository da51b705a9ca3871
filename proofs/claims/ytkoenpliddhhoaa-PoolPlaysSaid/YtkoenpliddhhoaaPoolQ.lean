/- Pool: what stands at the head of both laws, and the law PoolApart. Conditions: none. -/
import Derived.Test.YtkoenpliddhhoaaPoolL
import Derived.Test.YtkoenpliddhhoaaSbS
namespace Go.Proofs.Ytkoenpliddhhoaa
open Go Go.Sb
set_option linter.unusedSimpArgs false
set_option linter.unusedVariables false

abbrev PFin (h0 : Hp) : Value → Hp → Prop := fun v h' => v = .bool true ∧ Under h0.size h0 h'
section
variable {h0 h : Hp} {R : List As}
theorem fixed36_s (hs : Sep h0 h R) : N_signalboxlaw36_fixed h (fun v h' => v = .bool true ∧ Sep h0 h' R) := by
  apply S_signalboxlaw36_fixed
  unfold B_signalboxlaw36_fixed
  rw [mBind_ap]
  refine (New_s (n := 2) hs (by omega)).mono ?_
  rintro v h ⟨b, rfl, hs⟩
  (simp only [unP_pointer, mBind_ap])
  refine (Get_s hs (by omega) 7).mono ?_
  rintro v h ⟨rfl, hs⟩
  (simp only [un2_tuple, unI_int, mBind_ap])
  refine (Get_s hs (by omega) 8).mono ?_
  rintro v h ⟨rfl, hs⟩
  (simp only [un2_tuple, unI_int, mBind_ap])
  refine (Get_none hs 9).mono ?_
  rintro v h ⟨rfl, hs⟩
  (simp only [un2_tuple, unI_int, mBind_ap])
  refine (Put_none (i := 0) (who := 8) hs (by omega) (by decide)).mono ?_
  rintro v h ⟨rfl, hs⟩
  (simp only [unI_int, mBind_ap])
  refine (Put_s (i := 0) (who := 7) hs (by omega) (by omega) (by decide)).mono ?_
  rintro v h ⟨rfl, hs⟩
  (simp only [unI_int, mBind_ap])
  refine (Get_s hs (by omega) 5).mono ?_
  rintro v h ⟨rfl, hs⟩
  (simp only [un2_tuple, unI_int, mBind_ap])
  refine mIf_pos (by decide) ?_
  (simp only [mBind_ap])
  refine (Low_s hs).mono ?_
  rintro v h ⟨rfl, hs⟩
  (simp only [unI_int]; rw [mRet_ap])
  refine mIf_pos (by decide) ?_
  (simp only [mBind_ap])
  refine (Reclaim_s hs (by omega) 8).mono ?_
  rintro v h ⟨rfl, hs⟩
  (simp only [unI_int]; rw [mRet_ap])
  refine mIf_pos (by decide) ?_
  (simp only [mBind_ap])
  refine (New_bad h (-1) (by omega)).mono ?_
  rintro v h ⟨rfl, rfl⟩
  (simp only [unP_pointer, Option.isNone_none]; rw [mRet_ap])
  exact ⟨rfl, hs.drop⟩
end
section apart
variable {h0 : Hp} {ws : Sl} {zs : List Int}
theorem range_cons {i n : Nat} (hi : i < n) : List.range' i (n - i) = i :: List.range' (i + 1) (n - (i + 1)) := by
  rw [show n - i = (n - (i + 1)) + 1 by omega, List.range'_succ]
theorem PoolApart_ok {bl : Int} (hb : 0 ≤ bl ∧ bl ≤ 255) (hz : RdI h0.size h0 .i64 ws zs) : N_signalboxlaw36_PoolApart bl ws h0 (PFin h0) := by
  have hln := hz.n
  apply S_signalboxlaw36_PoolApart
  unfold B_signalboxlaw36_PoolApart
  rw [mBind_ap]
  refine (fixed36_s (Sep.init h0)).mono ?_
  rintro v h1 ⟨rfl, hs⟩
  (simp only [unB_bool, Bool.not_true, mIf_false])
  refine mIf_dec (fun hc => ?_) (fun hc => ?_)
  · exact ⟨rfl, hs.under⟩
  rw [wrap64 _ (by omega), mBind_ap]
  obtain ⟨n, rfl⟩ : ∃ n : Nat, bl = n := ⟨bl.toNat, by omega⟩
  refine (New_s hs (by omega)).mono ?_
  rintro v h2 ⟨b, rfl, hs⟩
  (simp only [unP_pointer])
  refine hs.mapNew .i64 fun r h3 hs => ?_
  have loop : ∀ (d i : Nat) (h3 : Hp) (tk : List Bool) (ow : List Int) (low : Int) (f : Int → Option Value) (m : Nat), i + d = zs.length → (∀ j : Int, (f j).isSome = true → j < i) →
      Sep h0 h3 [aMap r .i64 f m, aPool b n (List.range' i (n - i)) tk ow low] → K_signalboxlaw36_PoolApart_8 (n : Int) ws (some ⟨b, 0, none⟩) (some r) ws (ws.n : Int) (i : Int) h3 (PFin h0) := by
    intro d
    induction d with
    | zero =>
      intro i h3 tk ow low f m hi hf hs
      apply S_signalboxlaw36_PoolApart_8
      unfold B_signalboxlaw36_PoolApart_8
      (simp only [mNilM_some]; rw [decide_eq_false (by omega), mIf_false]; simp only [mBind_ap])
      refine (Free_s hs.swap).mono ?_
      rintro v h4 ⟨rfl, hs⟩
      (simp only [unI_int])
      refine ⟨?_, hs.under⟩
      rw [wrap64 n (by omega), wrap64 _ (by omega), List.length_range']
      congr 1
      simp only [beq_iff_eq]
      split <;> omega
    | succ d ih =>
      intro i h3 tk ow low f m hi hf hs
      apply S_signalboxlaw36_PoolApart_8
      unfold B_signalboxlaw36_PoolApart_8
      (simp only [mNilM_some]; rw [decide_eq_true (by omega), mIf_true]; refine Sep.argIn hs hz (by first | omega | (simp only [List.length_set, List.length_map, List.length_replicate, List.length_append, List.length_cons, List.length_nil, List.length_reverse, List.length_range]; omega) | (simp; omega)) ?_; simp only [mBind_ap])
      by_cases hin : i < n
      · rw [range_cons hin] at hs
        refine (Get_s hs.swap (by omega) _).mono ?_
        rintro v h4 ⟨rfl, hs⟩
        have hs := hs.swap
        (simp only [un2_tuple, unI_int])
        rw [wrap64 n (by omega)]
        (rw [decide_eq_false (by omega), mIf_false]; simp only [Bool.or_false, mBind_ap])
        refine mIf_neg (by simp) ?_
        (refine Sep.mapGet hs 0 rfl ?_)
        have hfi : f (i : Int) = none := by
          cases hfi : f (i : Int) with
          | none => rfl
          | some v => have := hf i (by rw [hfi]; rfl); omega
        rw [hfi]
        (simp only [Option.getD_none, unB_bool]; rw [mRet_ap]; simp only [mIf_false]; (refine Sep.mapSet hs 0 rfl fun h hs => ?_; simp only [List.set_cons_zero, List.set_cons_succ] at hs))
        rw [wrap64 _ (by omega), show (i : Int) + 1 = ((i + 1 : Nat) : Int) by omega]
        refine ih (i + 1) h _ _ _ _ _ (by omega) (fun j hj => ?_) hs
        by_cases hji : j = i
        · omega
        · simp only [hji, if_false] at hj
          have := hf j hj
          omega
      · rw [show n - i = 0 by omega] at hs
        refine (Get_none hs.swap _).mono ?_
        rintro v h4 ⟨rfl, hs⟩
        have hs := hs.swap
        (simp only [un2_tuple, unI_int])
        rw [wrap64 n (by omega)]
        (rw [decide_eq_true (by omega), mIf_true])
        refine mIf_neg (by decide) ?_
        rw [wrap64 _ (by omega), show (i : Int) + 1 = ((i + 1 : Nat) : Int) by omega]
        refine ih (i + 1) h4 tk ow low f m (by omega) (fun j hj => by have := hf j hj; omega) ?_
        rw [show n - (i + 1) = 0 by omega]
        exact hs
  refine loop zs.length 0 h3 (List.replicate n false) (List.replicate n 0) n (fun _ => none) 0 (by omega) (by simp) ?_
  rw [Nat.sub_zero, ← List.range_eq_range']
  exact hs
end apart
end Go.Proofs.Ytkoenpliddhhoaa
