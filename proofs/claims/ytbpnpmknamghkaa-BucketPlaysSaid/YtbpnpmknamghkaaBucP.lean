/- Buckets: the laws BucketBound and BucketPlays. Conditions: none. -/
import Derived.Test.YtbpnpmknamghkaaBucQ
import Derived.Test.YtbpnpmknamghkaaSbW
namespace Go.Proofs.Ytbpnpmknamghkaa
open Go Go.Sb
set_option linter.unusedSimpArgs false
set_option linter.unusedVariables false
theorem kb_zero {room rate g i k : Int} (hr : 0 ≤ room) (hik : 0 ≤ i ∧ i ≤ k) : KB room rate g i k 0 0 0 0 0 room :=
  ⟨by omega, by omega, fun _ => rfl, fun h => by omega, fun h => by omega⟩
theorem BucketBound_ok {h0 : Hp} {ls : Sl} {l : List KAct} {room rate gap fr to : Int} (hr : 0 ≤ room ∧ room ≤ 65535) (hra : 0 ≤ rate ∧ rate ≤ 65535) (hg : 0 ≤ gap ∧ gap ≤ 65535) (hl : RdE h0.size h0 KAct.enc 3 ls l) (hlo : ∀ x ∈ l, x.ok h0) (hf : 0 ≤ fr ∧ fr ≤ 255) (ht : 0 ≤ to ∧ to ≤ 255) :
    N_signalboxlaw42_BucketBound room rate gap ls fr to h0 (KFin h0) := by
  have hs := Sep.init h0
  have hln := hl.n
  apply S_signalboxlaw42_BucketBound
  unfold B_signalboxlaw42_BucketBound
  rw [mBind_ap]
  refine (kfixed_s hs).mono ?_
  rintro v h ⟨rfl, hs⟩
  simp only [unB_bool]
  refine mIf_neg (by simp) ?_
  refine mIf_dec (fun hc => ⟨rfl, hs.under⟩) (fun hc => ?_)
  refine ⟨by omega, ?_⟩
  rw [Int.tmod_eq_emod_of_nonneg (by omega), wrapu64 (gap % 500) (by omega), wrapu64 (gap % 500 + 1) (by omega), wrapu64 room (by omega), wrapu64 rate (by omega)]
  rw [mBind_ap]
  refine (New_s hs (by omega) (by omega)).mono ?_
  rintro v h ⟨b, rfl, hs⟩
  simp only [unP_pointer]
  rw [wrap64 _ (by omega), wrap64 _ (by omega)]
  exact bb10 hl hlo (by omega) hr hra (by omega) (by omega) l.length 0 h 0 0 0 0 room (by omega) (kb_zero hr.1 (by omega)) hs
theorem div_of {x g q : Int} (hg : 0 < g) (h1 : q * g ≤ x) (h2 : x < (q + 1) * g) : x / g = q := by
  have a := (Int.le_ediv_iff_mul_le hg).2 h1
  have b := (Int.ediv_lt_iff_lt_mul hg).2 h2
  omega
theorem div_succ {x g : Int} (hg : 1 ≤ g) : (x + 1) / g - x / g = if (x + 1) % g = 0 then 1 else 0 := by
  have e := Int.mul_ediv_add_emod x g
  have l := Int.emod_lt_of_pos x (show 0 < g by omega)
  have n := Int.emod_nonneg x (show g ≠ 0 by omega)
  have e' := Int.mul_ediv_add_emod (x + 1) g
  have m : (x / g + 1) * g = g * (x / g) + g := by rw [Int.add_mul, Int.one_mul, Int.mul_comm]
  have m1 : (x / g) * g = g * (x / g) := Int.mul_comm _ _
  by_cases hc : x % g + 1 = g
  · have hq : (x + 1) / g = x / g + 1 := div_of (by omega) (by omega) (by rw [Int.add_mul, Int.one_mul]; omega)
    rw [hq] at e' ⊢
    have : g * (x / g + 1) = (x / g + 1) * g := Int.mul_comm _ _
    rw [if_pos (by omega)]
    omega
  · have hq : (x + 1) / g = x / g := div_of (by omega) (by omega) (by omega)
    rw [hq] at e' ⊢
    rw [if_neg (by omega)]
    omega
section
variable {h0 h : Hp} {R : List As} {b : Nat} {room rate gap has now : Int}
theorem hasAt_step (hk : KOk room rate gap has now) {t : Int} (ht : now < t) : hasAt room rate gap (hasAt room rate gap has now (now + 1)) (now + 1) t = hasAt room rate gap has now t := by
  have h1 := hk.hv; have h2 := hk.rm; have h3 := hk.ra; have h4 := hk.ga; have h5 := hk.nw
  unfold hasAt
  have b1 := times_b h4.1 h5.1 (t := now + 1) (by omega)
  rw [if_neg (show ¬ now + 1 ≤ now by omega), if_neg (show ¬ t ≤ now by omega)]
  by_cases hc : t ≤ now + 1
  · rw [if_pos hc, show t = now + 1 by omega]
  · rw [if_neg hc]
    have b2 := times_b (now := now + 1) h4.1 (by omega) (t := t) (by omega)
    have e : (t / gap - now / gap) * rate = (t / gap - (now + 1) / gap) * rate + ((now + 1) / gap - now / gap) * rate := by
      rw [← Int.add_mul]; congr 1; omega
    have m1 := Int.mul_nonneg (show 0 ≤ t / gap - (now + 1) / gap by omega) h3.1
    have m2 := Int.mul_nonneg (show 0 ≤ (now + 1) / gap - now / gap by omega) h3.1
    omega
theorem hasAt_ok (hk : KOk room rate gap has now) {t : Int} (ht : U t) : KOk room rate gap (hasAt room rate gap has now t) (max now t) :=
  ⟨hk.rm, hk.ra, hk.ga, hasAt_b hk, by have := hk.nw; have := ht.1; have := ht.2; omega⟩
theorem go0 : ∀ (d : Nat) (h : Hp) (has now t : Int), Sep h0 h (aBlk b (bkE room rate gap has now) :: R) → KOk room rate gap has now → t ≤ 18446744073709551615 → t ≤ now + d → now ≤ max now t →
    K_signalboxref42_Bucket_Go_0 (some ⟨b, 0, none⟩) t h (fun v h' => v = .tuple #[] ∧ Sep h0 h' (aBlk b (bkE room rate gap (hasAt room rate gap has now t) (max now t)) :: R))
  | 0, h, has, now, t, hs, hk, ht, hd, _ => by
    apply S_signalboxref42_Bucket_Go_0
    unfold B_signalboxref42_Bucket_Go_0
    (simp only [mNil_some, add_mk, Nat.zero_add]; refine Sep.ldI hs 0 rfl rfl ?_; rw [decide_eq_false (by omega), mIf_false])
    rw [show hasAt room rate gap has now t = has by unfold hasAt; rw [if_pos (by omega)], show max now t = now by omega]
    exact ⟨rfl, hs⟩
  | d + 1, h, has, now, t, hs, hk, ht, hd, _ => by
    have ih := go0 d
    have h1 := hk.hv; have h2 := hk.rm; have h3 := hk.ra; have h4 := hk.ga; have h5 := hk.nw
    apply S_signalboxref42_Bucket_Go_0
    unfold B_signalboxref42_Bucket_Go_0
    (simp only [mNil_some, add_mk, Nat.zero_add]; refine Sep.ldI hs 0 rfl rfl ?_)
    refine mIf_dec (fun hc => ?_) (fun hc => ?_)
    · have next : ∀ h has', has' = hasAt room rate gap has now (now + 1) → Sep h0 h (aBlk b (bkE room rate gap has' (now + 1)) :: R) → K_signalboxref42_Bucket_Go_0 (some ⟨b, 0, none⟩) t h (fun v h' => v = .tuple #[] ∧ Sep h0 h' (aBlk b (bkE room rate gap (hasAt room rate gap has now t) (max now t)) :: R)) := by
        intro h has' he hs
        have := hasAt_ok hk (t := now + 1) ⟨by omega, by omega⟩
        rw [← he, show max now (now + 1) = now + 1 by omega] at this
        refine (ih h has' (now + 1) t hs this ht (by omega) (by omega)).mono ?_
        rintro v h' ⟨rfl, hs⟩
        rw [he, hasAt_step hk (by omega), show max (now + 1) t = max now t by omega] at hs
        exact ⟨rfl, hs⟩
      have hv : hasAt room rate gap has now (now + 1) = if (now + 1) % gap = 0 then min (has + rate) room else has := by
        unfold hasAt
        rw [if_neg (by omega), div_succ h4.1]
        by_cases hm : (now + 1) % gap = 0
        · rw [if_pos hm, if_pos hm]; omega
        · rw [if_neg hm, if_neg hm]; omega
      (refine Sep.ldI hs 0 rfl rfl ?_; (refine Sep.st hs 0 rfl rfl rfl fun h hs => ?_; simp only [List.set_cons_zero, List.set_cons_succ] at hs); refine Sep.ldI hs 0 rfl rfl ?_; refine Sep.ldI hs 0 rfl rfl ?_)
      refine ⟨by omega, ?_⟩
      rw [wrapu64 (now + 1) (by omega)] at hs ⊢
      rw [Int.tmod_eq_emod_of_nonneg (by omega)]
      refine mIf_intro (fun hc2 => ?_) (fun hc2 => ?_)
      · rw [if_pos (by simpa using hc2)] at hv
        (refine Sep.ldI hs 0 rfl rfl ?_; refine Sep.ldI hs 0 rfl rfl ?_; refine Sep.ldI hs 0 rfl rfl ?_)
        rw [wrapu64 (room - has) (by omega)]
        refine mIf_dec (fun hc3 => ?_) (fun hc3 => ?_)
        · (refine Sep.ldI hs 0 rfl rfl ?_; (refine Sep.st hs 0 rfl rfl rfl fun h hs => ?_; simp only [List.set_cons_zero, List.set_cons_succ] at hs))
          exact next _ _ (by rw [hv]; omega) hs
        · (refine Sep.ldI hs 0 rfl rfl ?_; refine Sep.ldI hs 0 rfl rfl ?_; (refine Sep.st hs 0 rfl rfl rfl fun h hs => ?_; simp only [List.set_cons_zero, List.set_cons_succ] at hs))
          rw [wrapu64 (has + rate) (by omega)] at hs
          exact next _ _ (by rw [hv]; omega) hs
      · rw [if_neg (by simpa using hc2)] at hv
        (skip)
        exact next _ _ hv.symm hs
    · rw [show hasAt room rate gap has now t = has by unfold hasAt; rw [if_pos (by omega)], show max now t = now by omega]
      exact ⟨rfl, hs⟩
theorem Go_s (hs : Sep h0 h (aBlk b (bkE room rate gap has now) :: R)) (hk : KOk room rate gap has now) {t : Int} (ht : U t) :
    N_signalboxref42_Bucket_Go (some ⟨b, 0, none⟩) t h (fun v h' => v = .tuple #[] ∧ Sep h0 h' (aBlk b (bkE room rate gap (hasAt room rate gap has now t) (max now t)) :: R)) := by
  apply S_signalboxref42_Bucket_Go
  have := hk.nw
  have h2 := ht.2
  exact go0 t.toNat h has now t hs hk ht.2 (by have := ht.1; omega) (by omega)
theorem when_law (hk : KOk room rate gap has now) {n : Int} (hn : n ≤ room) (hh : ¬ n ≤ has) (hr : rate ≠ 0) :
    (whenB room rate gap has now n).2 = false ∧ (whenB room rate gap has now n).1 = 0 ∨
    ((whenB room rate gap has now n).2 = true ∧ U (whenB room rate gap has now n).1 ∧ now < (whenB room rate gap has now n).1 ∧
      hasAt room rate gap has now ((whenB room rate gap has now n).1 - 1) < n ∧ n ≤ hasAt room rate gap has now ((whenB room rate gap has now n).1)) := by
  have h1 := hk.hv; have h2 := hk.rm; have h3 := hk.ra; have h4 := hk.ga; have h5 := hk.nw
  have hb := times_b h4.1 h5.1 (Int.le_refl now)
  unfold whenB
  rw [if_neg (by omega), if_neg hh, if_neg hr]
  have hc : ceilV (n - has) rate = (n - has - 1) / rate + 1 := by
    unfold ceilV
    rw [if_neg (by omega), if_neg (by omega)]
  have c1 := Int.ediv_mul_le (n - has - 1) (show rate ≠ 0 by omega)
  have c2 := Int.lt_ediv_add_one_mul_self (n - has - 1) (show 0 < rate by omega)
  have c0 := Int.ediv_nonneg (show 0 ≤ n - has - 1 by omega) (show 0 ≤ rate by omega)
  rw [← hc] at c2
  have c1' : (ceilV (n - has) rate - 1) * rate ≤ n - has - 1 := by rw [hc, Int.add_sub_cancel]; exact c1
  have c0' : 1 ≤ ceilV (n - has) rate := by omega
  generalize ceilV (n - has) rate = c at *
  have n1 := Int.lt_ediv_add_one_mul_self now (show 0 < gap by omega)
  by_cases hm : satM (satA (now / gap) c) gap = 18446744073709551615
  · rw [if_pos hm]; exact .inl ⟨rfl, rfl⟩
  · rw [if_neg hm]
    right
    have hA : satA (now / gap) c = now / gap + c := by
      unfold satA satM at *
      by_cases hs : now / gap + c ≤ 18446744073709551615
      · omega
      · exfalso
        rw [show min (now / gap + c) 18446744073709551615 = 18446744073709551615 by omega] at hm
        have := Int.mul_le_mul_of_nonneg_left h4.1 (show (0 : Int) ≤ 18446744073709551615 by omega)
        omega
    rw [hA] at hm ⊢
    have hM : satM (now / gap + c) gap = (now / gap + c) * gap := by
      unfold satM at *
      omega
    have hM' : (now / gap + c) * gap < 18446744073709551615 := by
      unfold satM at *
      omega
    rw [hM]
    have l1 := Int.mul_le_mul_of_nonneg_right (show now / gap + 1 ≤ now / gap + c by omega) (show 0 ≤ gap by omega)
    have hd1 : (now / gap + c) * gap / gap = now / gap + c := Int.mul_ediv_cancel _ (by omega)
    have hd2 : ((now / gap + c) * gap - 1) / gap = now / gap + c - 1 := div_of (by omega) (by rw [Int.sub_mul, Int.one_mul]; omega) (by rw [Int.sub_add_cancel]; omega)
    have hnv : now < (now / gap + c) * gap := by omega
    refine ⟨rfl, ⟨by show 0 ≤ _; omega, by show _ ≤ _; omega⟩, hnv, ?_, ?_⟩
    · show hasAt room rate gap has now ((now / gap + c) * gap - 1) < n
      unfold hasAt
      split
      · omega
      · rw [hd2, show now / gap + c - 1 - now / gap = c - 1 by omega]
        omega
    · show n ≤ hasAt room rate gap has now ((now / gap + c) * gap)
      unfold hasAt
      rw [if_neg (by omega), hd1, show now / gap + c - now / gap = c by omega]
      omega
end
end Go.Proofs.Ytbpnpmknamghkaa
