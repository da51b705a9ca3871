/- Buckets: the law BucketPlays. Conditions: none. -/
import Derived.Test.YtbpnpmknamghkaaBucP
import Derived.Test.YtbpnpmknamghkaaSbW
namespace Go.Proofs.Ytbpnpmknamghkaa
open Go Go.Sb
set_option linter.unusedSimpArgs false
set_option linter.unusedVariables false
theorem When_nil (h : Hp) (n : Int) : N_bucket_Bucket_When none n h (fun v h' => v = .tuple #[.int .u64 0, .bool false] ∧ h' = h) := by
  apply S_bucket_Bucket_When
  unfold B_bucket_Bucket_When
  simp
theorem Take_nil (h : Hp) (t n : Int) : N_bucket_Bucket_Take none t n h (fun v h' => v = .bool false ∧ h' = h) := by
  apply S_bucket_Bucket_Take
  unfold B_bucket_Bucket_Take
  simp
theorem Now_nil (h : Hp) : N_bucket_Bucket_Now none h (fun v h' => v = .int .u64 0 ∧ h' = h) := by
  apply S_bucket_Bucket_Now
  unfold B_bucket_Bucket_Now
  simp
section
variable {h0 : Hp} {ls : Sl} {l : List KAct} {b rb : Nat} {room rate gap n : Int}
theorem hasAt_zero {has now : Int} (h : 0 ≤ now) : hasAt room rate gap has now 0 = has := by
  unfold hasAt; rw [if_pos h]
theorem hasAt_comp {has now s t : Int} (hk : KOk room rate gap has now) (h1 : now ≤ s) (h2 : s ≤ t) : hasAt room rate gap (hasAt room rate gap has now s) s t = hasAt room rate gap has now t := by
  have q1 := hk.hv; have q2 := hk.rm; have q3 := hk.ra; have q4 := hk.ga; have q5 := hk.nw
  by_cases e1 : s ≤ now
  · rw [show s = now by omega]
    congr 1
    unfold hasAt; rw [if_pos (by omega)]
  unfold hasAt
  have b1 := times_b q4.1 q5.1 h1
  rw [if_neg e1, if_neg (show ¬ t ≤ now by omega)]
  by_cases hc : t ≤ s
  · rw [if_pos hc, show t = s by omega]
  · rw [if_neg hc]
    have b2 := times_b (now := s) q4.1 (by omega) (t := t) (by omega)
    have e : (t / gap - now / gap) * rate = (t / gap - s / gap) * rate + (s / gap - now / gap) * rate := by
      rw [← Int.add_mul]; congr 1; omega
    have m1 := Int.mul_nonneg (show 0 ≤ t / gap - s / gap by omega) q3.1
    have m2 := Int.mul_nonneg (show 0 ≤ s / gap - now / gap by omega) q3.1
    omega
theorem bp24 {R : List As} {has now : Int} {k : Nat} (ho : KOk room rate gap has now)
    (next : ∀ h, Sep h0 h (aBlk b (bkE room rate gap has now) :: aBlk rb (bkE room rate gap has now) :: R) → K_signalboxlaw42_BucketPlays_12 room rate n (some ⟨b, 0, none⟩) ⟨rb, 0, none⟩ now ls (ls.n : Int) (IntKind.i64.wrap ((k : Int) + 1)) h (KFin h0)) (h : Hp)
    (hs : Sep h0 h (aBlk b (bkE room rate gap has now) :: aBlk rb (bkE room rate gap has now) :: R)) :
    K_signalboxlaw42_BucketPlays_24 room rate n (some ⟨b, 0, none⟩) ⟨rb, 0, none⟩ now ls (ls.n : Int) (k : Int) h (KFin h0) := by
  have q5 := ho.nw
  have e1 : hasAt room rate gap has now 0 = has := hasAt_zero q5.1
  have e2 : max now 0 = now := by omega
  have HH := fun (h : Hp) (hs : Sep h0 h (aBlk b (bkE room rate gap has now) :: aBlk rb (bkE room rate gap has now) :: R)) => Has_s hs ho (t := 0) ⟨by omega, by omega⟩
  apply S_signalboxlaw42_BucketPlays_24
  unfold B_signalboxlaw42_BucketPlays_24
  refine mAnd_intro ?_ ?_
  · rw [mBind_ap]
    refine (Now_s hs).mono ?_
    rintro v h' ⟨rfl, rfl⟩
    simp only [unI_int]
    (refine Sep.ldI hs 1 rfl rfl ?_; simp only [add_mk, Nat.zero_add])
    refine mIf_neg (by simp) ?_
    refine mAnd_intro ?_ ?_
    · rw [mBind_ap]
      refine (HH _ hs).mono ?_
      rintro v h ⟨rfl, hs⟩
      simp only [unI_int]
      (refine Sep.ldI hs 1 rfl rfl ?_)
      rw [e1, e2] at hs
      refine mIf_neg (by simp [e1]) ?_
      exact next h hs
    · (refine Sep.ldI hs 1 rfl rfl ?_; simp only [mBind_ap])
      refine (HH _ hs).mono ?_
      rintro v h ⟨rfl, hs⟩
      simp only [unI_int]
      rw [e1, e2] at hs
      refine mIf_neg (by simp [e1]) ?_
      exact next h hs
  · (refine Sep.ldI hs 1 rfl rfl ?_; simp only [add_mk, Nat.zero_add, mBind_ap])
    refine (Now_s hs).mono ?_
    rintro v h' ⟨rfl, rfl⟩
    simp only [unI_int]
    refine mIf_neg (by simp) ?_
    refine mAnd_intro ?_ ?_
    · rw [mBind_ap]
      refine (HH _ hs).mono ?_
      rintro v h ⟨rfl, hs⟩
      simp only [unI_int]
      (refine Sep.ldI hs 1 rfl rfl ?_)
      rw [e1, e2] at hs
      refine mIf_neg (by simp [e1]) ?_
      exact next h hs
    · (refine Sep.ldI hs 1 rfl rfl ?_; simp only [mBind_ap])
      refine (HH _ hs).mono ?_
      rintro v h ⟨rfl, hs⟩
      simp only [unI_int]
      rw [e1, e2] at hs
      refine mIf_neg (by simp [e1]) ?_
      exact next h hs
theorem bp12 (hl : RdE h0.size h0 KAct.enc 3 ls l) (hlo : ∀ x ∈ l, x.ok h0) (hlen : l.length ≤ 40) (hn : U n) : ∀ (d k : Nat) (h : Hp) (has now : Int), k + d = l.length → KOk room rate gap has now → now ≤ 300 * k → Sep h0 h [aBlk b (bkE room rate gap has now), aBlk rb (bkE room rate gap has now)] →
    K_signalboxlaw42_BucketPlays_12 room rate n (some ⟨b, 0, none⟩) ⟨rb, 0, none⟩ now ls (ls.n : Int) (k : Int) h (KFin h0)
  | 0, k, h, has, now, hk, ho, hnow, hs => by
    have hln := hl.n
    have h1 := ho.hv; have h2 := ho.rm; have h3 := ho.ra; have h4 := ho.ga; have h5 := ho.nw
    have n0 := hn.1; have n1 := hn.2
    apply S_signalboxlaw42_BucketPlays_12
    unfold B_signalboxlaw42_BucketPlays_12
    refine mIf_neg (by simp; omega) ?_
    rw [mBind_ap]
    refine (When_s hs ho hn).mono ?_
    rintro v h' ⟨rfl, rfl⟩
    simp only [un2_tuple, unI_int, unB_bool]
    (refine Sep.ldI hs 1 rfl rfl ?_; simp only [add_mk, Nat.zero_add])
    refine mIf_dec (fun hc => ?_) (fun hc => ?_)
    · have hw : whenB room rate gap has now n = (now, true) := by
        unfold whenB
        rw [if_neg (by omega), if_pos hc]
      rw [hw]
      (simp only [mIf_true, mBind_ap]; refine Sep.ldI hs 1 rfl rfl ?_; rw [mRet_ap])
      exact ⟨by simp, hs.under⟩
    · refine mIf_intro (fun hc2 => ?_) (fun hc2 => ?_)
      · have hw : whenB room rate gap has now n = (0, false) := by
          unfold whenB
          by_cases hnr : n > room
          · rw [if_pos hnr]
          · rw [if_neg hnr, if_neg hc, if_pos (by simpa [hnr] using hc2)]
        rw [hw]
        exact ⟨rfl, hs.under⟩
      · have hnr : ¬ n > room := fun hh => by simp [hh] at hc2
        have hr0 : rate ≠ 0 := fun hh => by simp [hh] at hc2
        rcases when_law ho (n := n) (by omega) hc hr0 with ⟨w2, w1⟩ | ⟨w2, w1, w3, w4, w5⟩
        · rw [w1, w2]
          exact ⟨rfl, hs.under⟩
        · rw [w2]
          generalize (whenB room rate gap has now n).1 = v at w1 w3 w4 w5 ⊢
          have v1 := w1.1; have v2 := w1.2
          refine mIf_neg rfl ?_
          (refine Sep.ldI hs 1 rfl rfl ?_; simp only [mBind_ap]; rw [decide_eq_false (by omega), mIf_false]; refine Sep.ldI hs 1 rfl rfl ?_; rw [mRet_ap])
          refine mIf_dec (fun hc3 => ?_) (fun hc3 => ?_)
          · (refine Sep.ldI hs 1 rfl rfl ?_)
            exact ⟨by simp; omega, hs.under⟩
          · rw [wrapu64 (v - 1) (by omega)]
            have hs2 : Sep h0 h' [aBlk rb (bkE room rate gap has now), aBlk b (bkE room rate gap has now)] := hs.re [1, 0] rfl
            rw [mBind_ap]
            refine (Go_s hs2 ho (t := v - 1) ⟨by omega, by omega⟩).mono ?_
            rintro v' h ⟨rfl, hs⟩
            have ho2 := hasAt_ok ho (t := v - 1) ⟨by omega, by omega⟩
            (refine Sep.ldI hs 0 rfl rfl ?_; simp only [mBind_ap])
            refine (Go_s hs ho2 (t := v) ⟨by omega, by omega⟩).mono ?_
            rintro v' h ⟨rfl, hs⟩
            rw [show max now (v - 1) = v - 1 by omega] at hs
            rw [hasAt_comp ho (by omega) (by omega)] at hs
            rw [show max (v - 1) v = v by omega] at hs
            (skip)
            refine mIf_pos (by simp; omega) ?_
            (refine Sep.ldI hs 0 rfl rfl ?_; rw [mRet_ap])
            exact ⟨by simp; omega, hs.under⟩
  | d + 1, k, h, has, now, hk, ho, hnow, hs => by
    have ih := bp12 hl hlo hlen hn d (k + 1)
    have hln := hl.n
    have h1 := ho.hv; have h2 := ho.rm; have h3 := ho.ra; have h4 := ho.ga; have h5 := ho.nw
    have n0 := hn.1; have n1 := hn.2
    have hnl : k < l.length := by omega
    have hla := hlo l[k] (List.getElem_mem _)
    have b1 := hla.1.1
    have b2 := hla.1.2
    have b3 := hla.2.1
    have b4 := hla.2.2
    apply S_signalboxlaw42_BucketPlays_12
    unfold B_signalboxlaw42_BucketPlays_12
    refine mIf_pos (by simp; omega) ?_
    (refine Sep.argEn hs hl (by first | omega | (simp only [List.length_set, List.length_map, List.length_replicate, List.length_append, List.length_cons, List.length_nil, List.length_reverse, List.length_range]; omega) | (simp; omega)) fun aa haa => ?_; refine Arg.ldI0 haa rfl ?_; refine Arg.ldI haa rfl ?_; refine Arg.ldB haa rfl ?_; (refine Sep.new hs fun nb h hs => ?_; try simp only [List.toList_toArray] at hs); (refine Sep.st hs 0 rfl rfl rfl fun h hs => ?_; simp only [List.set_cons_zero, List.set_cons_succ] at hs); (refine Sep.st hs 0 rfl rfl rfl fun h hs => ?_; simp only [List.set_cons_zero, List.set_cons_succ] at hs); (refine Sep.st hs 0 rfl rfl rfl fun h hs => ?_; simp only [List.set_cons_zero, List.set_cons_succ] at hs); refine Sep.ldI hs 0 rfl rfl ?_; simp only [add_mk, Nat.zero_add])
    generalize l[k] = a at hs hla b1 b2 b3 b4 ⊢
    have ht0 : 0 ≤ a.later % 300 ∧ a.later % 300 ≤ 299 := by omega
    refine ⟨by omega, ?_⟩
    rw [Int.tmod_eq_emod_of_nonneg b1, wrapu64 (a.later % 300) (by omega), wrapu64 (now + a.later % 300) (by omega)]
    have hT : U (now + a.later % 300) := ⟨by omega, by omega⟩
    have hmx : max now (now + a.later % 300) = now + a.later % 300 := by omega
    have hs2 : Sep h0 h [aBlk rb (bkE room rate gap has now), aBlk b (bkE room rate gap has now), aBlk nb (KAct.enc a)] := hs.re [2, 1, 0] rfl
    rw [mBind_ap]
    refine (Go_s hs2 ho hT).mono ?_
    rintro v h ⟨rfl, hs⟩
    have ho2 := hasAt_ok ho hT
    have hbd := hasAt_b ho (t := now + a.later % 300)
    rw [hmx] at hs ho2
    generalize hT2 : now + a.later % 300 = t at *
    have hiw : IntKind.i64.wrap ((k : Int) + 1) = ((k + 1 : Nat) : Int) := by
      rw [wrap64 _ (by omega)]; omega
    have next : ∀ has', KOk room rate gap has' t → ∀ h, Sep h0 h [aBlk b (bkE room rate gap has' t), aBlk rb (bkE room rate gap has' t), aBlk nb (KAct.enc a)] → K_signalboxlaw42_BucketPlays_12 room rate n (some ⟨b, 0, none⟩) ⟨rb, 0, none⟩ t ls (ls.n : Int) (IntKind.i64.wrap ((k : Int) + 1)) h (KFin h0) := by
      intro has' ho' h hs
      rw [hiw]
      exact ih h has' t (by omega) ho' (by omega) ((hs.re [2, 0, 1] rfl : Sep h0 h [aBlk nb (KAct.enc a), aBlk b (bkE room rate gap has' t), aBlk rb (bkE room rate gap has' t)]).drop)
    have hs3 : Sep h0 h [aBlk b (bkE room rate gap has now), aBlk rb (bkE room rate gap (hasAt room rate gap has now t) t), aBlk nb (KAct.enc a)] := hs.re [1, 0, 2] rfl
    have tk : ∀ h' : Hp, Sep h0 h' [aBlk b (bkE room rate gap has now), aBlk rb (bkE room rate gap (if a.n ≤ hasAt room rate gap has now t then hasAt room rate gap has now t - a.n else hasAt room rate gap has now t) t), aBlk nb (KAct.enc a)] →
        (mBind (N_bucket_Bucket_Take (some ⟨b, 0, none⟩) t a.n) fun r115 =>
        unB r115 fun (x115 : Bool) =>
        mIf (!(x115 == (decide (hasAt room rate gap has now t ≥ a.n)))) (
          mRet (.bool false)) (
          K_signalboxlaw42_BucketPlays_24 room rate n (some ⟨b, 0, none⟩) ⟨rb, 0, none⟩ t ls (ls.n : Int) (k : Int))) h' (KFin h0) := by
      intro h hs
      rw [mBind_ap]
      refine (Take_s hs ho hT ⟨b3, b4⟩).mono ?_
      rintro v h ⟨rfl, hs⟩
      simp only [unB_bool]
      rw [hmx] at hs
      refine mIf_neg (by simp) ?_
      refine bp24 ?_ (next _ ?_) h hs
      · exact ⟨ho.rm, ho.ra, ho.ga, by split <;> omega, ho2.nw⟩
      · exact ⟨ho.rm, ho.ra, ho.ga, by split <;> omega, ho2.nw⟩
    (refine Sep.ldB hs 2 rfl rfl ?_)
    refine mIf_intro (fun hc => ?_) (fun hc => ?_)
    · refine mAnd_intro ?_ ?_
      · rw [mBind_ap]
        refine (Has_s hs3 ho hT).mono ?_
        rintro v h ⟨rfl, hs⟩
        simp only [unI_int]
        rw [hmx] at hs
        (refine Sep.ldI hs 1 rfl rfl ?_)
        refine mIf_neg (by simp) ?_
        exact bp24 ho2 (next _ ho2) h hs
      · (refine Sep.ldI hs 0 rfl rfl ?_; simp only [mBind_ap])
        refine (Has_s hs3 ho hT).mono ?_
        rintro v h ⟨rfl, hs⟩
        simp only [unI_int]
        rw [hmx] at hs
        refine mIf_neg (by simp) ?_
        exact bp24 ho2 (next _ ho2) h hs
    · (refine Sep.ldI hs 0 rfl rfl ?_; refine Sep.ldI hs 2 rfl rfl ?_)
      refine mIf_dec (fun hc2 => ?_) (fun hc2 => ?_)
      · (refine Sep.ldI hs 0 rfl rfl ?_; refine Sep.ldI hs 2 rfl rfl ?_; (refine Sep.st hs 0 rfl rfl rfl fun h hs => ?_; simp only [List.set_cons_zero, List.set_cons_succ] at hs); refine Sep.ldI hs 2 rfl rfl ?_; simp only [mBind_ap])
        rw [wrapu64 (hasAt room rate gap has now t - a.n) (by omega)] at hs
        refine tk _ ?_
        rw [if_pos (by omega)]
        exact hs.re [1, 0, 2] rfl
      · (refine Sep.ldI hs 2 rfl rfl ?_; simp only [mBind_ap])
        refine tk _ ?_
        rw [if_neg (by omega)]
        exact hs3
theorem BucketPlays_ok (hr : U room) (hra : U rate) (hg : U gap) (hl : RdE h0.size h0 KAct.enc 3 ls l) (hlo : ∀ x ∈ l, x.ok h0) (hn : U n) :
    N_signalboxlaw42_BucketPlays room rate gap ls n h0 (KFin h0) := by
  have hs := Sep.init h0
  have hln := hl.n
  have r0 := hr.1; have r1 := hr.2; have g0 := hg.1; have g1 := hg.2
  apply S_signalboxlaw42_BucketPlays
  unfold B_signalboxlaw42_BucketPlays
  rw [mBind_ap]
  refine (kfixed_s hs).mono ?_
  rintro v h ⟨rfl, hs⟩
  simp only [unB_bool]
  refine mIf_neg (by simp) ?_
  refine mIf_dec (fun hc => ⟨rfl, hs.under⟩) (fun hc => ?_)
  rw [mBind_ap]
  by_cases hbad : gap = 0 ∨ room > 1099511627776
  · refine (New_bad _ hbad).mono ?_
    rintro v h ⟨rfl, rfl⟩
    simp only [unP_pointer]
    refine mIf_pos (by simpa using hbad) ?_
    rw [mBind_ap]
    refine (When_nil _ 0).mono ?_
    rintro v h ⟨rfl, rfl⟩
    (simp only [Option.isNone_none, mIf_true, un2_tuple, unB_bool, Bool.not_false, Bool.and_true, unI_int, mBind_ap])
    refine (Take_nil _ 0 0).mono ?_
    rintro v h ⟨rfl, rfl⟩
    (simp only [unB_bool, Bool.not_false]; rw [mRet_ap]; simp only [mIf_true, mBind_ap])
    refine (Has_nil _ 3).mono ?_
    rintro v h ⟨rfl, rfl⟩
    (simp only [unI_int]; rw [mRet_ap])
    refine mIf_pos rfl ?_
    rw [mBind_ap]
    refine (Now_nil _).mono ?_
    rintro v h ⟨rfl, rfl⟩
    (simp only [unI_int]; rw [mRet_ap])
    exact ⟨rfl, hs.under⟩
  · refine (New_s hs (fun h => hbad (.inl h)) (by omega)).mono ?_
    rintro v h ⟨b, rfl, hs⟩
    simp only [unP_pointer]
    refine mIf_neg (by simpa using hbad) ?_
    have ho : KOk room rate gap room 0 := ⟨by omega, hra, by omega, by omega, by omega⟩
    refine hs.new fun rb h hs => ?_
    exact bp12 hl hlo (by omega) hn l.length 0 h room 0 (by omega) ho (by omega) (hs.re [1, 0] rfl)
end
end Go.Proofs.Ytbpnpmknamghkaa
