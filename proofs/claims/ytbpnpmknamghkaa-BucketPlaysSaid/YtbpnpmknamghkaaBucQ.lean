/- Buckets: what each call answers, and the laws BucketPlays and BucketBound. Conditions: none. -/
import Derived.Test.YtbpnpmknamghkaaBucL
import Derived.Test.YtbpnpmknamghkaaBucA
import Derived.Test.YtbpnpmknamghkaaSbW
namespace Go.Proofs.Ytbpnpmknamghkaa
open Go Go.Sb
set_option linter.unusedSimpArgs false
set_option linter.unusedVariables false

abbrev KFin (h0 : Hp) : Value → Hp → Prop := fun v h' => v = .bool true ∧ Under h0.size h0 h'
abbrev bkE (room rate gap has now : Int) : List Value := [.int .u64 room, .int .u64 rate, .int .u64 gap, .int .u64 has, .int .u64 now]
/-- how many there are, at a later tick -/
def hasAt (room rate gap has now t : Int) : Int := if t ≤ now then has else min (has + (t / gap - now / gap) * rate) room
structure KOk (room rate gap has now : Int) : Prop where
  rm : 0 ≤ room ∧ room ≤ 1099511627776
  ra : 0 ≤ rate ∧ rate ≤ 18446744073709551615
  ga : 1 ≤ gap ∧ gap ≤ 18446744073709551615
  hv : 0 ≤ has ∧ has ≤ room
  nw : 0 ≤ now ∧ now ≤ 18446744073709551615
theorem times_b {gap now t : Int} (hg : 1 ≤ gap) (h0 : 0 ≤ now) (h : now ≤ t) : 0 ≤ now / gap ∧ now / gap ≤ t / gap ∧ t / gap ≤ t := by
  refine ⟨Int.ediv_nonneg h0 (by omega), Int.ediv_le_ediv (by omega) h, Int.ediv_le_self _ (by omega)⟩
theorem hasAt_b {room rate gap has now t : Int} (h : KOk room rate gap has now) : 0 ≤ hasAt room rate gap has now t ∧ hasAt room rate gap has now t ≤ room := by
  have h1 := h.hv; have h2 := h.rm; have h3 := h.ra
  unfold hasAt
  split
  · exact h1
  · have hb := times_b h.ga.1 h.nw.1 (t := t) (by omega)
    have := Int.mul_nonneg (show 0 ≤ t / gap - now / gap by omega) h3.1
    omega
section
variable {h0 h : Hp} {R : List As} {b : Nat} {room rate gap has now : Int}
theorem pass_s (hs : Sep h0 h (aBlk b (bkE room rate gap has now) :: R)) (hk : KOk room rate gap has now) {t : Int} (ht : U t) :
    N_bucket_Bucket_pass (some ⟨b, 0, none⟩) t h (fun _ h' => Sep h0 h' (aBlk b (bkE room rate gap (hasAt room rate gap has now t) (max now t)) :: R)) := by
  have h1 := hk.hv; have h2 := hk.rm; have h3 := hk.ra; have h4 := hk.ga; have h5 := hk.nw; have t0 := ht.1; have t1 := ht.2
  apply S_bucket_Bucket_pass
  unfold B_bucket_Bucket_pass hasAt
  (simp only [mNil_some, add_mk, Nat.zero_add]; refine Sep.ldI hs 0 rfl rfl ?_)
  refine mIf_dec (fun hc => ?_) (fun hc => ?_)
  · rw [if_pos hc, show max now t = now by omega]
    exact hs
  · rw [if_neg hc, show max now t = t by omega]
    have hb := times_b h4.1 h5.1 (t := t) (by omega)
    (refine Sep.ldI hs 0 rfl rfl ?_)
    refine ⟨by omega, ?_⟩
    (refine Sep.ldI hs 0 rfl rfl ?_; refine Sep.ldI hs 0 rfl rfl ?_)
    refine ⟨by omega, ?_⟩
    ((refine Sep.st hs 0 rfl rfl rfl fun h hs => ?_; simp only [List.set_cons_zero, List.set_cons_succ] at hs); refine Sep.ldI hs 0 rfl rfl ?_; refine Sep.ldI hs 0 rfl rfl ?_)
    rw [Int.tdiv_eq_ediv_of_nonneg t0, Int.tdiv_eq_ediv_of_nonneg h5.1, wrapu64 (t / gap) (by omega), wrapu64 (now / gap) (by omega), wrapu64 (t / gap - now / gap) (by omega)]
    have hm := Int.mul_nonneg (show 0 ≤ t / gap - now / gap by omega) h3.1
    have hmu := satM_U (a := t / gap - now / gap) (b := rate) ⟨by omega, by omega⟩ ⟨h3.1, h3.2⟩
    refine mQ_intro _ (Mul_s ⟨by omega, by omega⟩ ⟨h3.1, h3.2⟩) ?_
    (simp only [unI_int])
    refine mQ_intro _ (Add_s ⟨by omega, by omega⟩ hmu) ?_
    (simp only [unI_int]; refine Sep.ldI hs 0 rfl rfl ?_; (refine Sep.st hs 0 rfl rfl rfl fun h hs => ?_; simp only [List.set_cons_zero, List.set_cons_succ] at hs))
    have e : (if room < satA has (satM (t / gap - now / gap) rate) then room else satA has (satM (t / gap - now / gap) rate)) = min (has + (t / gap - now / gap) * rate) room := by
      unfold satA satM
      split <;> omega
    rw [e] at hs
    exact hs
theorem New_s (hs : Sep h0 h R) (hg : gap ≠ 0) (hr : room ≤ 1099511627776) : N_bucket_New room rate gap h (fun v h' => ∃ b, v = .pointer (some ⟨b, 0, none⟩) ∧ Sep h0 h' (aBlk b (bkE room rate gap room 0) :: R)) := by
  apply S_bucket_New
  unfold B_bucket_New
  refine mIf_neg (by simp; omega) ?_
  ((refine Sep.new hs fun nb h hs => ?_; try simp only [List.toList_toArray] at hs))
  exact ⟨nb, rfl, hs⟩
theorem New_bad (h : Hp) (hg : gap = 0 ∨ room > 1099511627776) : N_bucket_New room rate gap h (fun v h' => v = .pointer none ∧ h' = h) := by
  apply S_bucket_New
  unfold B_bucket_New
  exact mIf_pos (by simpa using hg) ⟨rfl, rfl⟩
theorem Has_s (hs : Sep h0 h (aBlk b (bkE room rate gap has now) :: R)) (hk : KOk room rate gap has now) {t : Int} (ht : U t) :
    N_bucket_Bucket_Has (some ⟨b, 0, none⟩) t h (fun v h' => v = .int .u64 (hasAt room rate gap has now t) ∧ Sep h0 h' (aBlk b (bkE room rate gap (hasAt room rate gap has now t) (max now t)) :: R)) := by
  apply S_bucket_Bucket_Has
  unfold B_bucket_Bucket_Has
  (simp only [Option.isNone_some, mNil_some, add_mk, Nat.zero_add, mIf_false, mBind_ap])
  refine (pass_s hs hk ht).mono ?_
  intro v h hs
  (refine Sep.ldI hs 0 rfl rfl ?_)
  exact ⟨rfl, hs⟩
theorem Has_nil (h : Hp) (t : Int) : N_bucket_Bucket_Has none t h (fun v h' => v = .int .u64 0 ∧ h' = h) := by
  apply S_bucket_Bucket_Has
  unfold B_bucket_Bucket_Has
  simp
theorem Take_s (hs : Sep h0 h (aBlk b (bkE room rate gap has now) :: R)) (hk : KOk room rate gap has now) {t n : Int} (ht : U t) (hn : U n) :
    N_bucket_Bucket_Take (some ⟨b, 0, none⟩) t n h (fun v h' => v = .bool (decide (n ≤ hasAt room rate gap has now t)) ∧ Sep h0 h' (aBlk b (bkE room rate gap (if n ≤ hasAt room rate gap has now t then hasAt room rate gap has now t - n else hasAt room rate gap has now t) (max now t)) :: R)) := by
  have hb := hasAt_b hk (t := t)
  have h2 := hk.rm
  apply S_bucket_Bucket_Take
  unfold B_bucket_Bucket_Take
  (simp only [Option.isNone_some, mIf_false, mNil_some, add_mk, Nat.zero_add, mBind_ap])
  refine (Has_s hs hk ht).mono ?_
  rintro v h ⟨rfl, hs⟩
  (simp only [unI_int]; rw [mRet_ap])
  refine mIf_dec (fun hc => ?_) (fun hc => ?_)
  · rw [decide_eq_false (by omega), if_neg (by omega)]
    exact ⟨rfl, hs⟩
  · rw [decide_eq_true (by omega), if_pos (by omega)]
    (refine Sep.ldI hs 0 rfl rfl ?_; (refine Sep.st hs 0 rfl rfl rfl fun h hs => ?_; simp only [List.set_cons_zero, List.set_cons_succ] at hs))
    have := hn.1
    rw [wrapu64 _ (by omega)] at hs
    exact ⟨rfl, hs⟩
theorem Now_s (hs : Sep h0 h (aBlk b (bkE room rate gap has now) :: R)) : N_bucket_Bucket_Now (some ⟨b, 0, none⟩) h (fun v h' => v = .int .u64 now ∧ h' = h) := by
  apply S_bucket_Bucket_Now
  unfold B_bucket_Bucket_Now
  (simp only [Option.isNone_some, mNil_some, add_mk, Nat.zero_add, mIf_false]; refine Sep.ldI hs 0 rfl rfl ?_)
  exact ⟨rfl, rfl⟩
def whenB (room rate gap has now n : Int) : Int × Bool := if n > room then (0, false) else if n ≤ has then (now, true) else if rate = 0 then (0, false) else
  if satM (satA (now / gap) (ceilV (n - has) rate)) gap = 18446744073709551615 then (0, false) else (satM (satA (now / gap) (ceilV (n - has) rate)) gap, true)
theorem When_s (hs : Sep h0 h (aBlk b (bkE room rate gap has now) :: R)) (hk : KOk room rate gap has now) {n : Int} (hn : U n) :
    N_bucket_Bucket_When (some ⟨b, 0, none⟩) n h (fun v h' => v = .tuple #[.int .u64 (whenB room rate gap has now n).1, .bool (whenB room rate gap has now n).2] ∧ h' = h) := by
  have h1 := hk.hv; have h2 := hk.rm; have h3 := hk.ra; have h4 := hk.ga; have h5 := hk.nw
  have n0 := hn.1
  apply S_bucket_Bucket_When
  unfold B_bucket_Bucket_When whenB
  (simp only [Option.isNone_some, mNil_some, mIf_false, add_mk, Nat.zero_add, mBind_ap]; refine Sep.ldI hs 0 rfl rfl ?_; rw [mRet_ap])
  refine mIf_dec (fun hc => ?_) (fun hc => ?_)
  · rw [if_pos hc]; exact ⟨rfl, rfl⟩
  rw [if_neg hc]
  (refine Sep.ldI hs 0 rfl rfl ?_)
  refine mIf_dec (fun hc2 => ?_) (fun hc2 => ?_)
  · rw [if_pos hc2]
    (refine Sep.ldI hs 0 rfl rfl ?_)
    exact ⟨rfl, rfl⟩
  rw [if_neg hc2]
  (refine Sep.ldI hs 0 rfl rfl ?_)
  refine mIf_intro (fun hc3 => ?_) (fun hc3 => ?_)
  · rw [if_pos (by simpa using hc3)]; exact ⟨rfl, rfl⟩
  rw [if_neg (by simpa using hc3)]
  have hb := times_b h4.1 h5.1 (Int.le_refl now)
  (refine Sep.ldI hs 0 rfl rfl ?_; refine Sep.ldI hs 0 rfl rfl ?_)
  refine ⟨by omega, ?_⟩
  (refine Sep.ldI hs 0 rfl rfl ?_; refine Sep.ldI hs 0 rfl rfl ?_)
  rw [wrapu64 (n - has) (by omega), Int.tdiv_eq_ediv_of_nonneg h5.1, wrapu64 (now / gap) (by omega)]
  have hcu := ceilV_U (a := n - has) (b := rate) ⟨by omega, by omega⟩ ⟨h3.1, h3.2⟩
  refine mQ_intro _ (Ceil_s ⟨by omega, by omega⟩ ⟨h3.1, h3.2⟩) ?_
  (simp only [unI_int])
  refine mQ_intro _ (Add_s ⟨by omega, by omega⟩ hcu) ?_
  (simp only [unI_int]; refine Sep.ldI hs 0 rfl rfl ?_; simp only [mBind_ap])
  have hau := satA_U (a := now / gap) ⟨by omega, by omega⟩ hcu
  refine (Mul_s hau ⟨by omega, by omega⟩).mono ?_
  rintro v h' ⟨rfl, rfl⟩
  rw [unI_int]
  refine mIf_intro (fun hc4 => ?_) (fun hc4 => ?_)
  · rw [if_pos (by simpa using hc4)]; exact ⟨rfl, rfl⟩
  · rw [if_neg (by simpa using hc4)]; exact ⟨rfl, rfl⟩
theorem kfixed_s (hs : Sep h0 h R) : N_signalboxlaw42_fixed h (fun v h' => v = .bool true ∧ Sep h0 h' R) := by
  apply S_signalboxlaw42_fixed
  unfold B_signalboxlaw42_fixed
  have k : ∀ (x y : Int), 0 ≤ x → x ≤ 5 → 0 ≤ y → y ≤ 100 → KOk 5 1 10 x y := fun x y h1 h2 h3 h4 => ⟨by omega, by omega, by omega, by omega, by omega⟩
  rw [mBind_ap]
  refine (New_s (room := 5) (rate := 1) (gap := 10) hs (by decide) (by decide)).mono ?_
  rintro v h ⟨b, rfl, hs⟩
  (simp only [unP_pointer, mBind_ap])
  refine (Take_s hs (k _ _ (by decide) (by decide) (by decide) (by decide)) (t := 0) (n := 5) ⟨by decide, by decide⟩ ⟨by decide, by decide⟩).mono ?_
  rintro v h ⟨rfl, hs⟩
  replace hs : Sep h0 h (aBlk b (bkE 5 1 10 0 0) :: R) := hs
  (simp only [unB_bool, mBind_ap])
  refine (Take_s hs (k _ _ (by decide) (by decide) (by decide) (by decide)) (t := 9) (n := 1) ⟨by decide, by decide⟩ ⟨by decide, by decide⟩).mono ?_
  rintro v h ⟨rfl, hs⟩
  replace hs : Sep h0 h (aBlk b (bkE 5 1 10 0 9) :: R) := hs
  (simp only [unB_bool, mBind_ap])
  refine (When_s hs (k _ _ (by decide) (by decide) (by decide) (by decide)) (n := 2) ⟨by decide, by decide⟩).mono ?_
  rintro v h' ⟨rfl, rfl⟩
  (simp only [un2_tuple, unB_bool, unI_int, mBind_ap])
  refine (Take_s hs (k _ _ (by decide) (by decide) (by decide) (by decide)) (t := 10) (n := 1) ⟨by decide, by decide⟩ ⟨by decide, by decide⟩).mono ?_
  rintro v h ⟨rfl, hs⟩
  replace hs : Sep h0 h (aBlk b (bkE 5 1 10 0 10) :: R) := hs
  (simp only [unB_bool, mBind_ap])
  refine mIf_pos (by decide) ?_
  (simp only [mBind_ap])
  refine (Has_s hs (k _ _ (by decide) (by decide) (by decide) (by decide)) (t := 35) ⟨by decide, by decide⟩).mono ?_
  rintro v h ⟨rfl, hs⟩
  (simp only [unI_int]; rw [mRet_ap])
  refine mIf_pos (by decide) ?_
  (simp only [mBind_ap])
  refine (Now_s hs).mono ?_
  rintro v h' ⟨rfl, rfl⟩
  (simp only [unI_int]; rw [mRet_ap])
  refine mIf_pos (by decide) ?_
  (simp only [mBind_ap])
  refine (New_bad _ (.inl rfl)).mono ?_
  rintro v h' ⟨rfl, rfl⟩
  (simp only [unP_pointer, Option.isNone_none]; rw [mRet_ap])
  exact ⟨rfl, hs.drop⟩
end
section bound
variable {h0 : Hp} {ls : Sl} {l : List KAct} {b : Nat} {room rate g : Int} {i k : Int}
structure KB (room rate g i k : Int) (n : Nat) (at_ went begin_ end_ has : Int) : Prop where
  fat : 0 ≤ at_ ∧ at_ ≤ 65535 * n
  fhas : 0 ≤ has ∧ has ≤ room
  pre : (n : Int) ≤ i → went = 0
  mid : i < n → n ≤ k + 1 → 0 ≤ begin_ ∧ begin_ ≤ at_ ∧ end_ = at_ ∧ 0 ≤ went ∧ went + has ≤ room + (at_ / g - begin_ / g) * rate
  post : i < n → k + 1 < n → 0 ≤ begin_ ∧ begin_ ≤ end_ ∧ end_ ≤ at_ ∧ 0 ≤ went ∧ went ≤ room + (end_ / g - begin_ / g) * rate
theorem kb_step {n : Nat} {at_ went begin_ end_ has later taken : Int} (hI : KB room rate g i k n at_ went begin_ end_ has) (hr : 0 ≤ room ∧ room ≤ 65535) (hra : 0 ≤ rate ∧ rate ≤ 65535) (hg : 1 ≤ g ∧ g ≤ 500) (hik : 0 ≤ i ∧ i ≤ k) (hlat : 0 ≤ later ∧ later ≤ 65535)
    (ht : 0 ≤ taken ∧ taken ≤ hasAt room rate g has at_ (at_ + later)) :
    KB room rate g i k (n + 1) (at_ + later) (if i ≤ n ∧ n ≤ k then went + taken else went) (if (n : Int) = i then at_ + later else begin_) (if n ≤ k then at_ + later else end_) (hasAt room rate g has at_ (at_ + later) - taken) := by
  obtain ⟨fat, fhas, pre, mid, post⟩ := hI
  have hgro : hasAt room rate g has at_ (at_ + later) ≤ room ∧ hasAt room rate g has at_ (at_ + later) ≤ has + ((at_ + later) / g - at_ / g) * rate := by
    unfold hasAt
    have hb := times_b (gap := g) hg.1 fat.1 (t := at_ + later) (by omega)
    have := Int.mul_nonneg (show 0 ≤ (at_ + later) / g - at_ / g by omega) hra.1
    split
    · omega
    · omega
  generalize hasAt room rate g has at_ (at_ + later) = H at *
  refine ⟨by omega, by omega, ?_, ?_, ?_⟩
  · intro hn
    rw [if_neg (show ¬ (i ≤ (n : Int) ∧ (n : Int) ≤ k) by omega)]
    exact pre (by omega)
  · intro h1 h2
    rw [if_pos (show i ≤ (n : Int) ∧ (n : Int) ≤ k by omega), if_pos (show (n : Int) ≤ k by omega)]
    by_cases hni : (n : Int) = i
    · rw [if_pos hni]
      have := pre (by omega)
      refine ⟨by omega, by omega, rfl, by omega, ?_⟩
      rw [Int.sub_self, Int.zero_mul]
      omega
    · rw [if_neg hni]
      obtain ⟨m1, m2, m3, m4, m5⟩ := mid (by omega) (by omega)
      refine ⟨m1, by omega, rfl, by omega, ?_⟩
      have e : ((at_ + later) / g - begin_ / g) * rate = ((at_ + later) / g - at_ / g) * rate + (at_ / g - begin_ / g) * rate := by
        rw [← Int.add_mul]; congr 1; omega
      omega
  · intro h1 h2
    rw [if_neg (show ¬ (i ≤ (n : Int) ∧ (n : Int) ≤ k) by omega), if_neg (show ¬ (n : Int) = i by omega), if_neg (show ¬ (n : Int) ≤ k by omega)]
    by_cases hc : (n : Int) ≤ k + 1
    · obtain ⟨m1, m2, m3, m4, m5⟩ := mid (by omega) hc
      subst m3
      exact ⟨m1, m2, by omega, m4, by omega⟩
    · obtain ⟨m1, m2, m3, m4, m5⟩ := post (by omega) (by omega)
      exact ⟨m1, m2, by omega, m4, m5⟩
theorem kb_went {n : Nat} {at_ went begin_ end_ has : Int} (hI : KB room rate g i k n at_ went begin_ end_ has) (hn : n ≤ 60) (hr : 0 ≤ room ∧ room ≤ 65535) (hra : 0 ≤ rate ∧ rate ≤ 65535) (hg : 1 ≤ g ∧ g ≤ 500) : 0 ≤ went ∧ went ≤ 1000000000000 := by
  obtain ⟨fat, fhas, pre, mid, post⟩ := hI
  by_cases h1 : (n : Int) ≤ i
  · have := pre h1; omega
  · have key : ∀ e : Int, begin_ ≤ e → 0 ≤ begin_ → e ≤ at_ → (e / g - begin_ / g) * rate ≤ 3932100 * 65535 := by
      intro e h1 h2 h3
      have hb := times_b (gap := g) hg.1 h2 h1
      exact Int.mul_le_mul (by omega) hra.2 hra.1 (by omega)
    by_cases h2 : (n : Int) ≤ k + 1
    · obtain ⟨m1, m2, m3, m4, m5⟩ := mid (by omega) h2
      have := key at_ m2 m1 (Int.le_refl _)
      omega
    · obtain ⟨m1, m2, m3, m4, m5⟩ := post (by omega) (by omega)
      have := key end_ m2 m1 m3
      omega
theorem bb10 (hl : RdE h0.size h0 KAct.enc 3 ls l) (hlo : ∀ x ∈ l, x.ok h0) (hlen : l.length ≤ 60) (hr : 0 ≤ room ∧ room ≤ 65535) (hra : 0 ≤ rate ∧ rate ≤ 65535) (hg : 1 ≤ g ∧ g ≤ 500) (hik : 0 ≤ i ∧ i ≤ k ∧ k ≤ 255) : ∀ (d n : Nat) (h : Hp) (at_ went begin_ end_ has : Int), n + d = l.length → KB room rate g i k n at_ went begin_ end_ has → Sep h0 h [aBlk b (bkE room rate g has at_)] →
    K_signalboxlaw42_BucketBound_10 room rate ls g (some ⟨b, 0, none⟩) i k at_ went begin_ end_ ls (ls.n : Int) (n : Int) h (KFin h0)
  | 0, n, h, at_, went, begin_, end_, has, hn, hI, hs => by
    have hln := hl.n
    have hw := kb_went hI (by omega) hr hra hg
    apply S_signalboxlaw42_BucketBound_10
    unfold B_signalboxlaw42_BucketBound_10
    refine mIf_neg (by simp; omega) ?_
    obtain ⟨fat, fhas, pre, mid, post⟩ := hI
    refine mIf_dec (fun hc => ?_) (fun hc => ?_)
    · have := pre (by omega)
      subst this
      exact ⟨rfl, hs.under⟩
    · have hfin : 0 ≤ begin_ ∧ begin_ ≤ end_ ∧ end_ ≤ at_ ∧ went ≤ room + (end_ / g - begin_ / g) * rate := by
        by_cases h2 : (n : Int) ≤ k + 1
        · obtain ⟨m1, m2, m3, m4, m5⟩ := mid (by omega) h2
          subst m3
          exact ⟨m1, m2, Int.le_refl _, by omega⟩
        · obtain ⟨m1, m2, m3, m4, m5⟩ := post (by omega) (by omega)
          exact ⟨m1, m2, m3, m5⟩
      obtain ⟨q1, q2, q3, q4⟩ := hfin
      have hb := times_b (gap := g) hg.1 q1 q2
      have hm : (end_ / g - begin_ / g) * rate ≤ 3932100 * 65535 := Int.mul_le_mul (by omega) hra.2 hra.1 (by omega)
      have hm0 := Int.mul_nonneg (show 0 ≤ end_ / g - begin_ / g by omega) hra.1
      refine ⟨by omega, by omega, ?_⟩
      rw [Int.tdiv_eq_ediv_of_nonneg (by omega), Int.tdiv_eq_ediv_of_nonneg q1, wrapu64 (end_ / g) (by omega), wrapu64 (begin_ / g) (by omega), wrapu64 rate (by omega), wrapu64 (end_ / g - begin_ / g) (by omega), wrapu64 ((end_ / g - begin_ / g) * rate) (by omega), wrapu64 room (by omega), wrapu64 _ (by omega), decide_eq_true q4]
      exact ⟨rfl, hs.under⟩
  | d + 1, n, h, at_, went, begin_, end_, has, hn, hI, hs => by
    have ih := bb10 hl hlo hlen hr hra hg hik d (n + 1)
    have hln := hl.n
    have hw := kb_went hI (by omega) hr hra hg
    have hnl : n < l.length := by omega
    have hla := hlo l[n] (List.getElem_mem _)
    have fat := hI.fat
    apply S_signalboxlaw42_BucketBound_10
    unfold B_signalboxlaw42_BucketBound_10
    refine mIf_pos (by simp; omega) ?_
    have b1 := hla.1.1
    have b2 := hla.1.2
    (refine Sep.argEn hs hl (by first | omega | (simp only [List.length_set, List.length_map, List.length_replicate, List.length_append, List.length_cons, List.length_nil, List.length_reverse, List.length_range]; omega) | (simp; omega)) fun aa haa => ?_; refine Arg.ldI0 haa rfl ?_; refine Arg.ldI haa rfl ?_; refine Arg.ldB haa rfl ?_; (refine Sep.new hs fun nb h hs => ?_; try simp only [List.toList_toArray] at hs); (refine Sep.st hs 0 rfl rfl rfl fun h hs => ?_; simp only [List.set_cons_zero, List.set_cons_succ] at hs); (refine Sep.st hs 0 rfl rfl rfl fun h hs => ?_; simp only [List.set_cons_zero, List.set_cons_succ] at hs); (refine Sep.st hs 0 rfl rfl rfl fun h hs => ?_; simp only [List.set_cons_zero, List.set_cons_succ] at hs); refine Sep.ldI hs 0 rfl rfl ?_)
    generalize l[n] = a at hs hla b1 b2 ⊢
    obtain ⟨⟨a1, a2⟩, a3, a4⟩ := hla
    have key : ∀ bg, bg = (if (n : Int) = i then at_ + a.later else begin_) → K_signalboxlaw42_BucketBound_15 room rate ls g (some ⟨b, 0, none⟩) i k (at_ + a.later) went bg end_ n ⟨nb, 0, none⟩ ls (ls.n : Int) n h (KFin h0) := by
      intro bg hbg
      apply S_signalboxlaw42_BucketBound_15
      unfold B_signalboxlaw42_BucketBound_15
      (refine Sep.ldI hs 0 rfl rfl ?_; simp only [add_mk, Nat.zero_add, mBind_ap])
      have hk : KOk room rate g has at_ := ⟨by omega, by omega, by omega, hI.fhas, by omega⟩
      have hbd := hasAt_b hk (t := at_ + a.later)
      have hs2 : Sep h0 h [aBlk b (bkE room rate g has at_), aBlk nb (KAct.enc a)] := hs.re [1, 0] rfl
      refine (Take_s hs2 hk (t := at_ + a.later) (n := a.n) ⟨by omega, by omega⟩ ⟨a3, a4⟩).mono ?_
      rintro v h ⟨rfl, hs⟩
      (simp only [unB_bool])
      rw [show max at_ (at_ + a.later) = at_ + a.later by omega] at hs
      have hs3 : Sep h0 h [aBlk nb (KAct.enc a), aBlk b (bkE room rate g (if a.n ≤ hasAt room rate g has at_ (at_ + a.later) then hasAt room rate g has at_ (at_ + a.later) - a.n else hasAt room rate g has at_ (at_ + a.later)) (at_ + a.later))] := hs.re [1, 0] rfl
      have fin : ∀ w' e' : Int, w' = (if a.n ≤ hasAt room rate g has at_ (at_ + a.later) ∧ i ≤ n ∧ n ≤ k then went + a.n else went) → e' = (if n ≤ k then at_ + a.later else end_) →
          K_signalboxlaw42_BucketBound_10 room rate ls g (some ⟨b, 0, none⟩) i k (at_ + a.later) w' bg e' ls (ls.n : Int) ((n + 1 : Nat) : Int) h (KFin h0) := by
        intro w' e' hw' he'
        refine ih h _ _ _ _ (if a.n ≤ hasAt room rate g has at_ (at_ + a.later) then hasAt room rate g has at_ (at_ + a.later) - a.n else hasAt room rate g has at_ (at_ + a.later)) (by omega) ?_ hs3.drop
        by_cases hc : a.n ≤ hasAt room rate g has at_ (at_ + a.later)
        · have := kb_step hI hr hra hg ⟨hik.1, hik.2.1⟩ (later := a.later) (taken := a.n) ⟨a1, a2⟩ ⟨a3, hc⟩
          rw [hw', he', hbg, if_pos hc]
          simp only [hc, true_and]
          exact this
        · have := kb_step hI hr hra hg ⟨hik.1, hik.2.1⟩ (later := a.later) (taken := 0) ⟨a1, a2⟩ ⟨by omega, by omega⟩
          rw [hw', he', hbg, if_neg hc]
          simp only [hc, false_and, if_false]
          rw [Int.add_zero, ite_self, Int.sub_zero] at this
          exact this
      have hiw : IntKind.i64.wrap ((n : Int) + 1) = ((n + 1 : Nat) : Int) := by
        rw [wrap64 _ (by omega)]; omega
      rw [hiw]
      refine mIf_intro (fun hc => ?_) (fun hc => ?_)
      · simp only [Bool.and_eq_true, decide_eq_true_eq] at hc
        (refine Sep.ldI hs 1 rfl rfl ?_; rw [decide_eq_true (by omega), mIf_true])
        have hwt : IntKind.u64.wrap (went + a.n) = went + a.n := wrapu64 _ (by omega)
        rw [hwt]
        exact fin _ _ (by rw [if_pos (by omega)]) (by rw [if_pos (by omega)])
      · have hc' : ¬ (a.n ≤ hasAt room rate g has at_ (at_ + a.later) ∧ i ≤ n ∧ n ≤ k) := fun hh => by simp [hh] at hc
        refine mIf_dec (fun hc2 => ?_) (fun hc2 => ?_)
        · exact fin _ _ (by rw [if_neg hc']) (by rw [if_pos hc2])
        · exact fin _ _ (by rw [if_neg hc']) (by rw [if_neg hc2])
    rw [wrapu64 a.later (by omega), wrapu64 (at_ + a.later) (by omega)]
    refine mIf_intro (fun hc => ?_) (fun hc => ?_)
    · exact key _ (by rw [if_pos (by simpa using hc)])
    · exact key _ (by rw [if_neg (by simpa using hc)])
end bound
end Go.Proofs.Ytbpnpmknamghkaa
