/- Busy windows: the laws BusyWindows, BusySlacks and BusyRises. Conditions: none. -/
import Derived.Test.YtjifoicncenfpaaBusyQ
import Derived.Test.YtjifoicncenfpaaSbW
namespace Go.Proofs.Ytjifoicncenfpaa
open Go Go.Sb
set_option linter.unusedSimpArgs false
set_option linter.unusedVariables false

abbrev WFin (h0 : Hp) : Value → Hp → Prop := fun v h' => v = .bool true ∧ Under h0.size h0 h'
section
variable {h0 h : Hp} {R : List As} {ls : Sl} {l : List Ld}
/-- what a slack tells -/
def IsSlack (l : List Ld) (m s : Int) (ok : Bool) : Prop :=
  (ok = false ∧ s = 0 ∧ ∃ w, IsWin 0 l m w false) ∨ (ok = true ∧ 0 ≤ s ∧ s ≤ m ∧ (∃ w, IsWin s l m w true) ∧ (s = m ∨ ∃ w, IsWin (s + 1) l m w false))
theorem Slack_s (hs : Sep h0 h R) (hl : RdE h0.size h0 Ld.enc 2 ls l) (hlen : l.length ≤ 1000) (hok : LOk l) {m : Int} (hm : 0 ≤ m ∧ m ≤ 1000000) :
    N_busy_Slack ls m h (fun v h' => (∃ s ok, v = .tuple #[.int .u64 s, .bool ok] ∧ IsSlack l m s ok) ∧ Sep h0 h' R) := by
  apply S_busy_Slack
  unfold B_busy_Slack
  rw [if_neg (by omega), mBind_ap]
  refine (Window_s hs hl hlen hok (d := 0) ⟨by omega, by omega⟩ hm).mono ?_
  rintro v h ⟨⟨w, ok, rfl, hw⟩, hs⟩
  (simp only [un2_tuple, unB_bool, unI_int])
  cases ok with
  | false =>
    (simp only [Bool.not_false, mIf_true])
    exact ⟨⟨0, false, rfl, .inl ⟨rfl, rfl, w, hw⟩⟩, hs⟩
  | true =>
    (simp only [Bool.not_true, mIf_false])
    rw [wrapu64 _ (by omega)]
    have loop : ∀ (e : Nat) (lo hi : Int) (h : Hp), Sep h0 h R → 0 ≤ lo → lo < hi → hi ≤ m + 1 → hi - lo ≤ e → (∃ w, IsWin lo l m w true) → (hi = m + 1 ∨ ∃ w, IsWin hi l m w false) →
        K_busy_Slack_6 ls m lo hi h (fun v h' => (∃ s ok, v = .tuple #[.int .u64 s, .bool ok] ∧ IsSlack l m s ok) ∧ Sep h0 h' R) := by
      intro e
      induction e with
      | zero => intro lo hi h hs h1 h2 h3 h4; omega
      | succ e ih =>
        intro lo hi h hs h1 h2 h3 h4 h5 h6
        apply S_busy_Slack_6
        unfold B_busy_Slack_6
        rw [wrapu64 (hi - lo) (by omega)]
        refine mIf_dec (fun hc => ?_) (fun hc => ?_)
        · refine ⟨by omega, ?_⟩
          rw [Int.tdiv_eq_ediv_of_nonneg (by omega), wrapu64 ((hi - lo) / 2) (by omega), wrapu64 (lo + (hi - lo) / 2) (by omega), mBind_ap]
          refine (Window_s hs hl hlen hok (d := lo + (hi - lo) / 2) ⟨by omega, by omega⟩ hm).mono ?_
          rintro v h ⟨⟨w, ok, rfl, hw⟩, hs⟩
          (simp only [un2_tuple, unB_bool, unI_int])
          cases ok with
          | true =>
            (simp only [mIf_true])
            exact ih _ _ h hs (by omega) (by omega) h3 (by omega) ⟨w, hw⟩ h6
          | false =>
            (simp only [mIf_false])
            exact ih _ _ h hs h1 (by omega) (by omega) (by omega) h5 (.inr ⟨w, hw⟩)
        · have : hi = lo + 1 := by omega
          subst this
          refine ⟨⟨lo, true, rfl, .inr ⟨rfl, h1, by omega, h5, ?_⟩⟩, hs⟩
          rcases h6 with h6 | h6
          · exact .inl (by omega)
          · exact .inr h6
    exact loop (m.toNat + 1) 0 (m + 1) h hs (by omega) (by omega) (by omega) (by omega) ⟨w, hw⟩ (.inl rfl)
def w3 : List Ld := [⟨3, 10⟩]
def w10 : List Ld := [⟨10, 10⟩]
theorem win5 {w : Int} {ok : Bool} (h : IsWin 2 w3 50 w ok) : w = 5 ∧ ok = true := by
  rcases h with ⟨a1, a2, a3, a4, a5⟩ | ⟨a1, a2, a3⟩
  · refine ⟨?_, a1⟩
    have h5 : ¬ (5 < w) := fun h => by have := a5 5 (by omega) h; revert this; decide
    have : w = 1 ∨ w = 2 ∨ w = 3 ∨ w = 4 ∨ w = 5 := by omega
    rcases this with rfl | rfl | rfl | rfl | rfl
    · exact absurd a4 (by decide)
    · exact absurd a4 (by decide)
    · exact absurd a4 (by decide)
    · exact absurd a4 (by decide)
    · rfl
  · have := a3 5 (by omega) (by omega)
    exact absurd this (by decide)
theorem win10 {w : Int} {ok : Bool} (h : IsWin 2 w10 50 w ok) : ok = false := by
  rcases h with ⟨a1, a2, a3, a4, a5⟩ | ⟨a1, a2, a3⟩
  · exfalso
    have e : dem 2 w10 w = min (2 + min (10 * ((w - 1) / 10 + 1)) 18446744073709551615) 18446744073709551615 := by
      show satA 2 (satM 10 (ceilV w 10)) = _
      unfold satA satM ceilV
      rw [if_neg (by omega), if_neg (by omega)]
    rw [e] at a4
    omega
  · exact a1
theorem slack6 {s : Int} {ok : Bool} (h : IsSlack w3 9 s ok) : s = 6 ∧ ok = true := by
  have e : ∀ d x : Int, 0 ≤ d → d ≤ 10 → 1 ≤ x → x ≤ 9 → dem d w3 x = d + 3 := by
    intro d x d0 d1 x1 x2
    show satA d (satM 3 (ceilV x 10)) = _
    unfold satA satM ceilV
    rw [if_neg (by omega), if_neg (by omega)]
    omega
  rcases h with ⟨_, _, w, hw⟩ | ⟨a1, a2, a3, ⟨w, hw⟩, a5⟩
  · exfalso
    rcases hw with ⟨b, _⟩ | ⟨_, _, b⟩
    · cases b
    · have := b 9 (by omega) (by omega)
      rw [e 0 9 (by omega) (by omega) (by omega) (by omega)] at this
      omega
  · refine ⟨?_, a1⟩
    have h6 : s ≤ 6 := by
      rcases hw with ⟨_, b1, b2, b3, _⟩ | ⟨b, _⟩
      · rw [e s w (by omega) (by omega) b1 b2] at b3; omega
      · cases b
    rcases a5 with a5 | ⟨w', hw'⟩
    · omega
    · rcases hw' with ⟨b, _⟩ | ⟨_, _, b⟩
      · cases b
      · have := b 9 (by omega) (by omega)
        rw [e (s + 1) 9 (by omega) (by omega) (by omega) (by omega)] at this
        omega
theorem w3ok : LOk w3 := by intro w hw; simp [w3] at hw; subst hw; exact ⟨⟨by decide, by decide⟩, ⟨by decide, by decide⟩⟩
theorem w10ok : LOk w10 := by intro w hw; simp [w10] at hw; subst hw; exact ⟨⟨by decide, by decide⟩, ⟨by decide, by decide⟩⟩
theorem bfixed_s (hs : Sep h0 h R) : N_signalboxlaw25_fixed h (fun v h' => v = .bool true ∧ Sep h0 h' R) := by
  apply S_signalboxlaw25_fixed
  unfold B_signalboxlaw25_fixed
  refine hs.new fun n1 h1 hs => ?_
  simp only [List.toList_toArray] at hs
  have hs := Blk.row (enc := Ld.enc) (sz := 2) (xs := w3) hs 0 rfl rfl (n := 1) rfl
  simp only [List.set_cons_zero] at hs
  have hl := hs.rowE 0 rfl (fun _ => rfl) (by omega)
  rw [mBind_ap]
  refine (Window_s (Sep.init h1) hl (by decide) w3ok (d := 2) ⟨by decide, by decide⟩ ⟨by decide, by decide⟩).mono ?_
  rintro v h2 ⟨⟨w, ok, rfl, hw⟩, hs'⟩
  have hs := (hs.rebase hs').drop
  obtain ⟨rfl, rfl⟩ := win5 hw
  simp only [un2_tuple, unI_int, unB_bool]
  refine hs.new fun n2 h3 hs => ?_
  simp only [List.toList_toArray] at hs
  have hs := Blk.row (enc := Ld.enc) (sz := 2) (xs := w10) hs 0 rfl rfl (n := 1) rfl
  simp only [List.set_cons_zero] at hs
  have hl := hs.rowE 0 rfl (fun _ => rfl) (by omega)
  rw [mBind_ap]
  refine (Window_s (Sep.init h3) hl (by decide) w10ok (d := 2) ⟨by decide, by decide⟩ ⟨by decide, by decide⟩).mono ?_
  rintro v h4 ⟨⟨w, ok, rfl, hw⟩, hs'⟩
  have hs := (hs.rebase hs').drop
  obtain rfl := win10 hw
  simp only [un2_tuple, unI_int, unB_bool]
  refine hs.new fun n3 h5 hs => ?_
  simp only [List.toList_toArray] at hs
  have hs := Blk.row (enc := Ld.enc) (sz := 2) (xs := w3) hs 0 rfl rfl (n := 1) rfl
  simp only [List.set_cons_zero] at hs
  have hl := hs.rowE 0 rfl (fun _ => rfl) (by omega)
  rw [mBind_ap]
  refine (Slack_s (Sep.init h5) hl (by decide) w3ok (m := 9) ⟨by decide, by decide⟩).mono ?_
  rintro v h6 ⟨⟨s, ok, rfl, hw⟩, hs'⟩
  have hs := (hs.rebase hs').drop
  obtain ⟨rfl, rfl⟩ := slack6 hw
  simp only [un2_tuple, unI_int, unB_bool]
  rw [mBind_ap]
  refine mIf_pos rfl ?_
  refine hs.new fun n4 h7 hs => ?_
  simp only [List.toList_toArray] at hs
  have hs := Blk.row (enc := Ld.enc) (sz := 2) (xs := w3) hs 0 rfl rfl (n := 1) rfl
  simp only [List.set_cons_zero] at hs
  have hl := hs.rowE 0 rfl (fun _ => rfl) (by omega)
  rw [mBind_ap]
  refine (Demand_s (Sep.init h7) hl (by decide) w3ok (d := 1) (x := 11) ⟨by decide, by decide⟩ ⟨by decide, by decide⟩).mono ?_
  rintro v h8 ⟨rfl, hs'⟩
  have hs := (hs.rebase hs').drop
  exact ⟨rfl, hs⟩
theorem lok (hlo : ∀ x ∈ l, x.ok h0) : LOk l := fun w hw => ⟨(hlo w hw).1, (hlo w hw).2⟩
theorem BusyWindows_ok {d x m : Int} (hd : 0 ≤ d ∧ d ≤ 18446744073709551615) (hl : RdE h0.size h0 Ld.enc 2 ls l) (hlo : ∀ x ∈ l, x.ok h0) (hx : 0 ≤ x ∧ x ≤ 18446744073709551615) (hm : 0 ≤ m ∧ m ≤ 18446744073709551615) : N_signalboxlaw25_BusyWindows d ls x m h0 (WFin h0) := by
  have hln := hl.n
  have hok := lok hlo
  apply S_signalboxlaw25_BusyWindows
  unfold B_signalboxlaw25_BusyWindows
  rw [mBind_ap]
  refine (bfixed_s (Sep.init h0)).mono ?_
  rintro v h ⟨rfl, hs⟩
  (simp only [unB_bool, Bool.not_true, mIf_false])
  refine mIf_intro (fun _ => ⟨rfl, hs.under⟩) (fun hc => ?_)
  have hc : l.length ≤ 12 ∧ m ≤ 1500 := by simp at hc; omega
  rw [mBind_ap]
  refine (split_s hs hl (by omega)).mono ?_
  rintro v h ⟨a, b, rfl, hs⟩
  (simp only [un2_tuple, unL_slice, mBind_ap])
  refine (Demand_s hs hl (by omega) hok hd hx).mono ?_
  rintro v h ⟨rfl, hs⟩
  (simp only [unI_int, mBind_ap])
  refine (refDemand_s hs 0 1 rfl rfl (by omega) hok hd hx).mono ?_
  rintro v h' ⟨rfl, rfl⟩
  (simp only [unI_int])
  refine mIf_neg (by simp) ?_
  rw [mBind_ap]
  refine (Window_s hs hl (by omega) hok hd (m := m) ⟨hm.1, by omega⟩).mono ?_
  rintro v h ⟨⟨w, ok, rfl, hw⟩, hs⟩
  (simp only [un2_tuple, unB_bool, unI_int, mBind_ap])
  refine (refWindow_s hs 0 1 rfl rfl (by omega) hok hd (m := m) ⟨hm.1, by omega⟩).mono ?_
  rintro v h' ⟨⟨r, rfl, hr⟩, rfl⟩
  rw [unI_int]
  rcases win_ref hw hr with ⟨rfl, rfl, h1⟩ | ⟨rfl, rfl, rfl⟩
  · exact mIf_neg (by simp; omega) ⟨by simp, hs.under⟩
  · exact mIf_pos rfl ⟨rfl, hs.under⟩
theorem BusySlacks_ok {m : Int} (hl : RdE h0.size h0 Ld.enc 2 ls l) (hlo : ∀ x ∈ l, x.ok h0) (hm : 0 ≤ m ∧ m ≤ 18446744073709551615) : N_signalboxlaw25_BusySlacks ls m h0 (WFin h0) := by
  have hln := hl.n
  have hok := lok hlo
  apply S_signalboxlaw25_BusySlacks
  unfold B_signalboxlaw25_BusySlacks
  rw [mBind_ap]
  refine (bfixed_s (Sep.init h0)).mono ?_
  rintro v h ⟨rfl, hs⟩
  (simp only [unB_bool, Bool.not_true, mIf_false])
  refine mIf_intro (fun _ => ⟨rfl, hs.under⟩) (fun hc => ?_)
  have hc : l.length ≤ 12 ∧ m ≤ 1000 := by simp at hc; omega
  rw [mBind_ap]
  refine (split_s hs hl (by omega)).mono ?_
  rintro v h ⟨a, b, rfl, hs⟩
  (simp only [un2_tuple, unL_slice, mBind_ap])
  refine (Slack_s hs hl (by omega) hok (m := m) ⟨hm.1, by omega⟩).mono ?_
  rintro v h ⟨⟨s, ok, rfl, hw⟩, hs⟩
  (simp only [un2_tuple, unB_bool, unI_int, mBind_ap])
  refine (refWindow_s hs 0 1 rfl rfl (by omega) hok (d := 0) ⟨by decide, by decide⟩ (m := m) ⟨hm.1, by omega⟩).mono ?_
  rintro v h' ⟨⟨r, rfl, hr⟩, rfl⟩
  rw [unI_int]
  rcases hw with ⟨rfl, rfl, w, hw⟩ | ⟨rfl, s0, s1, ⟨w, hw⟩, hnx⟩
  · rcases win_ref hw hr with ⟨h, _⟩ | ⟨_, rfl, _⟩
    · cases h
    · exact mIf_pos rfl ⟨rfl, hs.under⟩
  · have hr1 : 1 ≤ r := by
      -- a lesser delay has a window, too
      rcases hr with ⟨r1, _⟩ | ⟨_, hr⟩
      · exact r1
      · rcases hw with ⟨_, b1, b2, b3, _⟩ | ⟨b, _⟩
        · have h1 := hr w b1 b2
          have h2 := dem_mono (show U w from ⟨by omega, by omega⟩) (show U w from ⟨by omega, by omega⟩) (Int.le_refl w) l 0 s s0 hok
          omega
        · cases b
    refine mIf_neg (by simp; omega) ?_
    (simp only [Bool.true_and, mBind_ap]; rw [decide_eq_true (by omega), mIf_true]; simp only [mBind_ap])
    refine (refWindow_s hs 0 1 rfl rfl (by omega) hok (d := s) ⟨by omega, by omega⟩ (m := m) ⟨hm.1, by omega⟩).mono ?_
    rintro v h' ⟨⟨q, rfl, hq⟩, rfl⟩
    have hq1 : 1 ≤ q := by
      rcases win_ref hw hq with ⟨_, rfl, h1⟩ | ⟨h, _⟩
      · exact h1
      · cases h
    (simp only [unI_int]; rw [mRet_ap]; rw [decide_eq_true (by omega), mIf_true]; simp only [mBind_ap])
    refine mIf_intro (fun he => ?_) (fun he => ?_)
    · (rw [mRet_ap]; rw [mRet_ap])
      exact ⟨rfl, hs.under⟩
    · have he : ¬ s = m := by simpa using he
      rw [wrapu64 _ (by omega), mBind_ap]
      refine (refWindow_s hs 0 1 rfl rfl (by omega) hok (d := s + 1) ⟨by omega, by omega⟩ (m := m) ⟨hm.1, by omega⟩).mono ?_
      rintro v h' ⟨⟨q2, rfl, hq2⟩, rfl⟩
      rcases hnx with hnx | ⟨w', hw'⟩
      · omega
      · rcases win_ref hw' hq2 with ⟨h, _⟩ | ⟨_, rfl, _⟩
        · cases h
        · exact ⟨rfl, hs.under⟩
theorem BusyRises_ok {d m : Int} {x : Ld} (hd : 0 ≤ d ∧ d ≤ 4294967295) (hm : 0 ≤ m ∧ m ≤ 4294967295) (hl : RdE h0.size h0 Ld.enc 2 ls l) (hlo : ∀ x ∈ l, x.ok h0) (hx : x.ok h0) : N_signalboxlaw25_BusyRises d m ls x.cost x.period h0 (WFin h0) := by
  have hln := hl.n
  have hok := lok hlo
  have hok2 : LOk (l ++ [x]) := by
    intro w hw
    rcases List.mem_append.1 hw with hw | hw
    · exact hok w hw
    · rw [List.mem_singleton] at hw; subst hw; exact ⟨hx.1, hx.2⟩
  apply S_signalboxlaw25_BusyRises
  unfold B_signalboxlaw25_BusyRises
  have hs := Sep.init h0
  ((refine Sep.new hs fun nb h hs => ?_; try simp only [List.toList_toArray] at hs); simp only [add_mk, Nat.zero_add, mBind_ap])
  refine (bfixed_s hs).mono ?_
  rintro v h ⟨rfl, hs⟩
  (simp only [unB_bool, Bool.not_true, mIf_false])
  refine mIf_dec (fun _ => ⟨rfl, hs.under⟩) (fun hc => ?_)
  rw [wrapu64 d (by omega), wrapu64 m (by omega), wrapu64 (d + m) (by omega), mBind_ap]
  refine (Window_s hs hl (by omega) hok (d := d) ⟨by omega, by omega⟩ (m := 5000) ⟨by omega, by omega⟩).mono ?_
  rintro v h ⟨⟨wa, oka, rfl, ha⟩, hs⟩
  (simp only [un2_tuple, unB_bool, unI_int, mBind_ap])
  refine (Window_s hs hl (by omega) hok (d := d + m) ⟨by omega, by omega⟩ (m := 5000) ⟨by omega, by omega⟩).mono ?_
  rintro v h ⟨⟨wb, okb, rfl, hb⟩, hs⟩
  simp only [un2_tuple, unI_int, unB_bool]
  -- a window that is greater: the same proof for both
  have up : ∀ (d' : Int) (l' : List Ld) (w' : Int) (ok' : Bool), (∀ y, 1 ≤ y → y ≤ 5000 → dem d l y ≤ dem d' l' y) → IsWin d' l' 5000 w' ok' → wa ≤ w' ∧ (oka = true ∨ ok' = false) := by
    intro d' l' w' ok' hle hw
    rcases ha with ⟨a1, a2, a3, a4, a5⟩ | ⟨a1, a2, a3⟩
    · refine ⟨?_, .inl a1⟩
      rcases hw with ⟨b1, b2, b3, b4, b5⟩ | ⟨b1, b2, b3⟩
      · rcases Int.lt_or_le w' wa with h | h
        · have := a5 w' b2 h
          have := hle w' b2 b3
          omega
        · exact h
      · omega
    · rcases hw with ⟨b1, b2, b3, b4, b5⟩ | ⟨b1, b2, b3⟩
      · have := a3 w' b2 b3
        have := hle w' b2 b3
        omega
      · exact ⟨by omega, .inr b1⟩
  have hUy : ∀ y : Int, 1 ≤ y → y ≤ 5000 → U y := fun y h1 h2 => ⟨by omega, by omega⟩
  have ub := up (d + m) l wb okb (fun y h1 h2 => dem_mono (hUy y h1 h2) (hUy y h1 h2) (Int.le_refl _) l d (d + m) (by omega) hok) hb
  have uc := fun wc okc => up d (l ++ [x]) wc okc (fun y h1 h2 => by
    rw [dem_snoc]
    unfold dstep satA
    have h3 := satM_U hx.1 (ceilV_U (hUy y h1 h2) hx.2)
    have h4 := dem_U (hUy y h1 h2) l d ⟨by omega, by omega⟩ hok
    have := h3.1; have := h4.2
    omega)
  have k8 : ∀ (h : Hp) (R : List As) (wc : Int) (okc : Bool), Sep h0 h R → IsWin d (l ++ [x]) 5000 wc okc → K_signalboxlaw25_BusyRises_8 wa oka wb okb wc okc h (WFin h0) := by
    intro h R wc okc hs hw
    have uc := uc wc okc hw
    apply S_signalboxlaw25_BusyRises_8
    unfold B_signalboxlaw25_BusyRises_8
    rw [mBind_ap]
    refine mIf_pos (by simp; omega) ?_
    rw [mBind_ap]
    cases oka with
    | true => exact ⟨rfl, hs.under⟩
    | false =>
      have e1 : okb = false := by rcases ub.2 with h | h; · cases h
                                  · exact h
      have e2 : okc = false := by rcases uc.2 with h | h; · cases h
                                  · exact h
      rw [e1, e2]
      exact ⟨rfl, hs.under⟩
  -- the further row: a copy, and one more
  have win : ∀ (h : Hp) (sl : Sl) (R : List As), Sep h0 h (aRow Ld.enc 2 sl (l ++ [x]) :: R) → (mBind (N_busy_Window d sl 5000) fun r46 => un2 (unI .u64) unB r46 fun (c : Int) (no : Bool) => K_signalboxlaw25_BusyRises_8 wa oka wb okb c no) h (WFin h0) := by
    intro h sl R hs
    have hl2 := hs.rowE 0 rfl (fun _ => rfl) (by omega)
    rw [mBind_ap]
    refine (Window_s (Sep.init h) hl2 (by simp; omega) hok2 (d := d) ⟨by omega, by omega⟩ (m := 5000) ⟨by omega, by omega⟩).mono ?_
    rintro v h' ⟨⟨wc, okc, rfl, hw⟩, hs'⟩
    have hs := hs.rebase hs'
    simp only [un2_tuple, unI_int, unB_bool]
    exact k8 h' _ wc okc hs hw
  have copy : ∀ (h : Hp) (L : List As) (nb : Nat) (K : Sl → M Value), Sep h0 h L → (∀ sl h, Sep h0 h (aRow Ld.enc 2 sl l :: L) → K sl h (WFin h0)) → mApp 95 2 16 #[.int .u64 (0 : Int), .int .u64 (0 : Int)] ⟨(some ⟨nb, 0, none⟩), 0, 0⟩ ls K h (WFin h0) := by
    intro h L nb K hs hK
    have hs := hs.nilRow' Ld.enc 2 ⟨some ⟨nb, 0, none⟩, 0, 0⟩ rfl rfl
    refine hs.app_ 0 l rfl (fun _ => rfl) (RdE.cells (hl.now hs) (fun _ => rfl)) hln ?_ rfl (by omega) (by simp; omega) fun sl h hn hs => ?_
    · intro v hv
      obtain ⟨w, _, hw⟩ := List.mem_flatMap.1 hv
      simp [Ld.enc] at hw
      rcases hw with rfl | rfl <;> rfl
    · simp only [List.set_cons_zero, List.nil_append] at hs
      exact hK sl h hs
  have app : ∀ (h : Hp) (L : List As) (sl : Sl) (nb : Nat) (K : Sl → M Value) (k k2 : Nat), Sep h0 h L → L[k]? = some (aRow Ld.enc 2 sl l) → L[k2]? = some (aBlk nb x.enc) → (∀ sl h, Sep h0 h (L.set k (aRow Ld.enc 2 sl (l ++ [x]))) → K sl h (WFin h0)) → mApp 95 2 16 #[.int .u64 (0 : Int), .int .u64 (0 : Int)] sl ⟨(some ⟨nb, 0, none⟩), 1, 1⟩ K h (WFin h0) := by
    intro h L sl nb K k k2 hs h1 h2 hK
    exact hs.app1 k k2 x h1 h2 (fun _ => rfl) (by simp [Ld.enc, Value.oneCell']) rfl (by omega) (by omega) fun s' h' _ hs => hK s' h' hs
  refine mAnd_intro ?_ ?_
  · refine hs.new fun n1 h hs => ?_
    refine mAnd_intro ?_ ?_
    · refine copy h _ n1 _ hs fun sl h hs => ?_
      (refine Sep.ldI hs 2 rfl rfl ?_; refine Sep.ldI hs 2 rfl rfl ?_; (refine Sep.new hs fun nb_1 h hs => ?_; try simp only [List.toList_toArray] at hs))
      refine app h _ sl _ _ 1 0 hs rfl rfl fun sl' h hs => ?_
      exact win h sl' _ ((hs.at 1 rfl))
    · (refine Sep.ldI hs 1 rfl rfl ?_; refine Sep.ldI hs 1 rfl rfl ?_)
      refine mAnd_intro ?_ ?_
      · refine copy h _ n1 _ hs fun sl h hs => ?_
        ((refine Sep.new hs fun nb_1 h hs => ?_; try simp only [List.toList_toArray] at hs))
        refine app h _ sl _ _ 1 0 hs rfl rfl fun sl' h hs => ?_
        exact win h sl' _ ((hs.at 1 rfl))
      · ((refine Sep.new hs fun nb_1 h hs => ?_; try simp only [List.toList_toArray] at hs))
        refine copy h _ n1 _ hs fun sl h hs => ?_
        refine app h _ sl _ _ 0 1 hs rfl rfl fun sl' h hs => ?_
        exact win h sl' _ hs
  · (refine Sep.ldI hs 0 rfl rfl ?_; refine Sep.ldI hs 0 rfl rfl ?_)
    refine mAnd_intro ?_ ?_
    · refine hs.new fun n1 h hs => ?_
      refine mAnd_intro ?_ ?_
      · refine copy h _ n1 _ hs fun sl h hs => ?_
        ((refine Sep.new hs fun nb_1 h hs => ?_; try simp only [List.toList_toArray] at hs))
        refine app h _ sl _ _ 1 0 hs rfl rfl fun sl' h hs => ?_
        exact win h sl' _ ((hs.at 1 rfl))
      · ((refine Sep.new hs fun nb_1 h hs => ?_; try simp only [List.toList_toArray] at hs))
        refine copy h _ n1 _ hs fun sl h hs => ?_
        refine app h _ sl _ _ 0 1 hs rfl rfl fun sl' h hs => ?_
        exact win h sl' _ hs
    · (refine Sep.new hs fun nb_1 h hs => ?_; try simp only [List.toList_toArray] at hs)
      refine hs.new fun n1 h hs => ?_
      refine copy h _ n1 _ hs fun sl h hs => ?_
      refine app h _ sl _ _ 0 2 hs rfl rfl fun sl' h hs => ?_
      exact win h sl' _ hs
end
end Go.Proofs.Ytjifoicncenfpaa
