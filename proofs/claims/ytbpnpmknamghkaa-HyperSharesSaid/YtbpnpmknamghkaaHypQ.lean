/- Shares and multiples: what each call answers, and the laws HyperTells and HyperDivides. Conditions: none. -/
import Derived.Test.YtbpnpmknamghkaaHypL
import Derived.Test.YtbpnpmknamghkaaSbW
namespace Go.Proofs.Ytbpnpmknamghkaa
open Go Go.Sb
set_option linter.unusedSimpArgs false
set_option linter.unusedVariables false
abbrev HFin (h0 : Hp) : Value → Hp → Prop := fun v h' => v = .bool true ∧ Under h0.size h0 h'
theorem wrn (q : Nat) (h : q ≤ 18446744073709551615) : IntKind.u64.wrap (q : Int) = q := wrapu64 _ (by omega)
theorem U_nat (q : Nat) (h : q ≤ 18446744073709551615) : U (q : Int) := ⟨by omega, by omega⟩
theorem gcd_swap (a b : Nat) : Nat.gcd b (a % b) = Nat.gcd a b := by
  rw [Nat.gcd_comm a b, Nat.gcd_rec b a, Nat.gcd_comm]
theorem hg1 (a b : Nat) (h : Hp) : K_hyper_Gcd_1 (a : Int) (b : Int) h (fun v h' => v = .int .u64 (Nat.gcd a b : Nat) ∧ h' = h) := by
  apply S_hyper_Gcd_1
  unfold B_hyper_Gcd_1
  refine mIf_intro (fun hc => ?_) (fun hc => ?_)
  · have hb : b ≠ 0 := fun e => by subst e; exact absurd hc (by decide)
    refine ⟨by omega, ?_⟩
    rw [show Int.tmod (a : Int) (b : Int) = ((a % b : Nat) : Int) from rfl]
    have hlt : a % b < b := Nat.mod_lt _ (by omega)
    have := hg1 b (a % b) h
    rwa [gcd_swap] at this
  · have hb : b = 0 := by
      have : ((b : Int) != 0) = false := hc
      simp at this; exact this
    subst hb
    rw [Nat.gcd_zero_right]
    exact ⟨rfl, rfl⟩
termination_by b
theorem rg1 (a b : Nat) (h : Hp) : K_signalboxref32_Gcd_1 (a : Int) (b : Int) h (fun v h' => v = .int .u64 (Nat.gcd a b : Nat) ∧ h' = h) := by
  apply S_signalboxref32_Gcd_1
  unfold B_signalboxref32_Gcd_1
  refine mIf_intro (fun hc => ?_) (fun hc => ?_)
  · have hb : b ≠ 0 := fun e => by subst e; exact absurd hc (by decide)
    refine ⟨by omega, ?_⟩
    rw [show Int.tmod (a : Int) (b : Int) = ((a % b : Nat) : Int) from rfl]
    have hlt : a % b < b := Nat.mod_lt _ (by omega)
    have := rg1 b (a % b) h
    rwa [gcd_swap] at this
  · have hb : b = 0 := by
      have : ((b : Int) != 0) = false := hc
      simp at this; exact this
    subst hb
    rw [Nat.gcd_zero_right]
    exact ⟨rfl, rfl⟩
termination_by b
theorem Gcd_s (a b : Nat) (h : Hp) : N_hyper_Gcd (a : Int) (b : Int) h (fun v h' => v = .int .u64 (Nat.gcd a b : Nat) ∧ h' = h) := S_hyper_Gcd _ _ (hg1 a b h)
theorem rGcd_s (a b : Nat) (h : Hp) : N_signalboxref32_Gcd (a : Int) (b : Int) h (fun v h' => v = .int .u64 (Nat.gcd a b : Nat) ∧ h' = h) := S_signalboxref32_Gcd _ _ (rg1 a b h)
/-- the common multiple, that stops -/
def lcmS (a b : Nat) : Nat := min (a / Nat.gcd a b * b) 18446744073709551615
theorem lcmS_le (a b : Nat) : lcmS a b ≤ 18446744073709551615 := by unfold lcmS; omega
theorem lcmS_zero {a b : Nat} (h : a = 0 ∨ b = 0) : lcmS a b = 0 := by
  unfold lcmS; rcases h with rfl | rfl <;> simp
theorem satM_nat (x b : Nat) : satM (x : Int) (b : Int) = ((min (x * b) 18446744073709551615 : Nat) : Int) := by
  unfold satM
  rw [← Int.natCast_mul]
  omega
theorem Lcm_s (a b : Nat) (ha : a ≤ 18446744073709551615) (hb : b ≤ 18446744073709551615) (h : Hp) : N_hyper_Lcm (a : Int) (b : Int) h (fun v h' => v = .int .u64 (lcmS a b : Nat) ∧ h' = h) := by
  apply S_hyper_Lcm
  unfold B_hyper_Lcm
  refine mIf_intro (fun hc => ?_) (fun hc => ?_)
  · rw [lcmS_zero (by simp at hc; omega)]; exact ⟨rfl, rfl⟩
  · have h0 : a ≠ 0 ∧ b ≠ 0 := by simp at hc; omega
    rw [mBind_ap]
    refine (Gcd_s a b h).mono ?_
    rintro v h' ⟨rfl, rfl⟩
    have hg := Nat.gcd_pos_of_pos_left b (show 0 < a by omega)
    simp only [unI_int]
    refine ⟨by omega, ?_⟩
    have hd := Nat.div_le_self a (Nat.gcd a b)
    rw [show Int.tdiv (a : Int) ((Nat.gcd a b : Nat) : Int) = ((a / Nat.gcd a b : Nat) : Int) from rfl, wrn _ (Nat.le_trans hd ha), mBind_ap]
    refine (Mul_s (U_nat _ (Nat.le_trans hd ha)) (U_nat b hb)).mono ?_
    rintro v h' ⟨rfl, rfl⟩
    rw [satM_nat]
    simp only [unI_int]
    exact ⟨rfl, rfl⟩
theorem Times_s (a b : Nat) (ha : a ≤ 18446744073709551615) (hb : b ≤ 18446744073709551615) (h : Hp) : N_signalboxref32_Times (a : Int) (b : Int) h (fun v h' => (∃ x : Nat, v = .tuple #[.int .u64 x, .bool (decide (a * b < 18446744073709551615))] ∧ (a * b < 18446744073709551615 → x = a * b)) ∧ h' = h) := by
  apply S_signalboxref32_Times
  unfold B_signalboxref32_Times
  refine mIf_intro (fun hc => ?_) (fun hc => ?_)
  · have h0 : a * b = 0 := by
      rw [Nat.mul_eq_zero]; simp at hc; omega
    refine ⟨⟨0, ?_, fun _ => h0.symm⟩, rfl⟩
    rw [h0]
    rfl
  · have h0 : a ≠ 0 ∧ b ≠ 0 := by simp at hc; omega
    refine ⟨by omega, ?_⟩
    have hd := Nat.div_le_self 18446744073709551615 b
    rw [show Int.tdiv (18446744073709551615 : Int) (b : Int) = ((18446744073709551615 / b : Nat) : Int) from rfl, wrn _ hd]
    refine mIf_dec (fun hc => ?_) (fun hc => ?_)
    · have := (Nat.div_lt_iff_lt_mul (show 0 < b by omega)).1 (show 18446744073709551615 / b < a by omega)
      refine ⟨⟨0, ?_, fun hh => by omega⟩, rfl⟩
      rw [decide_eq_false (by omega)]
      rfl
    · have := (Nat.le_div_iff_mul_le (show 0 < b by omega)).1 (show a ≤ 18446744073709551615 / b by omega)
      rw [← Int.natCast_mul, wrapu64 _ (by omega)]
      refine ⟨⟨a * b, ?_, fun _ => rfl⟩, rfl⟩
      rw [show decide (((a * b : Nat) : Int) < 18446744073709551615) = decide (a * b < 18446744073709551615) from decide_eq_decide.2 (by omega)]
theorem rLcm_s (a b : Nat) (ha : a ≤ 18446744073709551615) (hb : b ≤ 18446744073709551615) (h : Hp) : N_signalboxref32_Lcm (a : Int) (b : Int) h (fun v h' => v = .int .u64 (lcmS a b : Nat) ∧ h' = h) := by
  apply S_signalboxref32_Lcm
  unfold B_signalboxref32_Lcm
  refine mIf_intro (fun hc => ?_) (fun hc => ?_)
  · rw [lcmS_zero (by simp at hc; omega)]; exact ⟨rfl, rfl⟩
  · have h0 : a ≠ 0 ∧ b ≠ 0 := by simp at hc; omega
    rw [mBind_ap]
    refine (rGcd_s a b h).mono ?_
    rintro v h' ⟨rfl, rfl⟩
    have hg := Nat.gcd_pos_of_pos_left b (show 0 < a by omega)
    simp only [unI_int]
    refine ⟨by omega, ?_⟩
    have hd := Nat.div_le_self a (Nat.gcd a b)
    rw [show Int.tdiv (a : Int) ((Nat.gcd a b : Nat) : Int) = ((a / Nat.gcd a b : Nat) : Int) from rfl, wrn _ (Nat.le_trans hd ha), mBind_ap]
    refine (Times_s _ b (Nat.le_trans hd ha) hb h').mono ?_
    rintro v h' ⟨⟨x, rfl, hx⟩, rfl⟩
    simp only [un2_tuple, unI_int, unB_bool]
    by_cases hc : a / Nat.gcd a b * b < 18446744073709551615
    · rw [decide_eq_true hc, hx hc]
      refine mIf_neg rfl ⟨?_, rfl⟩
      unfold lcmS
      rw [Nat.min_eq_left (by omega)]
    · rw [decide_eq_false hc]
      refine mIf_pos rfl ⟨?_, rfl⟩
      unfold lcmS
      rw [Nat.min_eq_right (by omega)]
      rfl
def lcT (a b : Nat) : Nat := if a = 18446744073709551615 ∧ b ≠ 0 then a else lcmS a b
theorem lcT_le (a b : Nat) : lcT a b ≤ 18446744073709551615 := by
  have := lcmS_le a b
  unfold lcT; split <;> omega
theorem lcm_s (a b : Nat) (ha : a ≤ 18446744073709551615) (hb : b ≤ 18446744073709551615) (h : Hp) : N_hyper_lcm (a : Int) (b : Int) h (fun v h' => v = .int .u64 (lcT a b : Nat) ∧ h' = h) := by
  apply S_hyper_lcm
  unfold B_hyper_lcm lcT
  refine mIf_intro (fun hc => ?_) (fun hc => ?_)
  · rw [if_pos (by simp at hc; omega)]; exact ⟨rfl, rfl⟩
  · rw [if_neg (by simp at hc; omega), mBind_ap]
    refine (Lcm_s a b ha hb h).mono ?_
    rintro v h' ⟨rfl, rfl⟩
    simp only [unI_int]
    exact ⟨rfl, rfl⟩
def allN (l : List Int) : Nat := l.foldl (fun a b => lcT a b.toNat) 1
theorem fold_len (f : Nat → Int → Nat) (l : List Int) (k : Nat) (hk : k < l.length) (a : Nat) : (l.take (k + 1)).foldl f a = f ((l.take k).foldl f a) l[k] := by
  rw [List.take_succ_eq_append_getElem hk, List.foldl_append]
  rfl
def foldN (l : List Int) (k : Nat) : Nat := (l.take k).foldl (fun a b => lcT a b.toNat) 1
theorem foldN_le (l : List Int) : ∀ k, foldN l k ≤ 18446744073709551615
  | 0 => by unfold foldN; simp
  | k + 1 => by
    by_cases hk : k < l.length
    · unfold foldN; rw [fold_len _ l k hk]; exact lcT_le _ _
    · have := foldN_le l k
      unfold foldN at *
      rw [List.take_of_length_le (by omega)] at *
      exact this
theorem foldN_succ {l : List Int} {k : Nat} (hk : k < l.length) : foldN l (k + 1) = lcT (foldN l k) l[k].toNat := by
  unfold foldN; rw [fold_len _ l k hk]
theorem foldN_all (l : List Int) : foldN l l.length = allN l := by
  unfold foldN allN; rw [List.take_length]
theorem all3 {h : Hp} {ls : Sl} {l : List Int} (hr : RdI h.size h .u64 ls l) (hlen : l.length ≤ 9223372036854775807) : ∀ (d k : Nat), k + d = l.length →
    K_hyper_All_3 (foldN l k : Int) ls (ls.n : Int) (k : Int) h (fun v h' => v = .int .u64 (allN l) ∧ h' = h)
  | 0, k, hk => by
    have hln := hr.n
    apply S_hyper_All_3
    unfold B_hyper_All_3
    refine mIf_neg (by simp; omega) ?_
    rw [show k = l.length by omega, foldN_all]
    exact ⟨rfl, rfl⟩
  | d + 1, k, hk => by
    have ih := all3 hr hlen d (k + 1) (by omega)
    have hln := hr.n
    have hs := Sep.init h
    have hwf := hr.wf
    have hkl : k < l.length := by omega
    have hw := hwf l[k] (List.getElem_mem _)
    have w1 : (0 : Int) ≤ l[k] := hw.1
    have w2 : l[k] ≤ (18446744073709551615 : Int) := hw.2
    apply S_hyper_All_3
    unfold B_hyper_All_3
    refine mIf_pos (by simp; omega) ?_
    (refine Sep.argIn hs hr (by first | omega | (simp only [List.length_set, List.length_map, List.length_replicate, List.length_append, List.length_cons, List.length_nil, List.length_reverse, List.length_range]; omega) | (simp; omega)) ?_; simp only [mBind_ap])
    obtain ⟨z, hz⟩ : ∃ z : Nat, l[k] = z := ⟨l[k].toNat, by omega⟩
    rw [hz]
    refine (lcm_s _ z (foldN_le l k) (by omega) h).mono ?_
    rintro v h' ⟨rfl, rfl⟩
    simp only [unI_int]
    rw [wrap64 _ (by omega), show (k : Int) + 1 = ((k + 1 : Nat) : Int) by omega]
    rw [foldN_succ hkl, hz] at ih
    exact ih
theorem All_s {h : Hp} {ls : Sl} {l : List Int} (hr : RdI h.size h .u64 ls l) (hlen : l.length ≤ 9223372036854775807) : N_hyper_All ls h (fun v h' => v = .int .u64 (allN l) ∧ h' = h) := by
  apply S_hyper_All
  unfold B_hyper_All
  exact all3 hr hlen l.length 0 (by omega)
section
variable {h0 h : Hp} {R : List As}
theorem much_s (hs : Sep h0 h R) : N_hyper_much h (fun v h' => v = .agg #[.int .u64 18446744073709551615, .int .u64 0] ∧ Sep h0 h' R) := by
  apply S_hyper_much
  unfold B_hyper_much
  ((refine Sep.new hs fun nb h hs => ?_; try simp only [List.toList_toArray] at hs); (refine Sep.st hs 0 rfl rfl rfl fun h hs => ?_; simp only [List.set_cons_zero, List.set_cons_succ] at hs); (refine Sep.st hs 0 rfl rfl rfl fun h hs => ?_; simp only [List.set_cons_zero, List.set_cons_succ] at hs); refine Sep.ldI hs 0 rfl rfl ?_; refine Sep.ldI hs 0 rfl rfl ?_)
  exact ⟨rfl, hs.drop⟩
theorem Simple_s (hs : Sep h0 h R) (a b : Nat) (ha : a ≤ 18446744073709551615) (hb : b ≤ 18446744073709551615) (h0b : b ≠ 0) : N_hyper_Simple (a : Int) (b : Int) h (fun v h' => v = .agg #[.int .u64 (a / Nat.gcd a b : Nat), .int .u64 (b / Nat.gcd a b : Nat)] ∧ Sep h0 h' R) := by
  apply S_hyper_Simple
  unfold B_hyper_Simple
  ((refine Sep.new hs fun nb h hs => ?_; try simp only [List.toList_toArray] at hs); (refine Sep.new hs fun nb_1 h hs => ?_; try simp only [List.toList_toArray] at hs); refine Sep.ldI hs 1 rfl rfl ?_; simp only [add_mk, Nat.zero_add])
  refine mIf_neg (by simp; omega) ?_
  (refine Sep.ldI hs 1 rfl rfl ?_; refine Sep.ldI hs 1 rfl rfl ?_; simp only [mBind_ap])
  refine (Gcd_s a b h).mono ?_
  rintro v h' ⟨rfl, rfl⟩
  have hg := Nat.gcd_pos_of_pos_right a (show 0 < b by omega)
  (simp only [unI_int]; refine Sep.ldI hs 1 rfl rfl ?_)
  refine ⟨by omega, ?_⟩
  (refine Sep.ldI hs 1 rfl rfl ?_)
  refine ⟨by omega, ?_⟩
  ((refine Sep.st hs 0 rfl rfl rfl fun h hs => ?_; simp only [List.set_cons_zero, List.set_cons_succ] at hs); (refine Sep.st hs 0 rfl rfl rfl fun h hs => ?_; simp only [List.set_cons_zero, List.set_cons_succ] at hs); refine Sep.ldI hs 0 rfl rfl ?_; refine Sep.ldI hs 0 rfl rfl ?_)
  rw [show Int.tdiv (a : Int) ((Nat.gcd a b : Nat) : Int) = ((a / Nat.gcd a b : Nat) : Int) from rfl, show Int.tdiv (b : Int) ((Nat.gcd a b : Nat) : Int) = ((b / Nat.gcd a b : Nat) : Int) from rfl, wrn _ (Nat.le_trans (Nat.div_le_self _ _) ha), wrn _ (Nat.le_trans (Nat.div_le_self _ _) hb)] at hs ⊢
  exact ⟨rfl, hs.drop.drop⟩
theorem Simple12 (hs : Sep h0 h R) : N_hyper_Simple 1 2 h (fun v h' => v = .agg #[.int .u64 1, .int .u64 2] ∧ Sep h0 h' R) := Simple_s hs 1 2 (by decide) (by decide) (by decide)
theorem Simple16 (hs : Sep h0 h R) : N_hyper_Simple 1 6 h (fun v h' => v = .agg #[.int .u64 1, .int .u64 6] ∧ Sep h0 h' R) := Simple_s hs 1 6 (by decide) (by decide) (by decide)
theorem Simple812 (hs : Sep h0 h R) : N_hyper_Simple 8 12 h (fun v h' => v = .agg #[.int .u64 2, .int .u64 3] ∧ Sep h0 h' R) := Simple_s hs 8 12 (by decide) (by decide) (by decide)
theorem Less_s (hs : Sep h0 h R) : N_hyper_Less 1 3 1 2 h (fun v h' => v = .bool true ∧ Sep h0 h' R) := by
  apply S_hyper_Less
  unfold B_hyper_Less
  ((refine Sep.new hs fun nb h hs => ?_; try simp only [List.toList_toArray] at hs); (refine Sep.new hs fun nb_1 h hs => ?_; try simp only [List.toList_toArray] at hs); refine Sep.ldI hs 1 rfl rfl ?_; simp only [add_mk, Nat.zero_add])
  refine mIf_neg rfl ?_
  (refine Sep.ldI hs 0 rfl rfl ?_)
  refine mIf_neg rfl ?_
  (refine Sep.ldI hs 1 rfl rfl ?_; refine Sep.ldI hs 0 rfl rfl ?_; simp only [mBind_ap])
  refine (mul64_s (a := 1) (b := 2) ⟨by decide, by decide⟩ ⟨by decide, by decide⟩).mono ?_
  rintro v h' ⟨rfl, rfl⟩
  (simp only [un2_tuple, unI_int]; refine Sep.ldI hs 0 rfl rfl ?_; refine Sep.ldI hs 1 rfl rfl ?_; simp only [mBind_ap])
  refine (mul64_s (a := 1) (b := 3) ⟨by decide, by decide⟩ ⟨by decide, by decide⟩).mono ?_
  rintro v h' ⟨rfl, rfl⟩
  (simp only [un2_tuple, unI_int, mBind_ap]; rw [decide_eq_false (by omega), mIf_false]; rw [mRet_ap])
  exact ⟨rfl, hs.drop.drop⟩
theorem Less_s0 (hs : Sep h0 h R) : N_hyper_Less 0 0 1 2 h (fun v h' => v = .bool false ∧ Sep h0 h' R) := by
  apply S_hyper_Less
  unfold B_hyper_Less
  ((refine Sep.new hs fun nb h hs => ?_; try simp only [List.toList_toArray] at hs); (refine Sep.new hs fun nb_1 h hs => ?_; try simp only [List.toList_toArray] at hs); refine Sep.ldI hs 1 rfl rfl ?_; simp only [add_mk, Nat.zero_add])
  exact ⟨rfl, hs.drop.drop⟩
theorem add2 {a b t : Nat} (hs : Sep h0 h (aBlk t [.int .u64 0, .int .u64 0] :: aBlk b [.int .u64 1, .int .u64 6] :: aBlk a [.int .u64 1, .int .u64 2] :: R)) : K_hyper_Add_2 ⟨a, 0, none⟩ ⟨b, 0, none⟩ ⟨t, 0, none⟩ h (fun v h' => v = .agg #[.int .u64 2, .int .u64 3] ∧ Sep h0 h' R) := by
  apply S_hyper_Add_2
  unfold B_hyper_Add_2
  (refine Sep.ldI hs 2 rfl rfl ?_; refine Sep.ldI hs 1 rfl rfl ?_; simp only [add_mk, Nat.zero_add])
  refine mQ_intro _ (Mul_s (a := 1) (b := 6) ⟨by decide, by decide⟩ ⟨by decide, by decide⟩) ?_
  (simp only [unI_int]; refine Sep.ldI hs 1 rfl rfl ?_; refine Sep.ldI hs 2 rfl rfl ?_)
  refine mQ_intro _ (Mul_s (a := 1) (b := 2) ⟨by decide, by decide⟩ ⟨by decide, by decide⟩) ?_
  (simp only [unI_int]; refine Sep.ldI hs 2 rfl rfl ?_; refine Sep.ldI hs 1 rfl rfl ?_)
  refine mQ_intro _ (Mul_s (a := 2) (b := 6) ⟨by decide, by decide⟩ ⟨by decide, by decide⟩) ?_
  (simp only [unI_int, mBind_ap])
  refine (Add_s (a := 6) (b := 2) ⟨by decide, by decide⟩ ⟨by decide, by decide⟩).mono ?_
  rintro v h' ⟨rfl, rfl⟩
  simp only [unI_int]
  refine mIf_neg rfl ?_
  (simp only [mBind_ap])
  refine (Simple812 hs).mono ?_
  rintro v h ⟨rfl, hs⟩
  (simp only [unA_agg, unC_cons, unE_nil, unI_int]; (refine Sep.st hs 0 rfl rfl rfl fun h hs => ?_; simp only [List.set_cons_zero, List.set_cons_succ] at hs); (refine Sep.st hs 0 rfl rfl rfl fun h hs => ?_; simp only [List.set_cons_zero, List.set_cons_succ] at hs); refine Sep.ldI hs 0 rfl rfl ?_; refine Sep.ldI hs 0 rfl rfl ?_)
  exact ⟨rfl, hs.drop.drop.drop⟩
theorem hAdd_s (hs : Sep h0 h R) : N_hyper_Add 1 2 1 6 h (fun v h' => v = .agg #[.int .u64 2, .int .u64 3] ∧ Sep h0 h' R) := by
  apply S_hyper_Add
  unfold B_hyper_Add
  ((refine Sep.new hs fun nb h hs => ?_; try simp only [List.toList_toArray] at hs); (refine Sep.new hs fun nb_1 h hs => ?_; try simp only [List.toList_toArray] at hs); (refine Sep.new hs fun nb_2 h hs => ?_; try simp only [List.toList_toArray] at hs); simp only [add_mk, Nat.zero_add])
  repeat' (first | with_reducible refine mAnd_intro ?_ ?_ | (first | (((with_reducible refine gd_mLdI ?_); refine Sep.ldI hs 2 rfl rfl ?_)) | ((simp only [mBind_ap])) | ((simp only [unA_agg, unC_cons, unE_nil, unI_int])) | (((with_reducible refine gd_mLdI ?_); refine Sep.ldI hs 1 rfl rfl ?_)) | (((with_reducible refine gd_mSt ?_); (refine Sep.st hs 2 rfl rfl rfl fun h hs => ?_; simp only [List.set_cons_zero, List.set_cons_succ] at hs))) | (((with_reducible refine gd_mSt ?_); (refine Sep.st hs 1 rfl rfl rfl fun h hs => ?_; simp only [List.set_cons_zero, List.set_cons_succ] at hs))) | ((simp only [unA_agg, unC_cons, unE_nil, unI_int, mBind_ap]))) | (rw [mBind_ap]; refine (Simple12 hs).mono ?_; rintro v h ⟨rfl, hs⟩) | (rw [mBind_ap]; refine (Simple16 hs).mono ?_; rintro v h ⟨rfl, hs⟩) | (refine (Simple12 hs).mono ?_; rintro v h ⟨rfl, hs⟩) | (refine (Simple16 hs).mono ?_; rintro v h ⟨rfl, hs⟩) | exact add2 hs)
theorem hfixed_s (hs : Sep h0 h R) : N_signalboxlaw32_fixed h (fun v h' => v = .bool true ∧ Sep h0 h' R) := by
  apply S_signalboxlaw32_fixed
  unfold B_signalboxlaw32_fixed
  rw [mBind_ap]
  refine (hAdd_s hs).mono ?_
  rintro v h ⟨rfl, hs⟩
  (simp only [Bool.and_true, unA_agg, unC_cons, unE_nil, unI_int]; (refine Sep.new hs fun nb h hs => ?_; try simp only [List.toList_toArray] at hs); (refine Sep.st hs 0 rfl rfl rfl fun h hs => ?_; simp only [List.set_cons_zero, List.set_cons_succ] at hs); (refine Sep.st hs 0 rfl rfl rfl fun h hs => ?_; simp only [List.set_cons_zero, List.set_cons_succ] at hs); simp only [add_mk, Nat.zero_add, mBind_ap])
  refine (Lcm_s 4 6 (by decide) (by decide) h).mono ?_
  rintro v h' ⟨rfl, rfl⟩
  (simp only [unI_int, mBind_ap])
  refine mIf_pos (by decide) ?_
  (simp only [mBind_ap])
  refine (Gcd_s 0 5 h').mono ?_
  rintro v h' ⟨rfl, rfl⟩
  (simp only [unI_int]; rw [mRet_ap])
  refine mIf_pos (by decide) ?_
  ((refine Sep.new hs fun nb_1 h hs => ?_; try simp only [List.toList_toArray] at hs); simp only [mBind_ap])
  have hs := Blk.row (enc := fun z => [.int .u64 z]) (sz := 1) (xs := [2, 3, 4]) hs 0 rfl rfl (n := 3) rfl
  simp only [List.set_cons_zero] at hs
  have hz : RdI h.size h .u64 ⟨some ⟨nb_1, 0, none⟩, 3, 3⟩ [2, 3, 4] := hs.rowI 0 rfl (by intro z hz; simp at hz; rcases hz with rfl | rfl | rfl <;> decide)
  refine (All_s hz (by decide)).mono ?_
  rintro v h' ⟨rfl, rfl⟩
  (simp only [unI_int]; rw [mRet_ap])
  refine mIf_pos (by decide) ?_
  (refine Sep.ldI hs 1 rfl rfl ?_; refine Sep.ldI hs 1 rfl rfl ?_; rw [mRet_ap])
  refine mIf_pos rfl ?_
  rw [mBind_ap]
  refine (Less_s hs).mono ?_
  rintro v h ⟨rfl, hs⟩
  (simp only [unB_bool]; rw [mRet_ap]; simp only [mIf_true, mBind_ap])
  refine (Less_s0 hs).mono ?_
  rintro v h ⟨rfl, hs⟩
  (simp only [unB_bool, Bool.not_false]; rw [mRet_ap])
  exact ⟨rfl, hs.drop.drop⟩
end
section
variable {h0 : Hp} {ls : Sl} {l : List Int} {a b : Nat}
theorem ht7 (hr : RdI h0.size h0 .u64 ls l) (hlen : l.length ≤ 60) (ha : a ≤ 18446744073709551615) (hb : b ≤ 18446744073709551615) : ∀ (d k : Nat) (h : Hp), k + d = l.length → Sep h0 h [] →
    K_signalboxlaw32_HyperTells_7 (a : Int) (b : Int) ls (foldN l k : Int) ls (ls.n : Int) (k : Int) h (HFin h0)
  | 0, k, h, hk, hs => by
    have hln := hr.n
    apply S_signalboxlaw32_HyperTells_7
    unfold B_signalboxlaw32_HyperTells_7
    refine mIf_neg (by simp; omega) ?_
    rw [mBind_ap]
    refine (Gcd_s a b h).mono ?_
    rintro v h' ⟨rfl, rfl⟩
    (simp only [unI_int, mBind_ap])
    refine (rGcd_s a b h').mono ?_
    rintro v h' ⟨rfl, rfl⟩
    (simp only [unI_int, mBind_ap])
    refine mIf_pos (by simp) ?_
    (simp only [mBind_ap])
    refine (Lcm_s a b ha hb h').mono ?_
    rintro v h' ⟨rfl, rfl⟩
    (simp only [unI_int, mBind_ap])
    refine (rLcm_s a b ha hb h').mono ?_
    rintro v h' ⟨rfl, rfl⟩
    (simp only [unI_int]; rw [mRet_ap])
    refine mIf_pos (by simp) ?_
    (simp only [mBind_ap])
    refine (All_s (hr.now hs) (by omega)).mono ?_
    rintro v h' ⟨rfl, rfl⟩
    (simp only [unI_int]; rw [mRet_ap])
    rw [show k = l.length by omega, foldN_all]
    exact ⟨by simp, hs.under⟩
  | d + 1, k, h, hk, hs => by
    have ih := fun h => ht7 hr hlen ha hb d (k + 1) h (by omega)
    have hln := hr.n
    have hwf := hr.wf
    have hkl : k < l.length := by omega
    have hw := hwf l[k] (List.getElem_mem _)
    have w1 : (0 : Int) ≤ l[k] := hw.1
    have w2 : l[k] ≤ (18446744073709551615 : Int) := hw.2
    have hle := foldN_le l k
    apply S_signalboxlaw32_HyperTells_7
    unfold B_signalboxlaw32_HyperTells_7
    refine mIf_pos (by simp; omega) ?_
    (refine Sep.argIn hs hr (by first | omega | (simp only [List.length_set, List.length_map, List.length_replicate, List.length_append, List.length_cons, List.length_nil, List.length_reverse, List.length_range]; omega) | (simp; omega)) ?_)
    obtain ⟨z, hz⟩ : ∃ z : Nat, l[k] = z := ⟨l[k].toNat, by omega⟩
    rw [hz]
    rw [wrap64 _ (by omega), show (k : Int) + 1 = ((k + 1 : Nat) : Int) by omega]
    rw [foldN_succ hkl, hz] at ih
    refine mIf_intro (fun hc => ?_) (fun hc => ?_)
    · rw [mBind_ap]
      refine (rLcm_s _ z hle (by omega) h).mono ?_
      rintro v h' ⟨rfl, rfl⟩
      simp only [unI_int]
      have := ih h' hs
      rw [Int.toNat_natCast] at this
      rw [show lcmS (foldN l k) z = lcT (foldN l k) z by unfold lcT; rw [if_neg]; simp at hc; omega]
      exact this
    · have := ih h hs
      rw [Int.toNat_natCast] at this
      rw [show lcT (foldN l k) z = foldN l k by unfold lcT; rw [if_pos]; simp at hc; omega] at this
      exact this
theorem HyperTells_ok {a b : Int} (ha : 0 ≤ a ∧ a ≤ 18446744073709551615) (hb : 0 ≤ b ∧ b ≤ 18446744073709551615) (hr : RdI h0.size h0 .u64 ls l) : N_signalboxlaw32_HyperTells a b ls h0 (HFin h0) := by
  have hs := Sep.init h0
  have hln := hr.n
  obtain ⟨a, rfl⟩ : ∃ n : Nat, a = n := ⟨a.toNat, by omega⟩
  obtain ⟨b, rfl⟩ : ∃ n : Nat, b = n := ⟨b.toNat, by omega⟩
  apply S_signalboxlaw32_HyperTells
  unfold B_signalboxlaw32_HyperTells
  rw [mBind_ap]
  refine (hfixed_s hs).mono ?_
  rintro v h ⟨rfl, hs⟩
  simp only [unB_bool]
  refine mIf_neg (by simp) ?_
  refine mIf_dec (fun hc => ⟨rfl, hs.under⟩) (fun hc => ?_)
  exact ht7 hr (by omega) (by omega) (by omega) l.length 0 h (by omega) hs
theorem HyperDivides_ok {a b : Int} (ha : 0 ≤ a ∧ a ≤ 4294967295) (hb : 0 ≤ b ∧ b ≤ 4294967295) : N_signalboxlaw32_HyperDivides a b h0 (HFin h0) := by
  have hs := Sep.init h0
  obtain ⟨a, rfl⟩ : ∃ n : Nat, a = n := ⟨a.toNat, by omega⟩
  obtain ⟨b, rfl⟩ : ∃ n : Nat, b = n := ⟨b.toNat, by omega⟩
  apply S_signalboxlaw32_HyperDivides
  unfold B_signalboxlaw32_HyperDivides
  rw [mBind_ap]
  refine (hfixed_s hs).mono ?_
  rintro v h ⟨rfl, hs⟩
  simp only [unB_bool]
  refine mIf_neg (by simp) ?_
  rw [wrn a (by omega), wrn b (by omega), mBind_ap]
  refine (Gcd_s a b h).mono ?_
  rintro v h' ⟨rfl, rfl⟩
  (simp only [unI_int, mBind_ap])
  refine (Lcm_s a b (by omega) (by omega) h').mono ?_
  rintro v h' ⟨rfl, rfl⟩
  (simp only [unI_int])
  refine mIf_intro (fun hc => ?_) (fun hc => ?_)
  · have h0 : a = 0 ∨ b = 0 := by simp at hc; omega
    rw [lcmS_zero h0, wrapu64 _ (by omega)]
    refine ⟨?_, hs.under⟩
    rcases h0 with rfl | rfl
    · rw [Nat.gcd_zero_left]; simp
    · rw [Nat.gcd_zero_right]; simp
  · have h0 : a ≠ 0 ∧ b ≠ 0 := by simp at hc; omega
    have hg := Nat.gcd_pos_of_pos_left b (show 0 < a by omega)
    have hda := Nat.gcd_dvd_left a b
    have hdb := Nat.gcd_dvd_right a b
    have hab : a * b ≤ 4294967295 * 4294967295 := Nat.mul_le_mul (by omega) (by omega)
    have hl : lcmS a b = a / Nat.gcd a b * b := by
      unfold lcmS
      have := Nat.mul_le_mul_right b (Nat.div_le_self a (Nat.gcd a b))
      exact Nat.min_eq_left (by omega)
    have hgl : Nat.gcd a b * lcmS a b = a * b := by
      rw [hl, ← Nat.mul_assoc, Nat.mul_div_cancel' hda]
    have hla : a ∣ lcmS a b := by
      rw [hl, Nat.div_mul_right_comm hda, Nat.mul_div_assoc a hdb]
      exact Nat.dvd_mul_right _ _
    have hlb : b ∣ lcmS a b := by rw [hl]; exact Nat.dvd_mul_left _ _
    have tm : ∀ x y : Nat, y ∣ x → (Int.tmod (x : Int) (y : Int) == 0) = true := by
      intro x y hxy
      rw [show Int.tmod (x : Int) (y : Int) = ((x % y : Nat) : Int) from rfl, Nat.mod_eq_zero_of_dvd hxy]
      rfl
    generalize Nat.gcd a b = g at *
    generalize lcmS a b = m at *
    (simp only [mBind_ap]; rw [decide_eq_true (by omega), mIf_true])
    refine ⟨by omega, ?_⟩
    (rw [mRet_ap])
    refine mIf_pos (tm _ _ hda) ?_
    (skip)
    refine ⟨by omega, ?_⟩
    (rw [mRet_ap])
    refine mIf_pos (tm _ _ hdb) ?_
    (skip)
    refine ⟨by omega, ?_⟩
    (rw [mRet_ap])
    refine mIf_pos (tm _ _ hla) ?_
    (skip)
    refine ⟨by omega, ?_⟩
    (rw [mRet_ap])
    rw [tm _ _ hlb, ← Int.natCast_mul, ← Int.natCast_mul, hgl]
    exact ⟨by simp, hs.under⟩
end
end Go.Proofs.Ytbpnpmknamghkaa
