/- Shares: what any two add up to, what the reference says; the law HyperShares. Conditions: none. -/
import Derived.Test.YtbpnpmknamghkaaHypR
import Derived.Test.YtbpnpmknamghkaaHypA
import Derived.Test.YtbpnpmknamghkaaHysM
import Derived.Test.YtbpnpmknamghkaaSbW
namespace Go.Proofs.Ytbpnpmknamghkaa
open Go Go.Sb
set_option linter.unusedSimpArgs false
set_option linter.unusedVariables false
/-- the sum of two shares -/
def addN (a u b v : Nat) : Nat × Nat :=
  if (simN a u).2 * (simN b v).2 = 0 ∨ 18446744073709551615 ≤ (simN a u).2 * (simN b v).2 ∨ 18446744073709551615 ≤ (simN a u).1 * (simN b v).2 + (simN b v).1 * (simN a u).2 then (18446744073709551615, 0) else
    simN ((simN a u).1 * (simN b v).2 + (simN b v).1 * (simN a u).2) ((simN a u).2 * (simN b v).2)
theorem simN_le {a u : Nat} (ha : a ≤ 18446744073709551615) (hu : u ≤ 18446744073709551615) : (simN a u).1 ≤ 18446744073709551615 ∧ (simN a u).2 ≤ 18446744073709551615 := by
  unfold simN
  split
  · exact ⟨Nat.le_refl _, Nat.zero_le _⟩
  · exact ⟨Nat.le_trans (Nat.div_le_self _ _) ha, Nat.le_trans (Nat.div_le_self _ _) hu⟩
theorem satM_nat' (x b : Nat) : satM (x : Int) (b : Int) = ((min (x * b) 18446744073709551615 : Nat) : Int) := satM_nat x b
theorem satA_nat (x b : Nat) : satA (x : Int) (b : Int) = ((min (x + b) 18446744073709551615 : Nat) : Int) := by unfold satA; omega
section
variable {h0 h : Hp} {R : List As}
theorem addG2 {a b t : Nat} {p u q v : Nat} (hp : p ≤ 18446744073709551615) (hu : u ≤ 18446744073709551615) (hq : q ≤ 18446744073709551615) (hv : v ≤ 18446744073709551615) {r : Nat × Nat}
    (hr : r = if u * v = 0 ∨ 18446744073709551615 ≤ u * v ∨ 18446744073709551615 ≤ p * v + q * u then (18446744073709551615, 0) else simN (p * v + q * u) (u * v))
    (hs : Sep h0 h (aBlk t [.int .u64 0, .int .u64 0] :: aBlk b [.int .u64 (q : Int), .int .u64 (v : Int)] :: aBlk a [.int .u64 (p : Int), .int .u64 (u : Int)] :: R)) : K_hyper_Add_2 ⟨a, 0, none⟩ ⟨b, 0, none⟩ ⟨t, 0, none⟩ h (fun w h' => w = .agg #[.int .u64 (r.1 : Int), .int .u64 (r.2 : Int)] ∧ Sep h0 h' R) := by
  apply S_hyper_Add_2
  unfold B_hyper_Add_2
  (refine Sep.ldI hs 2 rfl rfl ?_; refine Sep.ldI hs 1 rfl rfl ?_; simp only [add_mk, Nat.zero_add])
  refine mQ_intro _ (Mul_s (U_nat p hp) (U_nat v hv)) ?_
  rw [satM_nat]
  generalize hX : p * v = X at hr
  (simp only [unI_int]; refine Sep.ldI hs 1 rfl rfl ?_; refine Sep.ldI hs 2 rfl rfl ?_)
  refine mQ_intro _ (Mul_s (U_nat q hq) (U_nat u hu)) ?_
  rw [satM_nat]
  generalize hY : q * u = Y at hr
  (simp only [unI_int]; refine Sep.ldI hs 2 rfl rfl ?_; refine Sep.ldI hs 1 rfl rfl ?_)
  refine mQ_intro _ (Mul_s (U_nat u hu) (U_nat v hv)) ?_
  rw [satM_nat]
  generalize hZ : u * v = Z at hr
  (simp only [unI_int, mBind_ap])
  refine (Add_s (U_nat _ (Nat.min_le_right _ _)) (U_nat _ (Nat.min_le_right _ _))).mono ?_
  rintro w h' ⟨rfl, rfl⟩
  rw [satA_nat]
  simp only [unI_int]
  have cond : ∀ (x y z s : Int), (0 ≤ x ∧ x ≤ s) → (0 ≤ y ∧ y ≤ s) → 0 ≤ z → s ≤ 18446744073709551615 → z ≤ 18446744073709551615 → ((z == 0) || ((if s > (if z > (if y > x then y else x) then z else (if y > x then y else x)) then s else (if z > (if y > x then y else x) then z else (if y > x then y else x))) == 18446744073709551615)) = decide (z = 0 ∨ z = 18446744073709551615 ∨ s = 18446744073709551615) := by
    intro x y z s hx hy hz hs1 hz1
    rw [Bool.eq_iff_iff]
    simp only [Bool.or_eq_true, beq_iff_eq, decide_eq_true_eq]
    split <;> split <;> split <;> omega
  rw [cond _ _ _ _ ⟨by omega, by omega⟩ ⟨by omega, by omega⟩ (by omega) (by omega) (by omega)]
  refine mIf_dec (fun hc => ?_) (fun hc => ?_)
  · rw [if_pos (by omega)] at hr
    subst hr
    rw [mBind_ap]
    refine (much_s hs).mono ?_
    rintro w h ⟨rfl, hs⟩
    (simp only [unA_agg, unC_cons, unE_nil, unI_int]; (refine Sep.st hs 0 rfl rfl rfl fun h hs => ?_; simp only [List.set_cons_zero, List.set_cons_succ] at hs); (refine Sep.st hs 0 rfl rfl rfl fun h hs => ?_; simp only [List.set_cons_zero, List.set_cons_succ] at hs); refine Sep.ldI hs 0 rfl rfl ?_; refine Sep.ldI hs 0 rfl rfl ?_)
    exact ⟨rfl, hs.drop.drop.drop⟩
  · rw [if_neg (by omega)] at hr
    have e1 : min (min X 18446744073709551615 + min Y 18446744073709551615) 18446744073709551615 = X + Y := by omega
    have e2 : min Z 18446744073709551615 = Z := by omega
    rw [e1, e2, mBind_ap]
    refine (SimG_s hs (X + Y) Z (by omega) (by omega)).mono ?_
    rintro w h ⟨rfl, hs⟩
    rw [← hr]
    (simp only [unA_agg, unC_cons, unE_nil, unI_int]; (refine Sep.st hs 0 rfl rfl rfl fun h hs => ?_; simp only [List.set_cons_zero, List.set_cons_succ] at hs); (refine Sep.st hs 0 rfl rfl rfl fun h hs => ?_; simp only [List.set_cons_zero, List.set_cons_succ] at hs); refine Sep.ldI hs 0 rfl rfl ?_; refine Sep.ldI hs 0 rfl rfl ?_)
    exact ⟨rfl, hs.drop.drop.drop⟩
theorem AddG_s (hs : Sep h0 h R) (a u b v : Nat) (ha : a ≤ 18446744073709551615) (hu : u ≤ 18446744073709551615) (hb : b ≤ 18446744073709551615) (hv : v ≤ 18446744073709551615) : N_hyper_Add (a : Int) (u : Int) (b : Int) (v : Int) h (fun w h' => w = .agg #[.int .u64 ((addN a u b v).1 : Int), .int .u64 ((addN a u b v).2 : Int)] ∧ Sep h0 h' R) := by
  have sa := simN_le ha hu
  have sb := simN_le hb hv
  apply S_hyper_Add
  unfold B_hyper_Add
  ((refine Sep.new hs fun nb h hs => ?_; try simp only [List.toList_toArray] at hs); (refine Sep.new hs fun nb_1 h hs => ?_; try simp only [List.toList_toArray] at hs); (refine Sep.new hs fun nb_2 h hs => ?_; try simp only [List.toList_toArray] at hs); simp only [add_mk, Nat.zero_add])
  repeat' (first | with_reducible refine mAnd_intro ?_ ?_ | (first | (((with_reducible refine gd_mLdI ?_); refine Sep.ldI hs 2 rfl rfl ?_)) | ((simp only [mBind_ap])) | ((simp only [unA_agg, unC_cons, unE_nil, unI_int])) | (((with_reducible refine gd_mLdI ?_); refine Sep.ldI hs 1 rfl rfl ?_)) | (((with_reducible refine gd_mSt ?_); (refine Sep.st hs 2 rfl rfl rfl fun h hs => ?_; simp only [List.set_cons_zero, List.set_cons_succ] at hs))) | (((with_reducible refine gd_mSt ?_); (refine Sep.st hs 1 rfl rfl rfl fun h hs => ?_; simp only [List.set_cons_zero, List.set_cons_succ] at hs))) | ((simp only [unA_agg, unC_cons, unE_nil, unI_int, mBind_ap]))) | (refine (SimG_s hs a u ha hu).mono ?_; rintro v h ⟨rfl, hs⟩) | (refine (SimG_s hs b v hb hv).mono ?_; rintro v h ⟨rfl, hs⟩))
  all_goals exact addG2 sa.1 sa.2 sb.1 sb.2 rfl hs
theorem rSim_s (a u : Nat) (ha : a ≤ 18446744073709551615) (hu : u ≤ 18446744073709551615) : N_signalboxref32_Simple (a : Int) (u : Int) h (fun w h' => w = .tuple #[.int .u64 ((simN a u).1 : Int), .int .u64 ((simN a u).2 : Int)] ∧ h' = h) := by
  apply S_signalboxref32_Simple
  unfold B_signalboxref32_Simple simN
  refine mIf_intro (fun hc => ?_) (fun hc => ?_)
  · rw [if_pos (by simpa using hc)]
    exact ⟨rfl, rfl⟩
  · have hc : ¬ u = 0 := by simpa using hc
    rw [if_neg hc, mBind_ap]
    refine (rGcd_s a u h).mono ?_
    rintro w h' ⟨rfl, rfl⟩
    simp only [unI_int]
    have hg := Nat.gcd_pos_of_pos_right a (show 0 < u by omega)
    have d1 := Nat.div_le_self a (Nat.gcd a u)
    have d2 := Nat.div_le_self u (Nat.gcd a u)
    refine ⟨by omega, by omega, ?_⟩
    rw [mRet_ap, show Int.tdiv (a : Int) (Nat.gcd a u : Int) = ((a / Nat.gcd a u : Nat) : Int) from rfl, show Int.tdiv (u : Int) (Nat.gcd a u : Int) = ((u / Nat.gcd a u : Nat) : Int) from rfl, wrn _ (by omega), wrn _ (by omega)]
    exact ⟨rfl, rfl⟩
theorem rAdd_s (a u b v : Nat) (ha : a ≤ 18446744073709551615) (hu : u ≤ 18446744073709551615) (hb : b ≤ 18446744073709551615) (hv : v ≤ 18446744073709551615) : N_signalboxref32_Add (a : Int) (u : Int) (b : Int) (v : Int) h (fun w h' => w = .tuple #[.int .u64 ((addN a u b v).1 : Int), .int .u64 ((addN a u b v).2 : Int)] ∧ h' = h) := by
  have sa := simN_le ha hu
  have sb := simN_le hb hv
  apply S_signalboxref32_Add
  unfold B_signalboxref32_Add addN
  rw [mBind_ap]
  refine (rSim_s a u ha hu).mono ?_
  rintro w h' ⟨rfl, rfl⟩
  simp only [un2_tuple, unI_int]
  rw [mBind_ap]
  refine (rSim_s b v hb hv).mono ?_
  rintro w h' ⟨rfl, rfl⟩
  simp only [un2_tuple, unI_int]
  generalize (simN a u).1 = p at sa
  generalize (simN a u).2 = q at sa
  generalize (simN b v).1 = r at sb
  generalize (simN b v).2 = s at sb
  rw [mBind_ap]
  refine (Times_s p s sa.1 sb.2 _).mono ?_
  rintro w h' ⟨⟨x, rfl, hx⟩, rfl⟩
  simp only [un2_tuple, unI_int, unB_bool]
  rw [mBind_ap]
  refine (Times_s r q sb.1 sa.2 _).mono ?_
  rintro w h' ⟨⟨y, rfl, hy⟩, rfl⟩
  simp only [un2_tuple, unI_int, unB_bool]
  rw [mBind_ap]
  refine (Times_s q s sa.2 sb.2 _).mono ?_
  rintro w h' ⟨⟨z, rfl, hz⟩, rfl⟩
  simp only [un2_tuple, unI_int, unB_bool]
  have h0 : q * s = 0 ↔ q = 0 ∨ s = 0 := Nat.mul_eq_zero
  generalize p * s = X at hx ⊢
  generalize r * q = Y at hy ⊢
  generalize q * s = Z at hz h0 ⊢
  refine mIf_intro (fun hc => ?_) (fun hc => ?_)
  · rw [if_pos ?_]
    · exact ⟨rfl, rfl⟩
    · simp only [Bool.or_eq_true, beq_iff_eq, Bool.not_eq_true', decide_eq_false_iff_not, decide_eq_true_eq] at hc
      by_cases c1 : X < 18446744073709551615
      · by_cases c2 : Y < 18446744073709551615
        · have e1 := hx c1
          have e2 := hy c2
          subst e1 e2
          rw [wrapu64 _ (by omega)] at hc
          omega
        · omega
      · omega
  · simp only [Bool.or_eq_false_iff, beq_eq_false_iff_ne, ne_eq, Bool.not_eq_false', decide_eq_false_iff_not, decide_eq_true_eq] at hc
    obtain ⟨⟨⟨⟨⟨c1, c2⟩, c3⟩, c4⟩, c5⟩, c6⟩ := hc
    have e1 := hx c3
    have e2 := hy c4
    have e3 := hz c5
    subst e1 e2 e3
    rw [wrapu64 _ (by omega)] at c6
    rw [if_neg (by omega), ← Int.natCast_add, wrn _ (by omega), mBind_ap]
    refine (rSim_s (x + y) z (by omega) (by omega)).mono ?_
    rintro w h' ⟨rfl, rfl⟩
    exact ⟨rfl, rfl⟩
/-- one step of the reference: whole parts, then what is left, turned round -/
theorem less_turn {a b c d : Nat} (hb : b ≠ 0) (hd : d ≠ 0) (he : a / b = c / d) (hc : c % d ≠ 0) (ha : a % b ≠ 0) : lessN a b c d = lessN d (c % d) b (a % b) := by
  unfold lessN
  rw [if_neg hb, if_neg hd, if_neg hc, if_neg ha]
  have h1 := Nat.div_add_mod a b
  have h2 := Nat.div_add_mod c d
  rw [he] at h1
  generalize c / d = q at h1 h2
  generalize a % b = r at h1
  generalize c % d = s at h2
  refine decide_eq_decide.2 ?_
  rw [← h1, ← h2, Nat.add_mul, Nat.add_mul, Nat.mul_right_comm b q d, show d * q * b = b * d * q by rw [Nat.mul_comm d q, Nat.mul_assoc, Nat.mul_comm q, Nat.mul_comm d b], Nat.mul_comm d r, Nat.mul_comm b s]
  omega
theorem less_whole {a b c d : Nat} (hb : b ≠ 0) (hd : d ≠ 0) (he : a / b ≠ c / d) : lessN a b c d = decide (a / b < c / d) := by
  unfold lessN
  rw [if_neg hb, if_neg hd]
  refine decide_eq_decide.2 ?_
  have l1 := Nat.lt_mul_div_succ a (show 0 < b by omega)
  have l2 := Nat.mul_div_le a b
  have l3 := Nat.lt_mul_div_succ c (show 0 < d by omega)
  have l4 := Nat.mul_div_le c d
  generalize a / b = p at *
  generalize c / d = q at *
  have hbd : 0 < b * d := Nat.mul_pos (by omega) (by omega)
  constructor
  · intro hh
    rcases Nat.lt_or_ge p q with hlt | hge
    · exact hlt
    · exfalso
      -- q < p, so q + 1 ≤ p; c < d (q + 1) ≤ d p, a ≥ b p
      have h1 : c * b ≤ d * (q + 1) * b := Nat.mul_le_mul_right _ (by omega)
      have h2 : b * p * d ≤ a * d := Nat.mul_le_mul_right _ l2
      have h3 : d * (q + 1) * b ≤ b * p * d := by
        have : (b * d) * (q + 1) ≤ (b * d) * p := Nat.mul_le_mul_left _ (by omega)
        rw [Nat.mul_right_comm b p d, show d * (q + 1) * b = b * d * (q + 1) by rw [Nat.mul_right_comm, Nat.mul_comm d b]]
        exact this
      omega
  · intro hlt
    have h1 : a * d < b * (p + 1) * d := Nat.mul_lt_mul_of_pos_right l1 (by omega)
    have h2 : d * q * b ≤ c * b := Nat.mul_le_mul_right _ l4
    have h3 : b * (p + 1) * d ≤ d * q * b := by
      have : (b * d) * (p + 1) ≤ (b * d) * q := Nat.mul_le_mul_left _ (by omega)
      rw [Nat.mul_right_comm b (p + 1) d, show d * q * b = b * d * q by rw [Nat.mul_right_comm, Nat.mul_comm d b]]
      exact this
    omega
theorem less_flat {a b c d : Nat} (hb : b ≠ 0) (hd : d ≠ 0) (he : a / b = c / d) (hc : c % d = 0) : lessN a b c d = false := by
  unfold lessN
  rw [if_neg hb, if_neg hd]
  refine decide_eq_false ?_
  have h2 := Nat.div_add_mod c d
  have l2 := Nat.mul_div_le a b
  rw [he] at l2
  rw [hc, Nat.add_zero] at h2
  generalize c / d = q at h2 l2
  rw [← h2]
  have : b * q * d ≤ a * d := Nat.mul_le_mul_right _ l2
  rw [show d * q * b = b * q * d by rw [Nat.mul_right_comm d q b, Nat.mul_comm d b, Nat.mul_right_comm]]
  omega
theorem less_rest {a b c d : Nat} (hb : b ≠ 0) (hd : d ≠ 0) (he : a / b = c / d) (hc : c % d ≠ 0) (ha : a % b = 0) : lessN a b c d = true := by
  unfold lessN
  rw [if_neg hb, if_neg hd]
  refine decide_eq_true ?_
  have h1 := Nat.div_add_mod a b
  have h2 := Nat.div_add_mod c d
  rw [he, ha, Nat.add_zero] at h1
  have hlt : d * (c / d) < c := by omega
  generalize c / d = q at h1 hlt
  rw [← h1]
  have : d * q * b < c * b := Nat.mul_lt_mul_of_pos_right hlt (by omega)
  rw [show b * q * d = d * q * b by rw [Nat.mul_right_comm d q b, Nat.mul_comm d b, Nat.mul_right_comm]]
  exact this
theorem rLess_s : ∀ (n a b c d : Nat), b + d ≤ n → a ≤ 18446744073709551615 → b ≤ 18446744073709551615 → c ≤ 18446744073709551615 → d ≤ 18446744073709551615 → N_signalboxref32_Less (a : Int) (b : Int) (c : Int) (d : Int) h (fun w h' => w = .bool (lessN a b c d) ∧ h' = h)
  | n, a, b, c, d, hn, ha, hb, hc, hd => by
    apply S_signalboxref32_Less
    unfold B_signalboxref32_Less
    refine mIf_intro (fun h1 => ?_) (fun h1 => ?_)
    · have h1 : b = 0 := by simpa using h1
      unfold lessN
      rw [if_pos h1]
      exact ⟨rfl, rfl⟩
    have h1 : ¬ b = 0 := by simpa using h1
    refine mIf_intro (fun h2 => ?_) (fun h2 => ?_)
    · have h2 : d = 0 := by simpa using h2
      unfold lessN
      rw [if_neg h1, if_pos h2]
      exact ⟨rfl, rfl⟩
    have h2 : ¬ d = 0 := by simpa using h2
    have q1 := Nat.div_le_self a b
    have q2 := Nat.div_le_self c d
    have r1 := Nat.mod_lt a (show 0 < b by omega)
    have r2 := Nat.mod_lt c (show 0 < d by omega)
    rw [show Int.tdiv (a : Int) (b : Int) = ((a / b : Nat) : Int) from rfl, show Int.tdiv (c : Int) (d : Int) = ((c / d : Nat) : Int) from rfl, wrn _ (by omega), wrn _ (by omega)]
    rw [show Int.tmod (a : Int) (b : Int) = ((a % b : Nat) : Int) from rfl, show Int.tmod (c : Int) (d : Int) = ((c % d : Nat) : Int) from rfl]
    refine ⟨by omega, by omega, ?_⟩
    refine mIf_intro (fun h3 => ?_) (fun h3 => ?_)
    · have h3 : ¬ a / b = c / d := by simp at h3; omega
      refine ⟨by omega, by omega, ?_⟩
      rw [less_whole h1 h2 h3, mRet_ap]
      refine ⟨?_, rfl⟩
      congr 1
      exact decide_eq_decide.2 (by omega)
    have h3 : a / b = c / d := by simp at h3; omega
    refine ⟨by omega, ?_⟩
    refine mIf_intro (fun h4 => ?_) (fun h4 => ?_)
    · have h4 : c % d = 0 := by simp at h4; omega
      rw [less_flat h1 h2 h3 h4]
      exact ⟨rfl, rfl⟩
    have h4 : c % d ≠ 0 := by simp at h4; omega
    refine ⟨by omega, ?_⟩
    refine mIf_intro (fun h5 => ?_) (fun h5 => ?_)
    · have h5 : a % b = 0 := by simp at h5; omega
      rw [less_rest h1 h2 h3 h4 h5]
      exact ⟨rfl, rfl⟩
    have h5 : a % b ≠ 0 := by simp at h5; omega
    refine ⟨by omega, by omega, ?_⟩
    match n, hn with
    | 0, hn => omega
    | n + 1, hn =>
      refine mQ_intro _ (rLess_s n d (c % d) b (a % b) (by omega) (by omega) (by omega) (by omega) (by omega)) ?_
      rw [less_turn h1 h2 h3 h4 h5]
      exact ⟨rfl, rfl⟩
/-- a call in a region that is walked once -/
theorem mU_nf {α : Type} {P : Program} {g : FuncId} {args : Array Value} {v : Value} {k : Value → M α} {Q : α → Hp → Prop} (hc : Callable P g) (hm : ∀ h' : Hp, Nf P g args h' (fun v' h'' => v' = v ∧ Sep h' h'' [])) (hk : k v h Q) : mU (Callable P g) (Nf P g args) k h Q := by
  refine ⟨hc, v, fun h' hu => (hm h').mono ?_, hk⟩
  rintro v' h'' ⟨rfl, hs⟩
  have hs := hs.under
  exact ⟨rfl, hu.trans ⟨hs.size, fun b hb => hs.at_ b (Nat.lt_of_lt_of_le hb hu.size)⟩⟩
theorem HyperShares_n {a u b v : Nat} (ha : a ≤ 18446744073709551615) (hu : u ≤ 18446744073709551615) (hb : b ≤ 18446744073709551615) (hv : v ≤ 18446744073709551615) : N_signalboxlaw32_HyperShares (a : Int) (u : Int) (b : Int) (v : Int) h0 (HFin h0) := by
  have hs := Sep.init h0
  apply S_signalboxlaw32_HyperShares
  unfold B_signalboxlaw32_HyperShares
  ((refine Sep.new hs fun nb h hs => ?_; try simp only [List.toList_toArray] at hs); (refine Sep.new hs fun nb_1 h hs => ?_; try simp only [List.toList_toArray] at hs); simp only [add_mk, Nat.zero_add, Bool.and_true, mBind_ap])
  refine (hfixed_s hs).mono ?_
  rintro x h ⟨rfl, hs⟩
  (simp only [unB_bool, Bool.not_true, mIf_false]; refine Sep.ldI hs 1 rfl rfl ?_; refine Sep.ldI hs 1 rfl rfl ?_; refine Sep.ldI hs 0 rfl rfl ?_; refine Sep.ldI hs 0 rfl rfl ?_; simp only [mBind_ap])
  refine (rAdd_s a u b v ha hu hb hv).mono ?_
  rintro x h' ⟨rfl, rfl⟩
  (simp only [un2_tuple, unI_int]; refine Sep.ldI hs 1 rfl rfl ?_; refine Sep.ldI hs 1 rfl rfl ?_; simp only [mBind_ap])
  refine (rSim_s a u ha hu).mono ?_
  rintro x h' ⟨rfl, rfl⟩
  (simp only [un2_tuple, unI_int]; refine Sep.ldI hs 1 rfl rfl ?_; refine Sep.ldI hs 1 rfl rfl ?_; refine Sep.ldI hs 0 rfl rfl ?_; refine Sep.ldI hs 0 rfl rfl ?_)
  refine mU_nf Try.call23 (fun g => LessG_s (Sep.init g) a u b v ha hu hb hv) ?_
  (simp only [unB_bool]; refine Sep.ldI hs 1 rfl rfl ?_; refine Sep.ldI hs 1 rfl rfl ?_; refine Sep.ldI hs 0 rfl rfl ?_; refine Sep.ldI hs 0 rfl rfl ?_)
  refine mU_nf Try.call24 (fun g => (rLess_s (u + v) a u b v (Nat.le_refl _) ha hu hb hv).mono (by rintro w h' ⟨rfl, rfl⟩; exact ⟨rfl, Sep.init _⟩)) ?_
  (simp only [unB_bool, mBind_ap])
  refine mIf_pos (by simp) ?_
  (refine Sep.ldI hs 1 rfl rfl ?_; refine Sep.ldI hs 1 rfl rfl ?_; refine Sep.ldI hs 0 rfl rfl ?_; refine Sep.ldI hs 0 rfl rfl ?_)
  refine mU_nf Try.call25 (fun g => AddG_s (Sep.init g) a u b v ha hu hb hv) ?_
  (simp only [unA_agg, unC_cons, unE_nil, unI_int]; rw [mRet_ap])
  refine mIf_pos (by simp) ?_
  (refine Sep.ldI hs 1 rfl rfl ?_; refine Sep.ldI hs 1 rfl rfl ?_)
  refine mU_nf Try.call26 (fun g => SimG_s (Sep.init g) a u ha hu) ?_
  (simp only [unA_agg, unC_cons, unE_nil, unI_int]; rw [mRet_ap])
  intro h2 hup
  refine ⟨by simp, hs.under.trans ⟨hup.size, fun c hc => hup.at_ c (Nat.lt_of_lt_of_le hc hs.under.size)⟩⟩
theorem HyperShares_ok {x y : Share} (hx : x.ok h0) (hy : y.ok h0) : N_signalboxlaw32_HyperShares x.over x.under y.over y.under h0 (HFin h0) := by
  obtain ⟨a, ea⟩ : ∃ n : Nat, x.over = n := ⟨x.over.toNat, by have := hx.1; omega⟩
  obtain ⟨u, eu⟩ : ∃ n : Nat, x.under = n := ⟨x.under.toNat, by have := hx.2; omega⟩
  obtain ⟨b, eb⟩ : ∃ n : Nat, y.over = n := ⟨y.over.toNat, by have := hy.1; omega⟩
  obtain ⟨v, ev⟩ : ∃ n : Nat, y.under = n := ⟨y.under.toNat, by have := hy.2; omega⟩
  have h1 := hx.1
  have h2 := hx.2
  have h3 := hy.1
  have h4 := hy.2
  rw [ea] at h1 ⊢
  rw [eu] at h2 ⊢
  rw [eb] at h3 ⊢
  rw [ev] at h4 ⊢
  exact HyperShares_n (by omega) (by omega) (by omega) (by omega)
end
end Go.Proofs.Ytbpnpmknamghkaa
