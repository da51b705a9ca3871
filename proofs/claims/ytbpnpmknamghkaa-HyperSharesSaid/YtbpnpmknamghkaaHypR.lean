/- Shares: which of any two is less, and their lowest terms. Conditions: none. -/
import Derived.Test.YtbpnpmknamghkaaHypQ
import Derived.Test.YtbpnpmknamghkaaSbW
namespace Go.Proofs.Ytbpnpmknamghkaa
open Go Go.Sb
set_option linter.unusedSimpArgs false
set_option linter.unusedVariables false
def lessN (ao au bo bu : Nat) : Bool := if au = 0 then false else if bu = 0 then true else decide (ao * bu < bo * au)
def simN (o u : Nat) : Nat × Nat := if u = 0 then (18446744073709551615, 0) else (o / Nat.gcd o u, u / Nat.gcd o u)
theorem less_irr (a u : Nat) : lessN a u a u = false := by
  unfold lessN
  split
  · rfl
  · simp
theorem less_asym {a u b v : Nat} (h : lessN a u b v = true) : lessN b v a u = false := by
  unfold lessN at *
  split at h
  · cases h
  · rename_i hu
    by_cases hv : v = 0
    · rw [if_pos hv]
    · rw [if_neg hv, if_neg hu]
      rw [if_neg hv] at h
      have := of_decide_eq_true h
      exact decide_eq_false (by omega)
theorem less_trans {a u b v c w : Nat} (h1 : lessN a u b v = true) (h2 : lessN b v c w = true) : lessN a u c w = true := by
  unfold lessN at *
  split at h1
  · cases h1
  rename_i hu
  split at h2
  · cases h2
  rename_i hv
  rw [if_neg hv] at h1
  rw [if_neg hu]
  by_cases hw : w = 0
  · rw [if_pos hw]
  · rw [if_neg hw] at h2 ⊢
    have h1 := of_decide_eq_true h1
    have h2 := of_decide_eq_true h2
    refine decide_eq_true ?_
    -- a v < b u, b w < c v; so a w v < c u v
    have e1 : a * v * w < b * u * w := Nat.mul_lt_mul_of_pos_right h1 (by omega)
    have e2 : b * w * u < c * v * u := Nat.mul_lt_mul_of_pos_right h2 (by omega)
    have e3 : (a * w) * v < (c * u) * v := by
      have x1 : a * v * w = (a * w) * v := Nat.mul_right_comm _ _ _
      have x2 : b * u * w = b * w * u := Nat.mul_right_comm _ _ _
      have x3 : c * v * u = (c * u) * v := Nat.mul_right_comm _ _ _
      omega
    exact Nat.lt_of_mul_lt_mul_right e3
theorem low_eq {a u b v : Nat} (hu : u ≠ 0) (hv : v ≠ 0) (h : a * v = b * u) : a / Nat.gcd a u = b / Nat.gcd b v ∧ u / Nat.gcd a u = v / Nat.gcd b v := by
  have g1 := Nat.gcd_pos_of_pos_right a (show 0 < u by omega)
  have g2 := Nat.gcd_pos_of_pos_right b (show 0 < v by omega)
  have c1 := Nat.coprime_div_gcd_div_gcd g1
  have c2 := Nat.coprime_div_gcd_div_gcd g2
  have ea := Nat.mul_div_cancel' (Nat.gcd_dvd_left a u)
  have eu := Nat.mul_div_cancel' (Nat.gcd_dvd_right a u)
  have eb := Nat.mul_div_cancel' (Nat.gcd_dvd_left b v)
  have ev := Nat.mul_div_cancel' (Nat.gcd_dvd_right b v)
  generalize Nat.gcd a u = g at *
  generalize Nat.gcd b v = k at *
  generalize a / g = a' at *
  generalize u / g = u' at *
  generalize b / k = b' at *
  generalize v / k = v' at *
  have key : a' * v' = b' * u' := by
    have : (g * k) * (a' * v') = (g * k) * (b' * u') := by
      have e : g * a' * (k * v') = k * b' * (g * u') := by rw [ea, ev, eb, eu]; exact h
      have x1 : g * a' * (k * v') = (g * k) * (a' * v') := Nat.mul_mul_mul_comm _ _ _ _
      have x2 : k * b' * (g * u') = (g * k) * (b' * u') := by rw [Nat.mul_mul_mul_comm, Nat.mul_comm k g]
      omega
    exact Nat.eq_of_mul_eq_mul_left (Nat.mul_pos g1 g2) this
  have d1 : a' ∣ b' := c1.dvd_of_dvd_mul_right (by rw [← key]; exact Nat.dvd_mul_right _ _)
  have d2 : b' ∣ a' := c2.dvd_of_dvd_mul_right (by rw [key]; exact Nat.dvd_mul_right _ _)
  have e1 := Nat.dvd_antisymm d1 d2
  refine ⟨e1, ?_⟩
  have d3 : u' ∣ v' := c1.symm.dvd_of_dvd_mul_left (by rw [key]; exact Nat.dvd_mul_left _ _)
  have d4 : v' ∣ u' := c2.symm.dvd_of_dvd_mul_left (by rw [← key]; exact Nat.dvd_mul_left _ _)
  exact Nat.dvd_antisymm d3 d4
theorem sim_eq {a u b v : Nat} (h1 : lessN a u b v = false) (h2 : lessN b v a u = false) : simN a u = simN b v := by
  unfold lessN at *
  unfold simN
  by_cases hu : u = 0
  · by_cases hv : v = 0
    · rw [if_pos hu, if_pos hv]
    · rw [if_neg hv, if_pos hu] at h2; cases h2
  · by_cases hv : v = 0
    · rw [if_neg hu, if_pos hv] at h1; cases h1
    · rw [if_neg hu, if_neg hv] at h1 ⊢
      rw [if_neg hv, if_neg hu] at h2
      have h1 := of_decide_eq_false h1
      have h2 := of_decide_eq_false h2
      have := low_eq hu hv (show a * v = b * u by omega)
      rw [this.1, this.2]
section
variable {h0 h : Hp} {R : List As}
theorem SimG_s (hs : Sep h0 h R) (o u : Nat) (ho : o ≤ 18446744073709551615) (hu : u ≤ 18446744073709551615) : N_hyper_Simple (o : Int) (u : Int) h (fun v h' => v = .agg #[.int .u64 (simN o u).1, .int .u64 (simN o u).2] ∧ Sep h0 h' R) := by
  unfold simN
  by_cases hc : u = 0
  · rw [if_pos hc]
    subst hc
    apply S_hyper_Simple
    unfold B_hyper_Simple
    ((refine Sep.new hs fun nb h hs => ?_; try simp only [List.toList_toArray] at hs); (refine Sep.new hs fun nb_1 h hs => ?_; try simp only [List.toList_toArray] at hs); refine Sep.ldI hs 1 rfl rfl ?_; simp only [add_mk, Nat.zero_add])
    refine mIf_pos rfl ?_
    rw [mBind_ap]
    refine (much_s hs).mono ?_
    rintro v h ⟨rfl, hs⟩
    (simp only [unA_agg, unC_cons, unE_nil, unI_int]; (refine Sep.st hs 0 rfl rfl rfl fun h hs => ?_; simp only [List.set_cons_zero, List.set_cons_succ] at hs); (refine Sep.st hs 0 rfl rfl rfl fun h hs => ?_; simp only [List.set_cons_zero, List.set_cons_succ] at hs); refine Sep.ldI hs 0 rfl rfl ?_; refine Sep.ldI hs 0 rfl rfl ?_)
    exact ⟨rfl, hs.drop.drop⟩
  · rw [if_neg hc]
    exact Simple_s hs o u ho hu hc
theorem LessG_s (hs : Sep h0 h R) (a u b v : Nat) (ha : a ≤ 18446744073709551615) (hu : u ≤ 18446744073709551615) (hb : b ≤ 18446744073709551615) (hv : v ≤ 18446744073709551615) : N_hyper_Less (a : Int) (u : Int) (b : Int) (v : Int) h (fun w h' => w = .bool (lessN a u b v) ∧ Sep h0 h' R) := by
  apply S_hyper_Less
  unfold B_hyper_Less lessN
  ((refine Sep.new hs fun nb h hs => ?_; try simp only [List.toList_toArray] at hs); (refine Sep.new hs fun nb_1 h hs => ?_; try simp only [List.toList_toArray] at hs); refine Sep.ldI hs 1 rfl rfl ?_; simp only [add_mk, Nat.zero_add])
  refine mIf_intro (fun hc => ?_) (fun hc => ?_)
  · rw [if_pos (by simpa using hc)]
    exact ⟨rfl, hs.drop.drop⟩
  · rw [if_neg (by simpa using hc)]
    (refine Sep.ldI hs 0 rfl rfl ?_)
    refine mIf_intro (fun hc2 => ?_) (fun hc2 => ?_)
    · rw [if_pos (by simpa using hc2)]
      exact ⟨rfl, hs.drop.drop⟩
    · rw [if_neg (by simpa using hc2)]
      (refine Sep.ldI hs 1 rfl rfl ?_; refine Sep.ldI hs 0 rfl rfl ?_; simp only [mBind_ap])
      refine (mul64_s (U_nat a ha) (U_nat v hv)).mono ?_
      rintro w h' ⟨rfl, rfl⟩
      (simp only [un2_tuple, unI_int]; refine Sep.ldI hs 0 rfl rfl ?_; refine Sep.ldI hs 1 rfl rfl ?_; simp only [mBind_ap])
      refine (mul64_s (U_nat b hb) (U_nat u hu)).mono ?_
      rintro w h' ⟨rfl, rfl⟩
      rw [← Int.natCast_mul, ← Int.natCast_mul]
      simp only [un2_tuple, unI_int]
      rw [mBind_ap]
      refine mIf_intro (fun hc3 => ?_) (fun hc3 => ?_)
      · rw [decide_eq_true (by have := of_decide_eq_true hc3; omega)]
        exact ⟨rfl, hs.drop.drop⟩
      · have h3 := of_decide_eq_false hc3
        refine ⟨?_, hs.drop.drop⟩
        congr 1
        rw [Bool.eq_iff_iff]
        simp only [Bool.and_eq_true, beq_iff_eq, decide_eq_true_eq]
        omega
end
end Go.Proofs.Ytbpnpmknamghkaa
