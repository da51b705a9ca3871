/- Numbers that stop at the greatest: the calls. Conditions: none. -/
import Derived.Test.YtbpnpmknamghkaaHypM
import Derived.Test.YtbpnpmknamghkaaSbW
import Derived.Laws.Externs
namespace Go.Proofs.Ytbpnpmknamghkaa
open Go Go.Sb
set_option linter.unusedSimpArgs false
set_option linter.unusedVariables false

theorem add64_s {h : Hp} {a b : Int} (ha : 0 ≤ a) (hb : 0 ≤ b) : N_math_bits_Add64 a b 0 h (fun v h' => v = .tuple #[.int .u64 ((a + b + 0) % 18446744073709551616), .int .u64 ((a + b + 0) / 18446744073709551616)] ∧ h' = h) := by
  refine Nf.ext _ (fun w _ => ?_) ⟨rfl, rfl⟩
  rw [run_callFunc_extern Try.func79 (by kernel_rfl) (by kernel_rfl) (by kernel_rfl) (e := add64Entry) (by kernel_rfl), run_add64 a b 0 ha hb (by omega) (by omega)]
  rfl
def satA (a b : Int) : Int := min (a + b) 18446744073709551615
def satM (a b : Int) : Int := min (a * b) 18446744073709551615
def ceilV (a b : Int) : Int := if a = 0 then 0 else if b = 0 ∨ a = 18446744073709551615 then 18446744073709551615 else (a - 1) / b + 1
def U (a : Int) : Prop := 0 ≤ a ∧ a ≤ 18446744073709551615
theorem Add_s {h : Hp} {a b : Int} (ha : U a) (hb : U b) : N_sat_Add a b h (fun v h' => v = .int .u64 (satA a b) ∧ h' = h) := by
  obtain ⟨a0, a1⟩ := ha
  obtain ⟨b0, b1⟩ := hb
  apply S_sat_Add
  unfold B_sat_Add
  rw [mBind_ap]
  refine (add64_s a0 b0).mono ?_
  rintro v h' ⟨rfl, rfl⟩
  simp only [un2_tuple, unI_int]
  unfold satA
  refine mIf_dec (fun hc => ?_) (fun hc => ?_)
  · exact ⟨by congr 1; omega, rfl⟩
  · exact ⟨by congr 1; omega, rfl⟩
theorem shr32 {a : Int} (ha : 0 ≤ a) : ishr .u64 a 32 = a / 4294967296 := by
  unfold ishr
  rw [show (2 : Int) ^ (min (Int.toNat 32) IntKind.u64.bits) = 4294967296 by decide, Int.fdiv_eq_ediv_of_nonneg _ (by omega)]
theorem and32 {a : Int} (ha : U a) : iand .u64 a 4294967295 = a % 4294967296 := by
  obtain ⟨n, rfl⟩ : ∃ n : Nat, a = n := ⟨a.toNat, by have := ha.1; omega⟩
  have h2 : n < 2 ^ 64 := by have := ha.2; omega
  have e : (BitVec.ofInt 64 (n : Int) &&& BitVec.ofInt 64 4294967295).toNat = n % 4294967296 := by
    rw [BitVec.toNat_and, BitVec.ofInt_natCast, BitVec.toNat_ofNat, Nat.mod_eq_of_lt h2, show (BitVec.ofInt 64 4294967295).toNat = 2 ^ 32 - 1 by decide, Nat.and_two_pow_sub_one_eq_mod]
  unfold iand
  rw [show IntKind.u64.bits = 64 from rfl, e, wrapu64 _ (by omega)]
  omega
theorem mul_bd {a b : Int} (ha : 0 ≤ a ∧ a ≤ 4294967295) (hb : 0 ≤ b ∧ b ≤ 4294967295) : 0 ≤ a * b ∧ a * b ≤ 18446744065119617025 := by
  refine ⟨Int.mul_nonneg ha.1 hb.1, ?_⟩
  have := Int.mul_le_mul ha.2 hb.2 hb.1 (by omega)
  omega
theorem mul64_s {h : Hp} {a b : Int} (ha : U a) (hb : U b) : N_math_bits_Mul64 a b h (fun v h' => v = .tuple #[.int .u64 ((a * b) / 18446744073709551616), .int .u64 ((a * b) % 18446744073709551616)] ∧ h' = h) := by
  apply S_math_bits_Mul64
  unfold B_math_bits_Mul64
  refine ⟨by omega, by omega, by omega, by omega, by omega, ?_⟩
  have a0 := ha.1; have a1 := ha.2; have b0 := hb.1; have b1 := hb.2
  rw [shr32 ha.1, shr32 hb.1, and32 ha, and32 hb]
  have hA := mul_bd (a := a / 4294967296) (b := b / 4294967296) (by omega) (by omega)
  have hB := mul_bd (a := a / 4294967296) (b := b % 4294967296) (by omega) (by omega)
  have hC := mul_bd (a := a % 4294967296) (b := b / 4294967296) (by omega) (by omega)
  have hD := mul_bd (a := a % 4294967296) (b := b % 4294967296) (by omega) (by omega)
  have hab : a * b = (a / 4294967296) * (b / 4294967296) * 18446744073709551616 + ((a / 4294967296) * (b % 4294967296) + (a % 4294967296) * (b / 4294967296)) * 4294967296 + (a % 4294967296) * (b % 4294967296) := by
    have e1 : a = (a / 4294967296) * 4294967296 + a % 4294967296 := by omega
    have e2 : b = (b / 4294967296) * 4294967296 + b % 4294967296 := by omega
    conv => lhs; rw [e1, e2]
    generalize a / 4294967296 = x
    generalize a % 4294967296 = y
    generalize b / 4294967296 = z
    generalize b % 4294967296 = w
    rw [Int.add_mul, Int.mul_add, Int.mul_add]
    have q1 : x * 4294967296 * (z * 4294967296) = x * z * 18446744073709551616 := by
      rw [Int.mul_assoc, Int.mul_left_comm 4294967296 z, ← Int.mul_assoc]; rfl
    have q2 : x * 4294967296 * w = x * w * 4294967296 := by rw [Int.mul_right_comm]
    have q3 : y * (z * 4294967296) = y * z * 4294967296 := by rw [Int.mul_assoc]
    rw [q1, q2, q3]
    omega
  rw [hab]
  have hlo : IntKind.u64.wrap ((a / 4294967296) * (b / 4294967296) * 18446744073709551616 + ((a / 4294967296) * (b % 4294967296) + (a % 4294967296) * (b / 4294967296)) * 4294967296 + (a % 4294967296) * (b % 4294967296)) = ((a / 4294967296) * (b / 4294967296) * 18446744073709551616 + ((a / 4294967296) * (b % 4294967296) + (a % 4294967296) * (b / 4294967296)) * 4294967296 + (a % 4294967296) * (b % 4294967296)) % 18446744073709551616 := by
    unfold IntKind.wrap
    rfl
  rw [hlo]
  generalize (a / 4294967296) * (b / 4294967296) = A at *
  generalize (a / 4294967296) * (b % 4294967296) = B at *
  generalize (a % 4294967296) * (b / 4294967296) = C at *
  generalize (a % 4294967296) * (b % 4294967296) = D at *
  have w1 : IntKind.u64.wrap D = D := wrapu64 _ (by omega)
  have w2 : IntKind.u64.wrap B = B := wrapu64 _ (by omega)
  have w3 : IntKind.u64.wrap C = C := wrapu64 _ (by omega)
  have w4 : IntKind.u64.wrap A = A := wrapu64 _ (by omega)
  rw [w1, w2, w3, w4, shr32 (a := D) (by omega), wrapu64 (B + D / 4294967296) (by omega), and32 (a := B + D / 4294967296) ⟨by omega, by omega⟩, shr32 (a := B + D / 4294967296) (by omega), wrapu64 ((B + D / 4294967296) % 4294967296 + C) (by omega), shr32 (a := (B + D / 4294967296) % 4294967296 + C) (by omega), wrapu64 (A + (B + D / 4294967296) / 4294967296) (by omega), wrapu64 _ (by omega)]
  have e : A + (B + D / 4294967296) / 4294967296 + ((B + D / 4294967296) % 4294967296 + C) / 4294967296 = (A * 18446744073709551616 + (B + C) * 4294967296 + D) / 18446744073709551616 := by omega
  rw [e]
  exact ⟨rfl, rfl⟩
theorem satM_U {a b : Int} (ha : U a) (hb : U b) : U (satM a b) := by
  have := Int.mul_nonneg ha.1 hb.1
  unfold U satM; omega
theorem satA_U {a b : Int} (ha : U a) (hb : U b) : U (satA a b) := by unfold U satA at *; omega
theorem ceil_le {a b : Int} (ha : 0 < a) (hb : 0 < b) : 0 ≤ (a - 1) / b ∧ (a - 1) / b ≤ a - 1 := by
  refine ⟨Int.ediv_nonneg (by omega) (by omega), ?_⟩
  have := Int.ediv_le_self b (show 0 ≤ a - 1 by omega)
  omega
theorem ceilV_U {a b : Int} (ha : U a) (hb : U b) : U (ceilV a b) := by
  have a0 := ha.1; have a1 := ha.2; have b0 := hb.1
  unfold U ceilV
  split
  · omega
  · split
    · omega
    · have := ceil_le (a := a) (b := b) (by omega) (by omega)
      omega
theorem Mul_s {h : Hp} {a b : Int} (ha : U a) (hb : U b) : N_sat_Mul a b h (fun v h' => v = .int .u64 (satM a b) ∧ h' = h) := by
  apply S_sat_Mul
  unfold B_sat_Mul
  rw [mBind_ap]
  refine (mul64_s ha hb).mono ?_
  rintro v h' ⟨rfl, rfl⟩
  have := Int.mul_nonneg ha.1 hb.1
  simp only [un2_tuple, unI_int]
  unfold satM
  refine mIf_dec (fun hc => ?_) (fun hc => ?_)
  · exact ⟨by congr 1; omega, rfl⟩
  · exact ⟨by congr 1; omega, rfl⟩
theorem Ceil_s {h : Hp} {a b : Int} (ha : U a) (hb : U b) : N_sat_Ceil a b h (fun v h' => v = .int .u64 (ceilV a b) ∧ h' = h) := by
  have a0 := ha.1; have a1 := ha.2; have b0 := hb.1; have b1 := hb.2
  apply S_sat_Ceil
  unfold B_sat_Ceil ceilV
  refine mIf_intro (fun hc => ?_) (fun hc => ?_)
  · have hc : a = 0 := by simpa using hc
    rw [if_pos hc]; exact ⟨rfl, rfl⟩
  · have hc : ¬ a = 0 := by simpa using hc
    rw [if_neg hc]
    refine mIf_intro (fun hc2 => ?_) (fun hc2 => ?_)
    · have hc2 : b = 0 ∨ a = 18446744073709551615 := by simpa using hc2
      rw [if_pos hc2]; exact ⟨rfl, rfl⟩
    · have hc2 : ¬ (b = 0 ∨ a = 18446744073709551615) := by simpa using hc2
      rw [if_neg hc2]
      refine ⟨by omega, ?_⟩
      have hq := ceil_le (a := a) (b := b) (by omega) (by omega)
      rw [wrapu64 (a - 1) (by omega), Int.tdiv_eq_ediv_of_nonneg (by omega), wrapu64 ((a - 1) / b) (by omega), wrapu64 _ (by omega)]
      exact ⟨rfl, rfl⟩
end Go.Proofs.Ytbpnpmknamghkaa
