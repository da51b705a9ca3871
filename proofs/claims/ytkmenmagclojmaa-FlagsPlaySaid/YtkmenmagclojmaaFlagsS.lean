/- Groups of flags: the same contracts over what is owned; bits one by one. Conditions: none. -/
import Derived.Test.YtkmenmagclojmaaFlagsL
import Derived.Test.YtkmenmagclojmaaFlagsA
namespace Go.Proofs.Ytkmenmagclojmaa
open Go Go.Sb

/-- the groups, owned -/
def aG (b : Nat) (l : List (BitVec 8)) : As := ⟨fun F h => ∃ q, F = [b, q] ∧ GRep h b q l,
  fun F h h' ⟨q, hF, h1, h2, h3⟩ he => ⟨q, hF, h1.frame (he b (by simp [hF])), h2.frame (he q (by simp [hF])), h3⟩,
  fun F h ⟨q, hF, h1, h2, h3⟩ x hx => by
    subst hF
    simp only [List.mem_cons, List.not_mem_nil, or_false] at hx
    rcases hx with rfl | rfl
    · exact h1.lt
    · exact h2.lt⟩
variable {h0 h : Hp} {L R : List As} {b : Nat} {l : List (BitVec 8)}
theorem aG_step {l' : List (BitVec 8)} {f : M Value} {v : Value} (hs : Sep h0 h (aG b l :: R)) (hf : ∀ q, GRep h b q l → f h fun w h' => w = v ∧ GRep h' b q l' ∧ Keeps (· = q) h h')
    (hm : ∀ {Q Q' : Value → Hp → Prop}, f h Q → (∀ v h', Q v h' → Q' v h') → f h Q') : f h fun w h' => w = v ∧ Sep h0 h' (aG b l' :: R) := by
  obtain ⟨F, ⟨q, rfl, hr⟩, hn, _⟩ := hs.holds 0 rfl
  refine hm (hf q hr) ?_
  rintro w h' ⟨rfl, hr', hk⟩
  refine ⟨rfl, hs.upd ?_⟩
  rintro F ⟨q', rfl, hq'⟩
  have : q' = q := by
    have := hq'.1.uniq hr.1
    simp at this; exact this
  subst this
  exact ⟨_, ⟨_, rfl, hr'⟩, hk.mono fun i _ hi => by simp [hi], id, fun x hx => .inl hx⟩
theorem Set_s (hs : Sep h0 h (aG b l :: R)) (i m : Int) : N_flags_Groups_Set (some ⟨b, 0, none⟩) i m h (fun v h' => v = chgA l i ∧ Sep h0 h' (aG b (chgL l i (· ||| low8 m)) :: R)) :=
  aG_step hs (fun _ hr => Set_ok hr i m) fun h1 h2 => Nf.mono h1 h2
theorem Clear_s (hs : Sep h0 h (aG b l :: R)) (i m : Int) : N_flags_Groups_Clear (some ⟨b, 0, none⟩) i m h (fun v h' => v = chgA l i ∧ Sep h0 h' (aG b (chgL l i (· &&& ~~~low8 m)) :: R)) :=
  aG_step hs (fun _ hr => Clear_ok hr i m) fun h1 h2 => Nf.mono h1 h2
theorem Test_s (hs : Sep h0 h (aG b l :: R)) (i m : Int) (all : Bool) : N_flags_Groups_Test (some ⟨b, 0, none⟩) i m all h (fun v h' => v = .tuple #[.bool (tstA l i m all), .int .i64 (tstE l i)] ∧ Sep h0 h' (aG b l :: R)) :=
  aG_step hs (fun _ hr => Test_ok hr i m all) fun h1 h2 => Nf.mono h1 h2
theorem Len_s (hs : Sep h0 h (aG b l :: R)) : N_flags_Groups_Len (some ⟨b, 0, none⟩) h (fun v h' => v = .int .i64 l.length ∧ h' = h) := by
  obtain ⟨F, ⟨q, rfl, hr⟩, hn, _⟩ := hs.holds 0 rfl
  exact gLen_ok hr
theorem New_s (hs : Sep h0 h R) (n : Int) : N_flags_New n h (fun v h' => ∃ b, v = .pointer (some ⟨b, 0, none⟩) ∧ Sep h0 h' (aG b (List.replicate (cnt n) 0) :: R)) := by
  refine (New_ok' h n).mono ?_
  rintro v h' ⟨rfl, hr, hu⟩
  refine ⟨_, rfl, ?_⟩
  exact hs.fresh hu ⟨_, rfl, hr⟩ (by simp) (fun x hx => by simp at hx; omega)

/-! bits -/
theorem iand_1 (a : Int) : iand .i64 a 1 = a % 2 := by
  unfold iand
  have h1 : BitVec.ofInt IntKind.i64.bits 1 = 1#64 := by rfl
  have h2 : (BitVec.ofInt IntKind.i64.bits a &&& BitVec.ofInt IntKind.i64.bits 1).toNat = (a % 2).toNat := by
    rw [h1]
    show (BitVec.ofInt 64 a &&& 1#64).toNat = _
    rw [BitVec.toNat_and, BitVec.toNat_ofInt, show (1#64).toNat = 1 by rfl, Nat.and_one_is_mod]
    have : (0:Int) ≤ a % (2^64 : Nat) := Int.emod_nonneg _ (by decide)
    have h3 : (a % (2^64 : Nat)) % 2 = a % 2 := Int.emod_emod_of_dvd _ (by decide)
    omega
  rw [h2, wrap64 _ (by omega)]
  omega
theorem bit_eq (m : Int) (t : Nat) (ht : t < 8) : (iand .i64 (ishr .i64 m (IntKind.u64.wrap (t : Int))) 1 == 1) = (low8 m).getLsbD t := by
  rw [iand_1, wrapu64 _ (by omega)]
  unfold ishr
  rw [show min (t : Int).toNat IntKind.i64.bits = t by show min (t : Int).toNat 64 = t; omega]
  rw [Int.fdiv_eq_ediv_of_nonneg _ (by exact_mod_cast Nat.zero_le _)]
  rw [← BitVec.testBit_toNat, Nat.testBit_eq_decide_div_mod_eq]
  have hl : (low8 m).toNat = (m % 256).toNat := by unfold low8; rw [BitVec.toNat_ofInt]; rfl
  rw [hl]
  have h0 : 0 ≤ m % 256 := Int.emod_nonneg _ (by decide)
  rw [Bool.eq_iff_iff]
  simp only [beq_iff_eq, decide_eq_true_eq]
  have : t = 0 ∨ t = 1 ∨ t = 2 ∨ t = 3 ∨ t = 4 ∨ t = 5 ∨ t = 6 ∨ t = 7 := by omega
  rcases this with rfl | rfl | rfl | rfl | rfl | rfl | rfl | rfl <;> simp only [Int.reducePow, Nat.reducePow] <;> omega
def enc8 (x : BitVec 8) : List Value := [.bool (x.getLsbD 0), .bool (x.getLsbD 1), .bool (x.getLsbD 2), .bool (x.getLsbD 3), .bool (x.getLsbD 4), .bool (x.getLsbD 5), .bool (x.getLsbD 6), .bool (x.getLsbD 7)]
theorem enc8_get (x : BitVec 8) (t : Nat) (ht : t < 8) : (enc8 x)[t]? = some (.bool (x.getLsbD t)) := by
  have : t = 0 ∨ t = 1 ∨ t = 2 ∨ t = 3 ∨ t = 4 ∨ t = 5 ∨ t = 6 ∨ t = 7 := by omega
  rcases this with rfl | rfl | rfl | rfl | rfl | rfl | rfl | rfl <;> rfl
/-- one flag is made v -/
def put8 (x : BitVec 8) (t : Nat) (v : Bool) : BitVec 8 := if v then x ||| BitVec.twoPow 8 t else x &&& ~~~(BitVec.twoPow 8 t)
theorem put8_get (x : BitVec 8) (t : Nat) (v : Bool) (j : Nat) (hj : j < 8) : (put8 x t v).getLsbD j = if j = t then v else x.getLsbD j := by
  unfold put8
  by_cases e : j = t
  · subst e
    cases v <;> simp [BitVec.getLsbD_or, BitVec.getLsbD_and, BitVec.getLsbD_not, BitVec.getLsbD_twoPow, hj]
  · have e' : ¬ t = j := fun h => e h.symm
    cases v <;> simp [BitVec.getLsbD_or, BitVec.getLsbD_and, BitVec.getLsbD_not, BitVec.getLsbD_twoPow, hj, e, e']
theorem enc8_set (x : BitVec 8) (t : Nat) (v : Bool) (ht : t < 8) : enc8 (put8 x t v) = (enc8 x).set t (.bool v) := by
  unfold enc8
  rw [put8_get x t v 0 (by omega), put8_get x t v 1 (by omega), put8_get x t v 2 (by omega), put8_get x t v 3 (by omega), put8_get x t v 4 (by omega), put8_get x t v 5 (by omega), put8_get x t v 6 (by omega), put8_get x t v 7 (by omega)]
  have : t = 0 ∨ t = 1 ∨ t = 2 ∨ t = 3 ∨ t = 4 ∨ t = 5 ∨ t = 6 ∨ t = 7 := by omega
  rcases this with rfl | rfl | rfl | rfl | rfl | rfl | rfl | rfl <;> rfl
/-- what has been told up to flag t -/
def numT (x : BitVec 8) : Nat → Int
  | 0 => 0
  | t + 1 => numT x t + if x.getLsbD t then 2 ^ t else 0
def allT (x m : BitVec 8) : Nat → Bool
  | 0 => true
  | t + 1 => allT x m t && (!m.getLsbD t || x.getLsbD t)
def anyT (x m : BitVec 8) : Nat → Bool
  | 0 => false
  | t + 1 => anyT x m t || (m.getLsbD t && x.getLsbD t)
def curT (x m : BitVec 8) (v : Bool) : Nat → BitVec 8
  | 0 => x
  | t + 1 => if m.getLsbD t then put8 (curT x m v t) t v else curT x m v t
theorem numT_lt (x : BitVec 8) : ∀ t, 0 ≤ numT x t ∧ numT x t < 2 ^ t
  | 0 => by simp [numT]
  | t + 1 => by
    have := numT_lt x t
    simp only [numT]
    rw [Int.pow_succ]
    split <;> omega
theorem numT_8 (x : BitVec 8) : numT x 8 = x.toNat := by
  have h : ∀ n : Fin 256, numT (BitVec.ofNat 8 n.1) 8 = n.1 := by decide +kernel
  have := h ⟨x.toNat, x.isLt⟩
  simpa using this
theorem allT_iff (x m : BitVec 8) : ∀ t, allT x m t = true ↔ ∀ j, j < t → m.getLsbD j = true → x.getLsbD j = true
  | 0 => by simp [allT]
  | t + 1 => by
    simp only [allT, Bool.and_eq_true, allT_iff x m t]
    constructor
    · rintro ⟨h1, h2⟩ j hj hm
      by_cases e : j = t
      · subst e; simpa [hm] using h2
      · exact h1 j (by omega) hm
    · intro hh
      refine ⟨fun j hj => hh j (by omega), ?_⟩
      cases hm : m.getLsbD t
      · simp
      · simp [hh t (by omega) hm]
theorem anyT_iff (x m : BitVec 8) : ∀ t, anyT x m t = true ↔ ∃ j, j < t ∧ m.getLsbD j = true ∧ x.getLsbD j = true
  | 0 => by simp [anyT]
  | t + 1 => by
    simp only [anyT, Bool.or_eq_true, anyT_iff x m t, Bool.and_eq_true]
    constructor
    · rintro (⟨j, h1, h2⟩ | h)
      · exact ⟨j, by omega, h2⟩
      · exact ⟨t, by omega, h⟩
    · rintro ⟨j, h1, h2⟩
      by_cases e : j = t
      · subst e; exact .inr h2
      · exact .inl ⟨j, by omega, h2⟩
theorem allT_8 (x m : BitVec 8) : allT x m 8 = decide (x &&& m = m) := by
  rw [Bool.eq_iff_iff, allT_iff, decide_eq_true_eq]
  constructor
  · intro h
    apply BitVec.eq_of_getLsbD_eq
    intro j hj
    rw [BitVec.getLsbD_and]
    cases hm : m.getLsbD j
    · simp
    · simp [h j hj hm]
  · intro h j hj hm
    have := congrArg (·.getLsbD j) h
    simp only [BitVec.getLsbD_and, hm, Bool.and_true] at this
    exact this
theorem anyT_8 (x m : BitVec 8) : anyT x m 8 = decide (x &&& m ≠ 0) := by
  rw [Bool.eq_iff_iff, anyT_iff, decide_eq_true_eq]
  constructor
  · rintro ⟨j, hj, hm, hx⟩ h
    have := congrArg (·.getLsbD j) h
    simp [BitVec.getLsbD_and, hm, hx] at this
  · intro h
    false_or_by_contra
    rename_i hn
    apply h
    apply BitVec.eq_of_getLsbD_eq
    intro j hj
    rw [BitVec.getLsbD_and]
    cases hm : m.getLsbD j <;> cases hx : x.getLsbD j <;> simp
    exact hn ⟨j, hj, hm, hx⟩
theorem curT_get (x m : BitVec 8) (v : Bool) (j : Nat) (hj : j < 8) : ∀ t, (curT x m v t).getLsbD j = if j < t ∧ m.getLsbD j = true then v else x.getLsbD j
  | 0 => by simp [curT]
  | t + 1 => by
    simp only [curT]
    have ih := curT_get x m v j hj t
    by_cases e : j = t
    · subst e
      split
      · rename_i hm; rw [put8_get _ _ _ _ hj]; simp [hm]
      · rename_i hm; rw [ih]; simp [hm]
    · have : (j < t + 1) ↔ (j < t) := by omega
      simp only [this]
      split
      · rw [put8_get _ _ _ _ hj, if_neg e, ih]
      · exact ih
theorem curT_set (x m : BitVec 8) : curT x m true 8 = x ||| m := by
  apply BitVec.eq_of_getLsbD_eq
  intro j hj
  rw [curT_get x m true j hj, BitVec.getLsbD_or]
  cases hm : m.getLsbD j <;> simp [hj]
theorem curT_clr (x m : BitVec 8) : curT x m false 8 = x &&& ~~~m := by
  apply BitVec.eq_of_getLsbD_eq
  intro j hj
  rw [curT_get x m false j hj, BitVec.getLsbD_and, BitVec.getLsbD_not]
  cases hm : m.getLsbD j <;> simp [hj]
end Go.Proofs.Ytkmenmagclojmaa
