/- Numbers as bytes: what the calls answer. Conditions: none. -/
import Derived.Test.YtimpaammdmeocaaCodeO
import Derived.Test.YtimpaammdmeocaaCodeM
import Derived.Test.YtimpaammdmeocaaCfgU
import Derived.Test.YtimpaammdmeocaaSbW
namespace Go.Proofs.Ytimpaammdmeocaa
open Go Go.Sb
set_option linter.unusedSimpArgs false
set_option linter.unusedVariables false
set_option linter.unusedVariables false
abbrev encB : Int → List Value := fun z => [.int .u8 z]
/-! ### strings of bytes -/
theorem loop_eq (bs : ByteArray) : ∀ (n i : Nat) (r : List UInt8), bs.size - i = n → ByteArray.toList.loop bs i r = r.reverse ++ bs.data.toList.drop i
  | 0, i, r, h => by
    unfold ByteArray.toList.loop
    rw [if_neg (by omega), List.drop_of_length_le (by have : bs.data.toList.length = bs.size := rfl; omega), List.append_nil]
  | n + 1, i, r, h => by
    unfold ByteArray.toList.loop
    have hi : i < bs.data.toList.length := by have : bs.data.toList.length = bs.size := rfl; omega
    rw [if_pos (by omega), loop_eq bs n (i + 1) _ (by omega), List.drop_eq_getElem_cons hi, List.reverse_cons, List.append_assoc]
    congr 1
    have h2 : i < bs.data.size := hi
    show bs.get! i :: _ = _
    congr 1
    unfold ByteArray.get!
    exact getElem!_pos bs.data i h2
theorem str_list (bs : ByteArray) : bs.toList = bs.data.toList := by
  unfold ByteArray.toList
  rw [loop_eq bs _ 0 [] rfl]; rfl
theorem str_eq {a b : List Int} (ha : isB a) (hb : isB b) : ((strOf a).toList == (strOf b).toList) = decide (a = b) := by
  rw [str_list, str_list]
  unfold strOf
  simp only [List.toList_toArray]
  rw [Bool.eq_iff_iff, beq_iff_eq, decide_eq_true_eq]
  constructor
  · intro h
    induction a generalizing b with
    | nil => cases b with
      | nil => rfl
      | cons y b => simp at h
    | cons x a ih =>
      cases b with
      | nil => simp at h
      | cons y b =>
        simp only [List.map_cons, List.cons.injEq] at h
        have hx := ha x (by simp)
        have hy := hb y (by simp)
        have h1 := congrArg UInt8.toNat h.1
        rw [UInt8.toNat_ofNat', UInt8.toNat_ofNat'] at h1
        have : x = y := by omega
        subst this
        rw [ih (fun z hz => ha z (by simp [hz])) (fun z hz => hb z (by simp [hz])) h.2]
  · rintro rfl; rfl
/-! ### bits -/
theorem iand64 {a b : Nat} (ha : a < 2 ^ 62) (hb : b < 2 ^ 62) : iand .i64 (a : Int) (b : Int) = ((a &&& b : Nat) : Int) := by
  have hx : a &&& b < 2 ^ 62 := Nat.and_lt_two_pow _ hb
  have h1 : (BitVec.ofInt 64 (a : Int)).toNat = a := by rw [BitVec.ofInt_natCast, BitVec.toNat_ofNat]; exact Nat.mod_eq_of_lt (by omega)
  have h2 : (BitVec.ofInt 64 (b : Int)).toNat = b := by rw [BitVec.ofInt_natCast, BitVec.toNat_ofNat]; exact Nat.mod_eq_of_lt (by omega)
  show IntKind.i64.wrap ((BitVec.ofInt 64 (a : Int) &&& BitVec.ofInt 64 (b : Int)).toNat : Int) = _
  rw [BitVec.toNat_and, h1, h2, wrap64 _ (by omega)]
theorem ior64 {a b : Nat} (ha : a < 2 ^ 62) (hb : b < 2 ^ 62) : ior .i64 (a : Int) (b : Int) = ((a ||| b : Nat) : Int) := by
  have hx : a ||| b < 2 ^ 62 := Nat.or_lt_two_pow ha hb
  have h1 : (BitVec.ofInt 64 (a : Int)).toNat = a := by rw [BitVec.ofInt_natCast, BitVec.toNat_ofNat]; exact Nat.mod_eq_of_lt (by omega)
  have h2 : (BitVec.ofInt 64 (b : Int)).toNat = b := by rw [BitVec.ofInt_natCast, BitVec.toNat_ofNat]; exact Nat.mod_eq_of_lt (by omega)
  show IntKind.i64.wrap ((BitVec.ofInt 64 (a : Int) ||| BitVec.ofInt 64 (b : Int)).toNat : Int) = _
  rw [BitVec.toNat_or, h1, h2, wrap64 _ (by omega)]
theorem iand8 {a b : Nat} (ha : a < 256) (hb : b < 256) : iand .u8 (a : Int) (b : Int) = ((a &&& b : Nat) : Int) := by
  have hx : a &&& b < 2 ^ 8 := Nat.and_lt_two_pow _ (by omega)
  have h1 : (BitVec.ofInt 8 (a : Int)).toNat = a := by rw [BitVec.ofInt_natCast, BitVec.toNat_ofNat]; exact Nat.mod_eq_of_lt (by omega)
  have h2 : (BitVec.ofInt 8 (b : Int)).toNat = b := by rw [BitVec.ofInt_natCast, BitVec.toNat_ofNat]; exact Nat.mod_eq_of_lt (by omega)
  show IntKind.u8.wrap ((BitVec.ofInt 8 (a : Int) &&& BitVec.ofInt 8 (b : Int)).toNat : Int) = _
  rw [BitVec.toNat_and, h1, h2, wrapu8 _ (by omega)]
theorem and127 (n : Nat) : n &&& 127 = n % 128 := Nat.and_two_pow_sub_one_eq_mod n 7
theorem or_at {i a m : Nat} (h : a < 2 ^ i) : a ||| m * 2 ^ i = a + m * 2 ^ i := by
  have := Nat.two_pow_add_eq_or_of_lt h m
  rw [Nat.or_comm, Nat.mul_comm m, ← this, Nat.add_comm]
theorem low_byte {n : Nat} (hn : n < 2 ^ 62) : IntKind.u8.wrap (ior .i64 (iand .i64 (n : Int) 127) 128) = ((n % 128 + 128 : Nat) : Int) := by
  have e1 : iand .i64 (n : Int) 127 = ((n % 128 : Nat) : Int) := by
    have := iand64 hn (show 127 < 2 ^ 62 by omega)
    rw [and127] at this
    exact this
  have e2 : ior .i64 ((n % 128 : Nat) : Int) 128 = ((n % 128 + 128 : Nat) : Int) := by
    have := ior64 (show n % 128 < 2 ^ 62 by omega) (show 128 < 2 ^ 62 by omega)
    rw [show (n % 128 ||| 128) = n % 128 + 128 from or_at (i := 7) (m := 1) (by omega)] at this
    exact this
  rw [e1, e2, wrapu8 _ (by omega)]
theorem shr7 (n : Nat) : ishr .i64 (n : Int) 7 = ((n / 128 : Nat) : Int) := by
  unfold ishr
  rw [show (7 : Int).toNat = 7 from rfl, show IntKind.i64.bits = 64 from rfl, show min 7 64 = 7 from rfl, show (2 : Int) ^ 7 = 128 by decide, Int.fdiv_eq_ediv_of_nonneg _ (by omega)]
  omega
theorem acc_bits {acc c k : Nat} (hk : k < 5) (ha : acc < 128 ^ k) (hc : c < 256) : IntKind.u64.wrap (IntKind.i64.wrap ((7 : Int) * (k : Int))) = ((7 * k : Nat) : Int) ∧ ior .i64 (acc : Int) (ishl .i64 (IntKind.i64.wrap (iand .u8 (c : Int) 127)) ((7 * k : Nat) : Int)) = ((acc + c % 128 * 128 ^ k : Nat) : Int) ∧ acc + c % 128 * 128 ^ k < 128 ^ (k + 1) := by
  have h5 : (128 : Nat) ^ k ≤ 128 ^ 4 := Nat.pow_le_pow_right (by omega) (by omega)
  have h4 : (128 : Nat) ^ 4 = 268435456 := by decide
  have hp : 0 < (128 : Nat) ^ k := Nat.pow_pos (by omega)
  have hm : c % 128 * 128 ^ k ≤ 127 * 128 ^ k := Nat.mul_le_mul_right _ (by omega)
  have hlt : acc + c % 128 * 128 ^ k < 128 ^ (k + 1) := by rw [Nat.pow_succ]; omega
  refine ⟨by rw [wrap64 _ (by omega), wrapu64 _ (by omega)]; omega, ?_, hlt⟩
  have e1 : iand .u8 (c : Int) 127 = ((c % 128 : Nat) : Int) := by
    have := iand8 hc (show 127 < 256 by omega)
    rw [and127] at this
    exact this
  rw [e1, wrap64 _ (by omega)]
  have e2 : ishl .i64 ((c % 128 : Nat) : Int) ((7 * k : Nat) : Int) = ((c % 128 * 128 ^ k : Nat) : Int) := by
    unfold ishl
    rw [Int.toNat_natCast, show IntKind.i64.bits = 64 from rfl, Nat.min_eq_left (by omega), pow7]
    have : (((c % 128 : Nat) : Int) * 2 ^ (7 * k)) = ((c % 128 * 2 ^ (7 * k) : Nat) : Int) := by push_cast; rfl
    rw [this, ← pow7, wrap64 _ (by omega)]
  rw [e2, ior64 (by omega) (by omega)]
  congr 1
  rw [pow7] at ha ⊢
  exact or_at ha
section
variable {h0 h : Hp} {R L : List As}
theorem appB {b : Sl} {xs : List Int} {z : Int} {Q : Value → Hp → Prop} {K : Sl → M Value} (hl : xs.length ≤ 10000000) (hs : Sep h0 h (aRow encB 1 b xs :: R)) (hK : ∀ o h, Sep h0 h (aRow encB 1 o (xs ++ [z]) :: R) → K o h Q) :
    (mNew #[.int .u8 z] 5 fun (x : Addr) => mApp 5 1 1 #[.int .u8 (0 : Int)] b ⟨(some x), 1, 1⟩ K) h Q := by
  refine Sep.new hs fun x h hs => ?_
  refine hs.app1 1 0 z rfl rfl (fun _ => rfl) (by intro v hv; simp at hv; subst hv; rfl) rfl (by omega) (by omega) fun s' h hn hs => ?_
  simp only [List.set_cons_succ, List.set_cons_zero] at hs
  exact hK s' h hs.drop
theorem num3 : ∀ (f n : Nat) (xs : List Int) (b : Sl) (h : Hp), n < 128 ^ (f + 1) → f ≤ 4 → xs.length + f ≤ 10000000 → Sep h0 h (aRow encB 1 b xs :: R) →
    K_code_Number_3 b (n : Int) h (fun v h' => ∃ o : Sl, v = .slice o.p o.n o.c ∧ Sep h0 h' (aRow encB 1 o (xs ++ numF f n) :: R))
  | 0, n, xs, b, h, hn, hf, hl, hs => by
    simp only [Nat.zero_add, Nat.pow_one] at hn
    apply S_code_Number_3
    unfold B_code_Number_3
    refine mIf_neg (by simp; omega) ?_
    rw [wrapu8 _ (by omega)]
    exact appB (by omega) hs fun o h hs => ⟨o, rfl, hs⟩
  | f + 1, n, xs, b, h, hn, hf, hl, hs => by
    have h5 : (128 : Nat) ^ (f + 1 + 1) ≤ 128 ^ 5 := Nat.pow_le_pow_right (by omega) (by omega)
    have h5' : (128 : Nat) ^ 5 = 34359738368 := by decide
    have hn' : n / 128 < 128 ^ (f + 1) := by rw [Nat.pow_succ] at hn; omega
    apply S_code_Number_3
    unfold B_code_Number_3 numF
    by_cases hc : 127 < n
    · refine mIf_pos (by simp; omega) ?_
      rw [if_pos hc, low_byte (by omega)]
      refine appB (by omega) hs fun o h hs => ?_
      refine ⟨by omega, ?_⟩
      rw [shr7]
      refine (num3 f (n / 128) _ o h hn' (by omega) (by simp; omega) hs).mono ?_
      rintro v h ⟨o, rfl, hs⟩
      exact ⟨o, rfl, by simpa using hs⟩
    · refine mIf_neg (by simp; omega) ?_
      rw [if_neg hc, wrapu8 _ (by omega)]
      exact appB (by omega) hs fun o h hs => ⟨o, rfl, hs⟩
theorem Number_s {b : Sl} {xs : List Int} (n : Int) (hl : xs.length ≤ 1000000) (hs : Sep h0 h (aRow encB 1 b xs :: R)) : N_code_Number b n h (fun v h' => ∃ o : Sl, v = .slice o.p o.n o.c ∧ Sep h0 h' (aRow encB 1 o (wrN xs n) :: R)) := by
  apply S_code_Number
  unfold B_code_Number wrN
  refine mIf_intro (fun hc => ?_) (fun hc => ?_)
  · rw [if_pos (by simp at hc; omega)]
    exact ⟨b, rfl, hs⟩
  · have hc : ¬ (n < 0 ∨ n > 2147483647) := by simpa using hc
    rw [if_neg hc]
    obtain ⟨m, rfl⟩ : ∃ m : Nat, n = m := ⟨n.toNat, by omega⟩
    rw [Int.toNat_natCast]
    exact num3 4 m xs b h (by omega) (by omega) (by omega) hs
theorem rnum4 : ∀ (f n : Nat) (xs : List Int) (b : Sl) (h : Hp), n < 128 ^ (f + 1) → f ≤ 4 → xs.length + f ≤ 10000000 → Sep h0 h (aRow encB 1 b xs :: R) →
    K_signalboxref46_Number_4 (n : Int) b h (fun v h' => ∃ o : Sl, v = .slice o.p o.n o.c ∧ Sep h0 h' (aRow encB 1 o (xs ++ numF f n) :: R))
  | 0, n, xs, b, h, hn, hf, hl, hs => by
    simp only [Nat.zero_add, Nat.pow_one] at hn
    apply S_signalboxref46_Number_4
    unfold B_signalboxref46_Number_4
    refine mIf_neg (by simp; omega) ?_
    rw [wrapu8 _ (by omega)]
    exact appB (by omega) hs fun o h hs => ⟨o, rfl, hs⟩
  | f + 1, n, xs, b, h, hn, hf, hl, hs => by
    have h5 : (128 : Nat) ^ (f + 1 + 1) ≤ 128 ^ 5 := Nat.pow_le_pow_right (by omega) (by omega)
    have h5' : (128 : Nat) ^ 5 = 34359738368 := by decide
    have hn' : n / 128 < 128 ^ (f + 1) := by rw [Nat.pow_succ] at hn; omega
    apply S_signalboxref46_Number_4
    unfold B_signalboxref46_Number_4 numF
    by_cases hc : 127 < n
    · refine mIf_pos (by simp; omega) ?_
      have e : IntKind.u8.wrap (IntKind.i64.wrap (Int.tmod (n : Int) 128 + 128)) = ((n % 128 + 128 : Nat) : Int) := by
        rw [Int.tmod_eq_emod_of_nonneg (by omega), wrap64 _ (by omega), wrapu8 _ (by omega)]
        omega
      rw [if_pos hc, e]
      refine ⟨by omega, ?_⟩
      refine appB (by omega) hs fun o h hs => ?_
      refine ⟨by omega, ?_⟩
      have e2 : IntKind.i64.wrap (Int.tdiv (n : Int) 128) = ((n / 128 : Nat) : Int) := by
        rw [Int.tdiv_eq_ediv_of_nonneg (by omega), wrap64 _ (by omega)]
        omega
      rw [e2]
      refine (rnum4 f (n / 128) _ o h hn' (by omega) (by simp; omega) hs).mono ?_
      rintro v h ⟨o, rfl, hs⟩
      exact ⟨o, rfl, by simpa using hs⟩
    · refine mIf_neg (by simp; omega) ?_
      rw [if_neg hc, wrapu8 _ (by omega)]
      exact appB (by omega) hs fun o h hs => ⟨o, rfl, hs⟩
theorem rdI_B {B : Nat} {b : Sl} {xs : List Int} {g : Hp} (hr : RdI B g .u8 b xs) : isB xs := fun z hz => by
  have := hr.wf z hz
  rw [show IntKind.u8.min = 0 by decide, show IntKind.u8.max = 255 by decide] at this
  exact this
theorem rowB {k : Nat} {b : Sl} {xs : List Int} (hs : Sep h0 h L) (hk : L[k]? = some (aRow encB 1 b xs)) (hb : isB xs) : RdI h.size h .u8 b xs ∧ b.n ≤ b.c := hs.rowI' k hk fun z hz => by
  rw [show IntKind.u8.min = 0 by decide, show IntKind.u8.max = 255 by decide]
  exact hb z hz
/-- of a row that can be read -/
theorem rNumberI {b : Sl} {xs : List Int} (n : Int) (hl : xs.length ≤ 1000000) (hr : RdI h0.size h0 .u8 b xs) (hs : Sep h0 h R) : N_signalboxref46_Number b n h (fun v h' => ∃ o : Sl, v = .slice o.p o.n o.c ∧ RdI h'.size h' .u8 o (wrN xs n) ∧ Sep h0 h' R) := by
  have hB := wrN_B n (rdI_B hr)
  apply S_signalboxref46_Number
  unfold B_signalboxref46_Number
  refine mIf_intro (fun hc => ?_) (fun hc => ?_)
  · unfold wrN
    rw [if_pos (by simp at hc; omega)]
    exact ⟨b, rfl, hr.now hs, hs⟩
  · have hc : ¬ (n < 0 ∨ n > 2147483647) := by simp at hc; omega
    unfold wrN at hB ⊢
    rw [if_neg hc] at hB ⊢
    obtain ⟨m, rfl⟩ : ∃ m : Nat, n = m := ⟨n.toNat, by omega⟩
    rw [Int.toNat_natCast] at hB ⊢
    refine Sep.new hs fun x h hs => ?_
    have hs := Blk.row (enc := encB) (xs := []) (sz := 1) (n := 0) hs 0 rfl rfl rfl
    simp only [List.set_cons_zero] at hs
    refine hs.appI 0 rfl (hr.under hs.under) rfl (by omega) (by simp; omega) fun s' h hn hs => ?_
    simp only [List.set_cons_zero, List.nil_append] at hs
    refine (rnum4 4 m xs s' h (by omega) (by omega) (by omega) hs).mono ?_
    rintro v h ⟨o, rfl, hs⟩
    exact ⟨o, rfl, (rowB hs (k := 0) rfl hB).1, hs.drop⟩
/-- of a row of one's own -/
theorem cellsOf {X : Type} {enc : X → List Value} {sz : Nat} {s : Sl} {xs : List X} {L : List As} (hs : Sep h0 h L) (k : Nat) (hk : L[k]? = some (aRow enc sz s xs)) (hl : ∀ x, (enc x).length = sz) : slcells h s s.n sz = some (xs.flatMap enc) := by
  obtain ⟨F, hF, _⟩ := hs.holds k hk
  exact aRow_cells hl hF
theorem rNumberO {b : Sl} {xs : List Int} (n : Int) (hl : xs.length ≤ 1000000) (hs : Sep h0 h (aRow encB 1 b xs :: R)) : N_signalboxref46_Number b n h (fun v h' => ∃ o : Sl, v = .slice o.p o.n o.c ∧ Sep h0 h' (aRow encB 1 o (wrN xs n) :: R)) := by
  apply S_signalboxref46_Number
  unfold B_signalboxref46_Number wrN
  refine mIf_intro (fun hc => ?_) (fun hc => ?_)
  · rw [if_pos (by simp at hc; omega)]
    exact ⟨b, rfl, hs⟩
  · have hc : ¬ (n < 0 ∨ n > 2147483647) := by simp at hc; omega
    rw [if_neg hc]
    obtain ⟨m, rfl⟩ : ∃ m : Nat, n = m := ⟨n.toNat, by omega⟩
    rw [Int.toNat_natCast]
    have hbn := hs.rowLen 0 rfl
    refine Sep.new hs fun x h hs => ?_
    have hs := Blk.row (enc := encB) (xs := []) (sz := 1) (n := 0) hs 0 rfl rfl rfl
    simp only [List.set_cons_zero] at hs
    refine hs.app_ 0 xs rfl (fun _ => rfl) (cellsOf hs 1 rfl (fun _ => rfl)) hbn (fun v hv => ?_) rfl (by omega) (by simp; omega) fun s' h hn hs => ?_
    · obtain ⟨z, _, hz⟩ := List.mem_flatMap.1 hv
      simp at hz; subst hz; rfl
    · simp only [List.set_cons_zero, List.nil_append] at hs
      exact rnum4 4 m xs s' h (by omega) (by omega) (by omega) (hs.swap.drop)
/-! ### sums -/
theorem sum_take {xs : List Int} {k : Nat} (hk : k < xs.length) : (xs.take (k + 1)).foldl (· + ·) (0 : Int) = (xs.take k).foldl (· + ·) (0 : Int) + xs[k] := by
  rw [List.take_succ_eq_append_getElem hk, List.foldl_append]; rfl
theorem sum_bound : ∀ (xs : List Int), isB xs → 0 ≤ xs.foldl (· + ·) (0 : Int) ∧ xs.foldl (· + ·) (0 : Int) ≤ 255 * (xs.length : Int)
  | [], _ => by simp
  | x :: xs, hb => by
    have h1 := sum_bound xs fun z hz => hb z (by simp [hz])
    have h2 := hb x (by simp)
    rw [List.foldl_cons, foldl_sum, List.length_cons]
    omega
theorem sum3 {B : Nat} {s : Sl} {xs : List Int} (hr : RdI B h .u8 s xs) (hl : xs.length ≤ 1000000) : ∀ (d k : Nat), k + d = xs.length → K_code_Sum_3 ((xs.take k).foldl (· + ·) 0) s (s.n : Int) (k : Int) h (fun v h' => v = .int .u8 (sumB xs) ∧ h' = h)
  | 0, k, hk => by
    have hn := hr.n
    have hb := sum_bound xs (rdI_B hr)
    rw [List.take_of_length_le (by omega)]
    apply S_code_Sum_3
    unfold B_code_Sum_3
    refine mIf_neg (by simp; omega) ?_
    refine ⟨by omega, ?_⟩
    have hs := sumB_ge xs
    rw [Int.tmod_eq_emod_of_nonneg (by omega)]
    unfold sumB at hs ⊢
    rw [wrapu8 _ (by omega)]
    exact ⟨rfl, rfl⟩
  | d + 1, k, hk => by
    have ih := sum3 hr hl d (k + 1)
    have hn := hr.n
    have hkl : k < xs.length := by omega
    have hz := (rdI_B hr) _ (List.getElem_mem hkl)
    have hb := sum_bound (xs.take k) fun z hz => (rdI_B hr) z (List.mem_of_mem_take hz)
    rw [List.length_take] at hb
    rw [sum_take hkl] at ih
    apply S_code_Sum_3
    unfold B_code_Sum_3
    refine mIf_pos (by simp; omega) ?_
    refine hr.ix hkl ?_
    rw [wrapS k (by omega), wrap64 (xs[k]) (by omega), wrap64 _ (by omega)]
    exact ih (by omega)
theorem Sum_s {B : Nat} {s : Sl} {xs : List Int} (hr : RdI B h .u8 s xs) (hl : xs.length ≤ 1000000) : N_code_Sum s h (fun v h' => v = .int .u8 (sumB xs) ∧ h' = h) := by
  apply S_code_Sum
  unfold B_code_Sum
  exact sum3 hr hl xs.length 0 (Nat.zero_add _)
theorem rsum3 {B : Nat} {s : Sl} {xs : List Int} (hr : RdI B h .u8 s xs) (hl : xs.length ≤ 1000000) : ∀ (d k : Nat), k + d = xs.length → K_signalboxref46_Sum_3 (sumB (xs.take k)) s (s.n : Int) (k : Int) h (fun v h' => v = .int .u8 (sumB xs) ∧ h' = h)
  | 0, k, hk => by
    have hn := hr.n
    rw [List.take_of_length_le (by omega)]
    have hs := sumB_ge xs
    apply S_signalboxref46_Sum_3
    unfold B_signalboxref46_Sum_3
    refine mIf_neg (by simp; omega) ?_
    rw [wrapu8 _ (by omega)]
    exact ⟨rfl, rfl⟩
  | d + 1, k, hk => by
    have ih := rsum3 hr hl d (k + 1)
    have hn := hr.n
    have hkl : k < xs.length := by omega
    have hz := (rdI_B hr) _ (List.getElem_mem hkl)
    have hs := sumB_ge (xs.take k)
    have e : sumB (xs.take (k + 1)) = (sumB (xs.take k) + xs[k]) % 251 := by
      unfold sumB
      rw [sum_take hkl]; omega
    apply S_signalboxref46_Sum_3
    unfold B_signalboxref46_Sum_3
    refine mIf_pos (by simp; omega) ?_
    refine hr.ix hkl ?_
    refine ⟨by omega, ?_⟩
    rw [wrapS k (by omega), wrap64 (xs[k]) (by omega), wrap64 _ (by omega), Int.tmod_eq_emod_of_nonneg (by omega), ← e]
    exact ih (by omega)
theorem rSum_s {B : Nat} {s : Sl} {xs : List Int} (hr : RdI B h .u8 s xs) (hl : xs.length ≤ 1000000) : N_signalboxref46_Sum s h (fun v h' => v = .int .u8 (sumB xs) ∧ h' = h) := by
  apply S_signalboxref46_Sum
  unfold B_signalboxref46_Sum
  exact rsum3 hr hl xs.length 0 (Nat.zero_add _)
/-! ### a number at the beginning -/
def RdOk (r : Option (Nat × Nat)) (n k : Int) (ok : Bool) : Prop := match r with
  | some (m, j) => n = m ∧ k = j ∧ ok = true
  | none => ok = false
theorem rd_nil (f i acc : Nat) : rdF f i acc [] = none := by cases f <;> rfl
theorem read3 {B : Nat} {s : Sl} {xs ys : List Int} (hr : RdI B h .u8 s ys) (hy : ys = xs.take 5) : ∀ (d k acc : Nat), k + d = ys.length → acc < 128 ^ k → readO xs = rdF (5 - k) k acc (xs.drop k) →
    K_code_Read_3 (acc : Int) s (s.n : Int) (k : Int) h (fun v h' => ∃ n k ok, v = .tuple #[.int .i64 n, .int .i64 k, .bool ok] ∧ RdOk (readO xs) n k ok ∧ h' = h)
  | 0, k, acc, hk, ha, he => by
    have hn := hr.n
    have hyl : ys.length = min 5 xs.length := by rw [hy, List.length_take]
    apply S_code_Read_3
    unfold B_code_Read_3
    refine mIf_neg (by simp; omega) ?_
    refine ⟨0, 0, false, rfl, ?_, rfl⟩
    have : readO xs = none := by
      rw [he]
      by_cases h5 : k = 5
      · subst h5; rfl
      · rw [List.drop_of_length_le (by omega), rd_nil]
    rw [this]; rfl
  | d + 1, k, acc, hk, ha, he => by
    have hn := hr.n
    have hyl : ys.length = min 5 xs.length := by rw [hy, List.length_take]
    have hkl : k < ys.length := by omega
    have hkx : k < xs.length := by omega
    have hz := (rdI_B hr) _ (List.getElem_mem hkl)
    have hyx : ys[k] = xs[k] := by subst hy; rw [List.getElem_take]
    rw [hyx] at hz
    rw [List.drop_eq_getElem_cons hkx, show 5 - k = (4 - k) + 1 by omega] at he
    simp only [rdF] at he
    apply S_code_Read_3
    unfold B_code_Read_3
    refine mIf_pos (by simp; omega) ?_
    refine hr.ix hkl ?_
    rw [hyx]
    generalize xs[k] = c at hz he ⊢
    obtain ⟨c, rfl⟩ : ∃ c' : Nat, c = c' := ⟨c.toNat, by omega⟩
    rw [Int.toNat_natCast] at he
    obtain ⟨e1, e2, e3⟩ := acc_bits (c := c) (show k < 5 by omega) ha (by omega)
    rw [e1]
    refine ⟨by omega, ?_⟩
    rw [e2, wrapS k (by omega)]
    refine mIf_intro (fun hc => ?_) (fun hc => ?_)
    · have hc : (c : Int) ≤ 127 := by simpa using hc
      rw [if_pos hc] at he
      refine ⟨_, _, _, rfl, ?_, rfl⟩
      rw [he]
      by_cases hh : (0 < (c : Int) ∨ k = 0) ∧ acc + c % 128 * 128 ^ k ≤ 2147483647
      · rw [if_pos hh]
        refine ⟨rfl, rfl, ?_⟩
        simp only [Bool.and_eq_true, Bool.or_eq_true, decide_eq_true_eq, beq_iff_eq]
        omega
      · rw [if_neg hh]
        show (_ && _) = false
        rw [Bool.eq_false_iff]
        intro hb
        apply hh
        simp only [Bool.and_eq_true, Bool.or_eq_true, decide_eq_true_eq, beq_iff_eq] at hb
        omega
    · have hc : ¬ (c : Int) ≤ 127 := by simpa using hc
      rw [if_neg hc] at he
      refine read3 hr hy d (k + 1) _ (by omega) e3 ?_
      rw [he, show 5 - (k + 1) = 4 - k by omega]
theorem Read_s {B : Nat} {s : Sl} {xs : List Int} (hr : RdI B h .u8 s xs) (hc : s.n ≤ s.c) : N_code_Read s h (fun v h' => ∃ n k ok, v = .tuple #[.int .i64 n, .int .i64 k, .bool ok] ∧ RdOk (readO xs) n k ok ∧ h' = h) := by
  have hn := hr.n
  apply S_code_Read
  unfold B_code_Read
  have hm : (if (5 : Int) < (s.n : Int) then (5 : Int) else (s.n : Int)) = ((min 5 xs.length : Nat) : Int) := by split <;> omega
  rw [hm]
  refine hr.slc hc (by omega) (by omega) (by omega) rfl fun x hx hxc => ?_
  simp only [Int.toNat_natCast, Int.toNat_zero, List.drop_zero] at hx
  have e : xs.take (min 5 xs.length) = xs.take 5 := by
    by_cases h5 : 5 ≤ xs.length
    · rw [Nat.min_eq_left h5]
    · rw [Nat.min_eq_right (by omega), List.take_of_length_le (Nat.le_refl _), List.take_of_length_le (by omega)]
  rw [e] at hx
  exact read3 hx rfl (xs.take 5).length 0 0 (Nat.zero_add _) (by simp) rfl
end
end Go.Proofs.Ytimpaammdmeocaa
