/- Rows in fewer bytes: reading. Conditions: none. -/
import Derived.Test.YtinjifhjjkdmoaaRunL
import Derived.Test.YtinjifhjjkdmoaaSbW
namespace Go.Proofs.Ytinjifhjjkdmoaa
open Go Go.Sb
set_option linter.unusedSimpArgs false
set_option linter.unusedVariables false
def U (a : Int) : Prop := 0 ≤ a ∧ a ≤ 18446744073709551615
theorem shr32 {a : Int} (ha : 0 ≤ a) : ishr .u64 a 32 = a / 4294967296 := by
  unfold ishr
  rw [show (2 : Int) ^ (min (Int.toNat 32) IntKind.u64.bits) = 4294967296 by decide, Int.fdiv_eq_ediv_of_nonneg _ (by omega)]
theorem and32 {a : Int} (ha : U a) : iand .u64 a 4294967295 = a % 4294967296 := by
  obtain ⟨n, rfl⟩ : ∃ n : Nat, a = n := ⟨a.toNat, by have := ha.1; omega⟩
  have h2 : n < 2 ^ 64 := by have := ha.2; omega
  have e : (BitVec.ofInt 64 (n : Int) &&& BitVec.ofInt 64 4294967295).toNat = n % 4294967296 := by
    rw [BitVec.toNat_and, BitVec.ofInt_natCast, BitVec.toNat_ofNat, Nat.mod_eq_of_lt h2, show (BitVec.ofInt 64 4294967295).toNat = 2 ^ 32 - 1 by decide, Nat.and_two_pow_sub_one_eq_mod]
  unfold iand
  rw [show IntKind.u64.bits = 64 from rfl, e, wrapu64 _ (by omega)]
  omega
theorem mul_bd {a b : Int} (ha : 0 ≤ a ∧ a ≤ 4294967295) (hb : 0 ≤ b ∧ b ≤ 4294967295) : 0 ≤ a * b ∧ a * b ≤ 18446744065119617025 := by
  refine ⟨Int.mul_nonneg ha.1 hb.1, ?_⟩
  have := Int.mul_le_mul ha.2 hb.2 hb.1 (by omega)
  omega
theorem mul64_s {h : Hp} {a b : Int} (ha : U a) (hb : U b) : N_math_bits_Mul64 a b h (fun v h' => v = .tuple #[.int .u64 ((a * b) / 18446744073709551616), .int .u64 ((a * b) % 18446744073709551616)] ∧ h' = h) := by
  apply S_math_bits_Mul64
  unfold B_math_bits_Mul64
  refine ⟨by omega, by omega, by omega, by omega, by omega, ?_⟩
  have a0 := ha.1; have a1 := ha.2; have b0 := hb.1; have b1 := hb.2
  rw [shr32 ha.1, shr32 hb.1, and32 ha, and32 hb]
  have hA := mul_bd (a := a / 4294967296) (b := b / 4294967296) (by omega) (by omega)
  have hB := mul_bd (a := a / 4294967296) (b := b % 4294967296) (by omega) (by omega)
  have hC := mul_bd (a := a % 4294967296) (b := b / 4294967296) (by omega) (by omega)
  have hD := mul_bd (a := a % 4294967296) (b := b % 4294967296) (by omega) (by omega)
  have hab : a * b = (a / 4294967296) * (b / 4294967296) * 18446744073709551616 + ((a / 4294967296) * (b % 4294967296) + (a % 4294967296) * (b / 4294967296)) * 4294967296 + (a % 4294967296) * (b % 4294967296) := by
    have e1 : a = (a / 4294967296) * 4294967296 + a % 4294967296 := by omega
    have e2 : b = (b / 4294967296) * 4294967296 + b % 4294967296 := by omega
    conv => lhs; rw [e1, e2]
    generalize a / 4294967296 = x
    generalize a % 4294967296 = y
    generalize b / 4294967296 = z
    generalize b % 4294967296 = w
    rw [Int.add_mul, Int.mul_add, Int.mul_add]
    have q1 : x * 4294967296 * (z * 4294967296) = x * z * 18446744073709551616 := by
      rw [Int.mul_assoc, Int.mul_left_comm 4294967296 z, ← Int.mul_assoc]; rfl
    have q2 : x * 4294967296 * w = x * w * 4294967296 := by rw [Int.mul_right_comm]
    have q3 : y * (z * 4294967296) = y * z * 4294967296 := by rw [Int.mul_assoc]
    rw [q1, q2, q3]
    omega
  rw [hab]
  have hlo : IntKind.u64.wrap ((a / 4294967296) * (b / 4294967296) * 18446744073709551616 + ((a / 4294967296) * (b % 4294967296) + (a % 4294967296) * (b / 4294967296)) * 4294967296 + (a % 4294967296) * (b % 4294967296)) = ((a / 4294967296) * (b / 4294967296) * 18446744073709551616 + ((a / 4294967296) * (b % 4294967296) + (a % 4294967296) * (b / 4294967296)) * 4294967296 + (a % 4294967296) * (b % 4294967296)) % 18446744073709551616 := by
    unfold IntKind.wrap
    rfl
  rw [hlo]
  generalize (a / 4294967296) * (b / 4294967296) = A at *
  generalize (a / 4294967296) * (b % 4294967296) = B at *
  generalize (a % 4294967296) * (b / 4294967296) = C at *
  generalize (a % 4294967296) * (b % 4294967296) = D at *
  have w1 : IntKind.u64.wrap D = D := wrapu64 _ (by omega)
  have w2 : IntKind.u64.wrap B = B := wrapu64 _ (by omega)
  have w3 : IntKind.u64.wrap C = C := wrapu64 _ (by omega)
  have w4 : IntKind.u64.wrap A = A := wrapu64 _ (by omega)
  rw [w1, w2, w3, w4, shr32 (a := D) (by omega), wrapu64 (B + D / 4294967296) (by omega), and32 (a := B + D / 4294967296) ⟨by omega, by omega⟩, shr32 (a := B + D / 4294967296) (by omega), wrapu64 ((B + D / 4294967296) % 4294967296 + C) (by omega), shr32 (a := (B + D / 4294967296) % 4294967296 + C) (by omega), wrapu64 (A + (B + D / 4294967296) / 4294967296) (by omega), wrapu64 _ (by omega)]
  have e : A + (B + D / 4294967296) / 4294967296 + ((B + D / 4294967296) % 4294967296 + C) / 4294967296 = (A * 18446744073709551616 + (B + C) * 4294967296 + D) / 18446744073709551616 := by omega
  rw [e]
  exact ⟨rfl, rfl⟩
section
variable {h0 h : Hp} {R : List As} {B : Nat} {s x : Sl} {c : Int} {l zs : List Int}
theorem mnz_s (hs : Sep h0 h R) {n : Nat} (hn : n ≤ 1000000000) : N_internal_bytealg_MakeNoZero (n : Int) h (fun v h' => ∃ (o : Sl) (vs : List Value), v = .slice o.p o.n o.c ∧ o.n = n ∧ n ≤ o.c ∧ Sep h0 h' (aRow encV 1 o vs :: R)) := by
  refine .inr (.inr fun w hw => ?_)
  subst hw
  obtain ⟨cs, h1, h2, _⟩ := Go.Lib.run_makeNoZero (P := Try.prog) w #[3] 60 5 (by kernel_rfl) n (by omega)
  refine ⟨_, w.drew.drew.alloc (.cells cs 5), ?_, ?_, ?_, ⟨some ⟨w.heap.size, 0, none⟩, n, cs.size⟩, cs.toList.take n, rfl, rfl, h2, ?_⟩
  · rw [run_callFunc_extern Try.func95 (by kernel_rfl) (by kernel_rfl) (by kernel_rfl) (e := Extern.BytealgMakeNoZero.makeNoZero #[3] #[60]) (by kernel_rfl), h1]
    rfl
  · exact ⟨rfl, rfl, rfl⟩
  · show w.heap.size < (w.heap.push _).size
    simp
  · have := hs.push cs 5
    refine this.keep 0 rfl ?_
    unfold aBlk aRow
    rintro F ⟨rfl, hb⟩
    refine ⟨by simp [h2], .inr ⟨_, 0, [], cs.toList.drop n, rfl, rfl, ?_, rfl, h2, ?_⟩⟩
    · have e : (cs.toList.take n).flatMap encV = cs.toList.take n := by simp [encV]
      rw [List.nil_append, e, List.take_append_drop]
      exact hb
    · rw [List.length_drop, Array.length_toList, Nat.mul_one]; exact Nat.le_refl _
theorem mul_s {a : Nat} (ha : a ≤ 1000) : N_math_bits_Mul 1 (a : Int) h (fun v h' => v = .tuple #[.int .u64 0, .int .u64 (a : Int)] ∧ h' = h) := by
  apply S_math_bits_Mul
  unfold B_math_bits_Mul
  rw [mBind_ap]
  refine (mul64_s (a := 1) (b := a) ⟨by omega, by omega⟩ ⟨by omega, by omega⟩).mono ?_
  rintro v h' ⟨rfl, rfl⟩
  simp only [un2_tuple, unI_int]
  refine ⟨?_, rfl⟩
  rw [Int.one_mul, show (a : Int) / 18446744073709551616 = 0 by omega, show (a : Int) % 18446744073709551616 = a by omega]
/-- bytes of which the first ones are laid -/
theorem rep18 {a : Nat} {o : Sl} {c : Int} (ha : a ≤ 1000) (hon : o.n = a) (hoc : o.n ≤ o.c) : ∀ (d bp : Nat) (junk : List Value) (h : Hp), 1 ≤ bp → bp ≤ a → a ≤ bp + d → Sep h0 h (aRow encV 1 o (List.replicate bp (.int .u8 c) ++ junk) :: R) →
    K_bytes_Repeat_18 (a : Int) (a : Int) o (bp : Int) h (fun v h' => v = .slice o.p o.n o.c ∧ Sep h0 h' (aRow encU 1 o (List.replicate a c) :: R)) := by
  have fin : ∀ (bp : Nat) (junk : List Value) (h : Hp), bp = a → Sep h0 h (aRow encV 1 o (List.replicate bp (.int .u8 c) ++ junk) :: R) → (mRet (.slice o.p o.n o.c) : M Value) h (fun v h' => v = .slice o.p o.n o.c ∧ Sep h0 h' (aRow encU 1 o (List.replicate a c) :: R)) := by
    intro bp junk h hb hs
    subst hb
    have hln := hs.rowLen 0 rfl
    have hj : junk = [] := by
      apply List.length_eq_zero_iff.1
      rw [List.length_append, List.length_replicate] at hln
      omega
    subst hj
    refine ⟨rfl, hs.keep 0 rfl ?_⟩
    unfold aRow
    rintro F ⟨g1, g2⟩
    have e1 : (List.replicate bp (Value.int .u8 c) ++ []).flatMap encV = (List.replicate bp c).flatMap encU := by
      rw [List.append_nil]
      clear hs hln g1 g2 ha hon
      induction bp with
      | zero => rfl
      | succ n ih => rw [List.replicate_succ, List.flatMap_cons, ih, List.replicate_succ, List.flatMap_cons]
    rw [e1] at g2
    exact ⟨by simpa using hon, g2⟩
  intro d
  induction d with
  | zero =>
    intro bp junk h h1 h2 h3 hs
    apply S_bytes_Repeat_18
    unfold B_bytes_Repeat_18
    refine mIf_neg (by simp; omega) ?_
    exact fin bp junk h (by omega) hs
  | succ d ih =>
    intro bp junk h h1 h2 h3 hs
    apply S_bytes_Repeat_18
    unfold B_bytes_Repeat_18
    by_cases hlt : bp < a
    · refine mIf_pos (by simp; omega) ?_
      have hln := hs.rowLen 0 rfl
      rw [List.length_append, List.length_replicate] at hln
      refine vslc (sz := 1) (by omega) (by omega) (by omega) (by omega) fun x hv hxn hxc => ?_
      rw [Int.toNat_natCast] at hv
      rw [if_neg (show ¬ (a : Int) < bp by omega)]
      refine vslc (sz := 1) (by omega) (by omega) (by omega) (by omega) fun y hw hyn hyc => ?_
      rw [show (0 : Int).toNat = 0 from rfl] at hw
      have hm : min y.n x.n = min bp (a - bp) := by omega
      have hc := hs.vcells 0 (x := y) (m := min y.n x.n) rfl (fun _ => rfl) hw (by omega) (by rw [List.length_append, List.length_replicate]; omega)
      have hyl : ((List.replicate bp (Value.int .u8 c) ++ junk).drop 0).take (min y.n x.n) = List.replicate (min bp (a - bp)) (.int .u8 c) := by
        rw [List.drop_zero, hm, List.take_append_of_le_length (by rw [List.length_replicate]; omega), List.take_replicate, Nat.min_eq_left (by omega)]
      rw [hyl] at hc
      refine hs.vcopy 0 (List.replicate (min bp (a - bp)) (.int .u8 c)) rfl (fun _ => rfl) hv hc (by rw [List.length_replicate, hm]) ?_ (by rw [List.length_replicate, List.length_append, List.length_replicate]; omega) fun h hs => ?_
      · intro v hv
        obtain ⟨w, hw, hv⟩ := List.mem_flatMap.1 hv
        have := List.eq_of_mem_replicate hw
        subst this
        simp only [encV, List.mem_singleton] at hv
        subst hv; rfl
      · simp only [List.set_cons_zero, List.length_replicate] at hs
        rw [List.length_replicate, wrap64 _ (by omega), show ((bp : Int) + (min bp (a - bp) : Nat)) = ((bp + min bp (a - bp) : Nat) : Int) by omega]
        refine ih (bp + min bp (a - bp)) (junk.drop (min bp (a - bp))) h (by omega) (by omega) (by omega) ?_
        have e : (List.replicate bp (Value.int .u8 c) ++ junk).take bp ++ (List.replicate (min bp (a - bp)) (.int .u8 c) ++ (List.replicate bp (Value.int .u8 c) ++ junk).drop (bp + min bp (a - bp))) = List.replicate (bp + min bp (a - bp)) (.int .u8 c) ++ junk.drop (min bp (a - bp)) := by
          rw [List.take_left' (by simp), ← List.drop_drop, List.drop_left' (by simp), ← List.append_assoc, List.replicate_append_replicate]
        rw [e] at hs
        exact hs
    · refine mIf_neg (by simp; omega) ?_
      exact fin bp junk h (by omega) hs
theorem trim_s {X : Type} {enc : X → List Value} {sz : Nat} {o : Sl} {xs : List X} (hs : Sep h0 h (aRow enc sz o xs :: R)) : Sep h0 h (aRow enc sz ⟨o.p, o.n, o.n⟩ xs :: R) := by
  refine hs.keep 0 rfl ?_
  unfold aRow
  rintro F ⟨g1, g2⟩
  refine ⟨g1, ?_⟩
  rcases g2 with ⟨e1, e2, e3⟩ | ⟨b, q, pre, rest, e1, e2, e3, e4, e5, e6⟩
  · exact .inl ⟨e1, e1, e3⟩
  · exact .inr ⟨b, q, pre, rest, e1, e2, e3, e4, Nat.le_refl _, by show (o.n - o.n) * sz ≤ _; rw [Nat.sub_self, Nat.zero_mul]; omega⟩
theorem repeat_s {a : Nat} (hr : RdI h0.size h0 .u8 s [c]) (h1 : 1 ≤ a) (ha : a ≤ 1000) (hs : Sep h0 h R) : N_bytes_Repeat s (a : Int) h (fun v h' => ∃ o : Sl, v = .slice o.p o.n o.c ∧ Sep h0 h' (aRow encU 1 o (List.replicate a c) :: R)) := by
  have hsn : s.n = 1 := hr.n
  apply S_bytes_Repeat
  unfold B_bytes_Repeat
  refine mIf_neg (by simp; omega) ?_
  refine mIf_neg (by simp) ?_
  apply S_bytes_Repeat_5
  unfold B_bytes_Repeat_5
  rw [hsn, mBind_ap, wrapu64 _ (by omega), wrapu64 _ (by omega)]
  refine (mul_s ha).mono ?_
  rintro v h' ⟨rfl, rfl⟩
  simp only [un2_tuple, unI_int]
  refine mIf_neg (by simp; omega) ?_
  apply S_bytes_Repeat_8
  unfold B_bytes_Repeat_8
  rw [hsn, wrap64 _ (by omega)]
  refine mIf_neg (by simp) ?_
  refine mIf_neg (by simp; omega) ?_
  rw [mBind_ap]
  refine (mnz_s hs (by omega)).mono ?_
  rintro v h ⟨o, vs, rfl, hon, hoc, hs⟩
  simp only [unL_slice]
  have hln := hs.rowLen 0 rfl
  refine ⟨by omega, by omega, by omega, by show (a : Int) ≤ (o.c : Int); omega, ?_⟩
  have e : (⟨if (a : Int).toNat = (0 : Int).toNat then o.p else o.p.map (·.add ((0 : Int).toNat * 1)), (a : Int).toNat - (0 : Int).toNat, (a : Int).toNat - (0 : Int).toNat⟩ : Sl) = ⟨o.p, o.n, o.n⟩ := by
    rw [Int.toNat_natCast, show (0 : Int).toNat = 0 from rfl, if_neg (by omega), Nat.sub_zero, hon]
    congr 1
    cases o.p with
    | none => rfl
    | some q => simp [Addr.add_zero']
  rw [e]
  have hs := trim_s hs
  generalize hX : (⟨o.p, o.n, o.n⟩ : Sl) = X at *
  have hXn : X.n = a := by rw [← hX]; exact hon
  have hXc : X.c = a := by rw [← hX]; exact hon
  have hc := (hr.under hs.under).cells
  have hmin : min s.n X.n = 1 := by omega
  refine hs.vcopy 0 (lo := 0) (x := s) [Value.int .u8 c] rfl (fun _ => rfl) (.refl _ _) (by rw [hsn] at hc; rw [hmin]; exact hc) (by rw [hmin]; rfl) (by intro v hv; simp [encV] at hv; subst hv; rfl) (by simp; omega) fun h hs => ?_
  simp only [List.set_cons_zero] at hs
  have := rep18 (c := c) (R := R) (o := X) ha hXn (by omega) (a - 1) 1 ((vs.drop (0 + [Value.int .u8 c].length))) h (by omega) (by omega) (by omega) (by simpa using hs)
  refine this.mono ?_
  rintro v h ⟨rfl, hs⟩
  exact ⟨X, rfl, hs⟩
/-! parts -/
theorem next_s (hr : RdI h0.size h0 .u8 s (c :: l)) (hs : Sep h0 h R) : N_runs_next s h (fun v h' => v = .tuple #[.agg #[.int .i64 (if 128 ≤ c then 2 else c + 2), .int .i64 (if 128 ≤ c then c - 125 else c + 1)], .bool (decide ((s.n : Int) ≥ (if 128 ≤ c then 2 else c + 2)))] ∧ Sep h0 h' R) := by
  have hsn : s.n = l.length + 1 := hr.n
  have hc := (u8wf c).1 (hr.wf c (by simp))
  apply S_runs_next
  unfold B_runs_next
  refine Sep.new hs fun nb h hs => ?_
  refine hs.argIn (j := 0) hr (by simp) ?_
  show mNew _ _ _ _ _
  rw [List.getElem_cons_zero]
  have w1 : IntKind.i64.wrap c = c := wrap64 _ (by omega)
  have w2 : IntKind.i64.wrap (c + 2) = c + 2 := wrap64 _ (by omega)
  have w3 : IntKind.i64.wrap (c + 1) = c + 1 := wrap64 _ (by omega)
  have w4 : IntKind.i64.wrap (c - 128) = c - 128 := wrap64 _ (by omega)
  have w5 : IntKind.i64.wrap (c - 128 + 3) = c - 125 := by rw [wrap64 _ (by omega)]; omega
  rw [w1, w2, w3, w4, w5]
  ((refine Sep.new hs fun nb_1 h hs => ?_; try simp only [List.toList_toArray] at hs); (refine Sep.st hs 0 rfl rfl rfl fun h hs => ?_; simp only [List.set_cons_zero, List.set_cons_succ] at hs); (refine Sep.st hs 0 rfl rfl rfl fun h hs => ?_; simp only [List.set_cons_zero, List.set_cons_succ] at hs); simp only [add_mk, Nat.zero_add])
  refine mIf_dec (fun h1 => ?_) (fun h1 => ?_)
  · rw [if_pos h1, if_pos h1]
    ((refine Sep.st hs 0 rfl rfl rfl fun h hs => ?_; simp only [List.set_cons_zero, List.set_cons_succ] at hs); (refine Sep.st hs 0 rfl rfl rfl fun h hs => ?_; simp only [List.set_cons_zero, List.set_cons_succ] at hs))
    repeat' (first | with_reducible refine mAnd_intro ?_ ?_ | (first | (((with_reducible refine gd_mLdI ?_); refine Sep.ldI hs 0 rfl rfl ?_)) | (((with_reducible refine gd_mSt ?_); (refine Sep.st hs 1 rfl rfl rfl fun h hs => ?_; simp only [List.set_cons_zero, List.set_cons_succ] at hs))) | (((with_reducible refine gd_mLdI ?_); refine Sep.ldI hs 1 rfl rfl ?_))))
    all_goals exact ⟨rfl, hs.drop.drop⟩
  · rw [if_neg h1, if_neg h1]
    (skip)
    repeat' (first | with_reducible refine mAnd_intro ?_ ?_ | (first | (((with_reducible refine gd_mLdI ?_); refine Sep.ldI hs 0 rfl rfl ?_)) | (((with_reducible refine gd_mSt ?_); (refine Sep.st hs 1 rfl rfl rfl fun h hs => ?_; simp only [List.set_cons_zero, List.set_cons_succ] at hs))) | (((with_reducible refine gd_mLdI ?_); refine Sep.ldI hs 1 rfl rfl ?_))))
    all_goals exact ⟨rfl, hs.drop.drop⟩
/-- what is asked of the one that sees the parts -/
structure See (h0 : Hp) (g : Nat) (f cc : Array Value) (S : List Int → As) : Prop where
  run : ∀ (R : List As) (h : Hp) (x : Sl) (a : Nat) (c : Int) (row : List Int), 3 ≤ a → a ≤ 130 → x.n ≤ x.c → RdI h0.size h0 .u8 x [125 + (a : Int), c] → row.length + a ≤ 1048576 → Sep h0 h (S row :: R) →
    Nf Try.prog g (f ++ #[.slice x.p x.n x.c, .agg #[.int .i64 2, .int .i64 (a : Int)]] ++ cc) h (fun _ h' => Sep h0 h' (S (row ++ List.replicate a c) :: R))
  lit : ∀ (R : List As) (h : Hp) (x : Sl) (l : List Int) (row : List Int), 1 ≤ l.length → l.length ≤ 128 → x.n ≤ x.c → RdI h0.size h0 .u8 x (((l.length : Int) - 1) :: l) → row.length + l.length ≤ 1048576 → Sep h0 h (S row :: R) →
    Nf Try.prog g (f ++ #[.slice x.p x.n x.c, .agg #[.int .i64 ((l.length : Int) + 1), .int .i64 (l.length : Int)]] ++ cc) h (fun _ h' => Sep h0 h' (S (row ++ l) :: R))
theorem walk_run {g : Nat} {f cc : Array Value} {S : List Int → As} (hsee : See h0 g f cc S) {a : Nat} {c : Int} {w row : List Int} (h3 : 3 ≤ a) (h1 : a ≤ 130) (hr : RdI h0.size h0 .u8 s ((125 + (a : Int)) :: c :: w)) (hcap : s.n ≤ s.c) (hn : w.length ≤ 10000000) (hsum : row.length ≤ 1048576) (hs : Sep h0 h (S row :: R)) (Q : Value → Hp → Prop)
    (next : row.length + a ≤ 1048576 → ∀ (x : Sl) (h : Hp), RdI h0.size h0 .u8 x w → x.n ≤ x.c → Sep h0 h (S (row ++ List.replicate a c) :: R) → K_runs_walk_2 x g f cc ((row.length + a : Nat) : Int) h Q)
    (long : 1048576 < row.length + a → ∀ h, Sep h0 h (S row :: R) → Q (.int .i64 3) h) : K_runs_walk_2 s g f cc (row.length : Int) h Q := by
  have hsn : s.n = w.length + 2 := hr.n
  apply S_runs_walk_2
  unfold B_runs_walk_2
  refine mIf_pos (by simp; omega) ?_
  rw [mBind_ap]
  refine (next_s hr hs).mono ?_
  rintro v h ⟨rfl, hs⟩
  rw [if_pos (by omega), if_pos (by omega), show (125 + (a : Int) - 125) = (a : Int) by omega]
  simp only [unT_tuple, unC_cons, unA_agg, unI_int, unB_bool, unE_nil]
  ((refine Sep.new hs fun nb h hs => ?_; try simp only [List.toList_toArray] at hs); (refine Sep.st hs 0 rfl rfl rfl fun h hs => ?_; simp only [List.set_cons_zero, List.set_cons_succ] at hs); (refine Sep.st hs 0 rfl rfl rfl fun h hs => ?_; simp only [List.set_cons_zero, List.set_cons_succ] at hs); simp only [add_mk, Nat.zero_add])
  refine mIf_neg (by simp; omega) ?_
  (refine Sep.ldI hs 0 rfl rfl ?_)
  rw [wrap64 _ (by omega)]
  refine mIf_dec (fun hc => ?_) (fun hc => ?_)
  · exact long (by omega) _ hs.drop
  · have hrow : row.length + a ≤ 1048576 := by omega
    have go : ∀ (x : Sl) (h : Hp) (pb : Nat), RdI h0.size h0 .u8 x ((((125 + (a : Int)) :: c :: w).take ((2 : Int)).toNat).drop ((0 : Int)).toNat) → x.n ≤ x.c → Sep h0 h (aBlk pb [.int .i64 2, .int .i64 (a : Int)] :: S row :: R) →
        (mBind (Nf Try.prog g (f ++ #[.slice x.p x.n x.c, .agg #[.int .i64 2, .int .i64 (a : Int)]] ++ cc)) fun _ =>
          mLdI .i64 ⟨pb, 0, none⟩ fun (x33 : Int) => mSlc s 1 x33 (s.n : Int) (s.c : Int) fun (x34 : Sl) => K_runs_walk_2 x34 g f cc ((row.length : Int) + a)) h Q := by
      intro x h pb hx hxc hs
      rw [mBind_ap]
      refine (hsee.run _ h x a c row h3 h1 hxc hx hrow hs.swap).mono ?_
      intro v h hs
      have hs := hs.swap
      (refine Sep.ldI hs 0 rfl rfl ?_)
      refine hr.slc hcap (by omega) (by omega) (by simp; omega) rfl fun y hy hyc => ?_
      rw [show ((s.n : Int)).toNat = (((125 + (a : Int)) :: c :: w)).length by simp; omega, List.take_length] at hy
      exact next hrow y h hy hyc hs.drop
    refine mAnd_intro ?_ ?_
    · (refine Sep.ldI hs 0 rfl rfl ?_)
      refine hr.slc hcap (by omega) (by omega) (by simp; omega) rfl fun x hx hxc => ?_
      (refine Sep.ldI hs 0 rfl rfl ?_; refine Sep.ldI hs 0 rfl rfl ?_; simp only [mBind_ap])
      exact go x _ _ hx hxc hs
    · (refine Sep.ldI hs 0 rfl rfl ?_; refine Sep.ldI hs 0 rfl rfl ?_; refine Sep.ldI hs 0 rfl rfl ?_)
      refine hr.slc hcap (by omega) (by omega) (by simp; omega) rfl fun x hx hxc => ?_
      exact go x _ _ hx hxc hs
end
end Go.Proofs.Ytinjifhjjkdmoaa
