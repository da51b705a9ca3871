/- Who waits for whom: sets of parties as masks, and what the small calls answer. Conditions: none. -/
import Derived.Test.YtimpaammdmeocaaDoorSbX
import Derived.Test.YtimpaammdmeocaaDoorWaiM
import Derived.Lib.TrailingZeros
import Derived.Test.YtimpaammdmeocaaDoorSbW
namespace Go.Proofs.YtimpaammdmeocaaDoor
open Go Go.Sb
set_option linter.unusedSimpArgs false
set_option linter.unusedVariables false
abbrev encI : Int → List Value := fun z => [.int .i64 z]
/-- the parties of a mask, rising -/
def lsN (w : Nat) : List Nat := (List.range 64).filter fun i => w.testBit i
theorem mem_lsN {w i : Nat} : i ∈ lsN w ↔ i < 64 ∧ w.testBit i = true := by simp [lsN]
theorem filter_cons {f g : Nat → Bool} {k : Nat} (h1 : ∀ i, i < k → f i = false) (h2 : f k = true) (h3 : ∀ i, g i = (f i && decide (i ≠ k))) : ∀ n, k < n → (List.range n).filter f = k :: (List.range n).filter g := by
  intro n
  induction n with
  | zero => intro h; omega
  | succ n ih =>
    intro hk
    rw [List.range_succ, List.filter_append, List.filter_append]
    by_cases hkn : k = n
    · subst hkn
      have e1 : (List.range k).filter f = [] := List.filter_eq_nil_iff.2 fun i hi => by rw [h1 i (by simpa using hi)]; simp
      have e2 : (List.range k).filter g = [] := List.filter_eq_nil_iff.2 fun i hi => by rw [h3, h1 i (by simpa using hi)]; simp
      rw [e1, e2]
      simp [h2, h3]
    · rw [ih (by omega)]
      have : g n = f n := by rw [h3]; simp; intro _ e; omega
      simp [List.filter_cons, this]
theorem low_bits {w : Nat} (h0 : w ≠ 0) (hw : w < 2 ^ 64) : Lib.ctz 64 w < 64 ∧ w.testBit (Lib.ctz 64 w) = true ∧ (∀ i, i < Lib.ctz 64 w → w.testBit i = false) ∧ ∀ i, (w &&& (w - 1)).testBit i = (w.testBit i && decide (i ≠ Lib.ctz 64 w)) := by
  obtain ⟨m, hm, hk⟩ := Lib.ctzFrom_spec 64 w (by omega) hw
  have e : Lib.ctz 64 w = Lib.ctzFrom 64 w := by simp [Lib.ctz, h0]
  rw [e]
  generalize Lib.ctzFrom 64 w = k at hm hk
  have t1 : ∀ i, w.testBit i = if i < k then false else (2 * m + 1).testBit (i - k) := by
    intro i
    have := Nat.testBit_two_pow_mul_add (2 * m + 1) (b := 0) (i := k) (Nat.two_pow_pos k) i
    rw [Nat.add_zero, ← hm] at this
    rw [this]; simp
  have hp : 0 < 2 ^ k := Nat.two_pow_pos k
  have t2 : ∀ i, (w - 1).testBit i = if i < k then (2 ^ k - 1).testBit i else (2 * m).testBit (i - k) := by
    intro i
    have := Nat.testBit_two_pow_mul_add (2 * m) (b := 2 ^ k - 1) (i := k) (by omega) i
    rw [← this]
    congr 1
    rw [hm, Nat.mul_add, Nat.mul_one]; omega
  refine ⟨hk, ?_, fun i hi => ?_, fun i => ?_⟩
  · rw [t1, if_neg (by omega), Nat.sub_self, Nat.testBit_zero]; simp
  · rw [t1, if_pos hi]
  · rw [Nat.testBit_and, t1, t2]
    by_cases hi : i < k
    · simp [hi]
    · rw [if_neg hi, if_neg hi]
      by_cases hik : i = k
      · subst hik
        simp
      · obtain ⟨j, rfl⟩ : ∃ j, i = k + (j + 1) := ⟨i - k - 1, by omega⟩
        have e3 : k + (j + 1) - k = j + 1 := by omega
        rw [e3, Nat.testBit_succ, Nat.testBit_succ, show (2 * m + 1) / 2 = m by omega, show 2 * m / 2 = m by omega]
        simp
theorem ls_cons {w : Nat} (h0 : w ≠ 0) (hw : w < 2 ^ 64) : lsN w = Lib.ctz 64 w :: lsN (w &&& (w - 1)) := by
  obtain ⟨h1, h2, h3, h4⟩ := low_bits h0 hw
  exact filter_cons h3 h2 h4 64 h1
theorem lsN_zero : lsN 0 = [] := by simp [lsN]
theorem iand_n {a b : Nat} (ha : a < 2 ^ 64) (hb : b < 2 ^ 64) : iand .u64 (a : Int) (b : Int) = ((a &&& b : Nat) : Int) := by
  have hx : a &&& b < 2 ^ 64 := Nat.and_lt_two_pow _ hb
  have h1 : (BitVec.ofInt 64 (a : Int)).toNat = a := by rw [BitVec.ofInt_natCast, BitVec.toNat_ofNat]; exact Nat.mod_eq_of_lt ha
  have h2 : (BitVec.ofInt 64 (b : Int)).toNat = b := by rw [BitVec.ofInt_natCast, BitVec.toNat_ofNat]; exact Nat.mod_eq_of_lt hb
  show IntKind.u64.wrap ((BitVec.ofInt 64 (a : Int) &&& BitVec.ofInt 64 (b : Int)).toNat : Int) = _
  rw [BitVec.toNat_and, h1, h2, wrapu64 _ (by omega)]
theorem ior_n {a b : Nat} (ha : a < 2 ^ 64) (hb : b < 2 ^ 64) : ior .u64 (a : Int) (b : Int) = ((a ||| b : Nat) : Int) := by
  have hx : a ||| b < 2 ^ 64 := Nat.or_lt_two_pow ha hb
  have h1 : (BitVec.ofInt 64 (a : Int)).toNat = a := by rw [BitVec.ofInt_natCast, BitVec.toNat_ofNat]; exact Nat.mod_eq_of_lt ha
  have h2 : (BitVec.ofInt 64 (b : Int)).toNat = b := by rw [BitVec.ofInt_natCast, BitVec.toNat_ofNat]; exact Nat.mod_eq_of_lt hb
  show IntKind.u64.wrap ((BitVec.ofInt 64 (a : Int) ||| BitVec.ofInt 64 (b : Int)).toNat : Int) = _
  rw [BitVec.toNat_or, h1, h2, wrapu64 _ (by omega)]
/-- a mask less one party -/
def offN (a b : Nat) : Nat := a &&& (2 ^ 64 - 1 - b)
theorem offN_lt {a b : Nat} : offN a b < 2 ^ 64 := by unfold offN; exact Nat.and_lt_two_pow _ (by omega)
theorem iandn_n {a b : Nat} (ha : a < 2 ^ 64) (hb : b < 2 ^ 64) : iandn .u64 (a : Int) (b : Int) = ((offN a b : Nat) : Int) := by
  have h1 : (BitVec.ofInt 64 (a : Int)).toNat = a := by rw [BitVec.ofInt_natCast, BitVec.toNat_ofNat]; exact Nat.mod_eq_of_lt ha
  have h2 : (BitVec.ofInt 64 (b : Int)).toNat = b := by rw [BitVec.ofInt_natCast, BitVec.toNat_ofNat]; exact Nat.mod_eq_of_lt hb
  show IntKind.u64.wrap ((BitVec.ofInt 64 (a : Int) &&& ~~~BitVec.ofInt 64 (b : Int)).toNat : Int) = _
  have := offN_lt (a := a) (b := b)
  rw [BitVec.toNat_and, BitVec.toNat_not, h1, h2, wrapu64 _ (by unfold offN at this; omega)]
  rfl
theorem testBit_off {a i : Nat} (hi : i < 64) (j : Nat) : (offN a (2 ^ i)).testBit j = (a.testBit j && decide (j ≠ i) && decide (j < 64)) := by
  unfold offN
  have h2 : 2 ^ i < 2 ^ 64 := Nat.pow_lt_pow_right (by omega) hi
  rw [Nat.testBit_and, show 2 ^ 64 - 1 - 2 ^ i = 2 ^ 64 - (2 ^ i + 1) by omega, Nat.testBit_two_pow_sub_succ h2, Nat.testBit_two_pow]
  by_cases h : i = j
  · subst h; simp
  · have : ¬ j = i := fun e => h e.symm
    by_cases h64 : j < 64 <;> simp [h, this, h64]
/-- the table of math/bits, and where it lies -/
structure Base (h0 : Hp) : Prop where
  lt : 0 < h0.size
  tab : ∀ i, i < 64 → hcell h0 ⟨0, i, none⟩ = some (.int .u8 (Lib.deBruijn64tab.getD i 0 : Nat))
section
variable {h0 h : Hp} {R : List As} {w a b g : Nat} {rows : List Nat}
theorem bit_s {i : Nat} (hi : i < 64) : N_waits_bit (i : Int) h (fun v h' => v = .int .u64 ((2 ^ i : Nat) : Int) ∧ h' = h) := by
  apply S_waits_bit
  unfold B_waits_bit
  rw [wrapu64 _ (by omega)]
  refine ⟨by omega, ?_⟩
  have h2 : 2 ^ i < 2 ^ 64 := Nat.pow_lt_pow_right (by omega) hi
  have e : ishl .u64 1 (i : Int) = ((2 ^ i : Nat) : Int) := by
    unfold ishl
    rw [Int.toNat_natCast, show IntKind.u64.bits = 64 from rfl, Nat.min_eq_left (by omega), Int.one_mul, show (2 : Int) ^ i = ((2 ^ i : Nat) : Int) by simp]
    generalize 2 ^ i = q at h2 ⊢
    exact wrapu64 _ (by omega)
  rw [e]
  exact ⟨rfl, rfl⟩
theorem is_s (z : Int) : N_waits_is z h (fun v h' => v = .bool (decide (z ≥ 0) && decide (z < 64)) ∧ h' = h) := by
  apply S_waits_is
  unfold B_waits_is
  exact ⟨rfl, rfl⟩
theorem tz_s (hB : Base h0) (hu : Under h0.size h0 h) (hz : w ≠ 0) (hw : w < 2 ^ 64) : N_math_bits_TrailingZeros64 (w : Int) h (fun v h' => v = .int .i64 ((Lib.ctz 64 w : Nat) : Int) ∧ h' = h) := by
  obtain ⟨hlow, hk⟩ := Lib.lowest_bit 64 w hz hw
  obtain ⟨hi, htab⟩ := Lib.deBruijn64_at _ hk
  apply S_math_bits_TrailingZeros64
  unfold B_math_bits_TrailingZeros64
  refine mIf_neg (by simp; omega) ?_
  refine ⟨by omega, ?_⟩
  have e1 : IntKind.u64.wrap (0 - (w : Int)) = ((2 ^ 64 - w : Nat) : Int) := by rw [IntKind.wrap_u64]; omega
  rw [e1, iand_n hw (by omega), hlow]
  have e2 : ∀ q : Nat, ishr .u64 (IntKind.u64.wrap ((q : Int) * 285870213051353865)) 58 = ((q * 285870213051353865 % 18446744073709551616 / 288230376151711744 : Nat) : Int) := by
    intro q
    unfold ishr
    rw [show (58 : Int).toNat = 58 from rfl, show IntKind.u64.bits = 64 from rfl, show min 58 64 = 58 from rfl, show (2 : Int) ^ 58 = 288230376151711744 by decide, IntKind.wrap_u64, Int.fdiv_eq_ediv_of_nonneg _ (by omega)]
    omega
  rw [e2]
  generalize 2 ^ Lib.ctz 64 w * 285870213051353865 % 18446744073709551616 / 288230376151711744 = j at hi htab
  refine mIdx_of (by omega) (by omega) ?_
  rw [Int.toNat_natCast, Nat.mul_one, add_mk, Nat.zero_add]
  refine mLdI_of (n := ((Lib.deBruijn64tab.getD j 0 : Nat) : Int)) ?_ ?_
  · rw [hu.cell (show 0 < h0.size from hB.lt)]
    exact hB.tab j hi
  · rw [htab, wrap64 _ (by omega)]
    exact ⟨rfl, rfl⟩
theorem list2 (hB : Base h0) : ∀ (d w : Nat) (o : Sl) (xs : List Int) (h : Hp), (lsN w).length ≤ d → w < 2 ^ 64 → xs.length + (lsN w).length ≤ 64 → Sep h0 h (aRow encI 1 o xs :: R) →
    K_waits_list_2 (w : Int) o h (fun v h' => ∃ o : Sl, v = .slice o.p o.n o.c ∧ Sep h0 h' (aRow encI 1 o (xs ++ (lsN w).map Int.ofNat) :: R))
  | d, w, o, xs, h, hd, hw, hl, hs => by
    apply S_waits_list_2
    unfold B_waits_list_2
    refine mIf_intro (fun hc => ?_) (fun hc => ?_)
    · have hz : w ≠ 0 := by simpa using hc
      have hcons := ls_cons hz hw
      rw [hcons, List.length_cons] at hd hl
      obtain ⟨d, rfl⟩ : ∃ e, d = e + 1 := ⟨d - 1, by omega⟩
      rw [mBind_ap]
      refine (tz_s hB hs.under hz hw).mono ?_
      rintro v h' ⟨rfl, rfl⟩
      simp only [unI_int]
      refine Sep.new hs fun b h hs => ?_
      refine hs.app1 1 0 ((Lib.ctz 64 w : Nat) : Int) rfl rfl (fun _ => rfl) (by intro v hv; simp at hv; subst hv; rfl) rfl (by omega) (by omega) fun s' h hn hs => ?_
      simp only [List.set_cons_succ, List.set_cons_zero] at hs
      have hw1 : w - 1 < 2 ^ 64 := by omega
      rw [wrapu64 _ (by omega), show (w : Int) - 1 = ((w - 1 : Nat) : Int) by omega, iand_n hw hw1]
      refine (list2 hB d (w &&& (w - 1)) s' _ h (by omega) (Nat.and_lt_two_pow _ hw1) (by simp; omega) hs.drop).mono ?_
      rintro v h ⟨o, rfl, hs⟩
      refine ⟨o, rfl, ?_⟩
      rw [hcons]
      simpa using hs
    · have hz : w = 0 := by simpa using hc
      subst hz
      rw [lsN_zero, List.map_nil, List.append_nil]
      exact ⟨o, rfl, hs⟩
theorem list_s (hB : Base h0) (hw : w < 2 ^ 64) (hs : Sep h0 h R) : N_waits_list (w : Int) h (fun v h' => ∃ o : Sl, v = .slice o.p o.n o.c ∧ Sep h0 h' (aRow encI 1 o ((lsN w).map Int.ofNat) :: R)) := by
  apply S_waits_list
  unfold B_waits_list
  have hl : (lsN w).length ≤ 64 := by
    have := List.length_filter_le (fun i => w.testBit i) (List.range 64)
    simpa [lsN] using this
  have := list2 (R := R) hB 64 w ⟨none, 0, 0⟩ [] h hl hw (by simpa using hl) (hs.nilRow encI 1)
  simpa using this
/-- the graph: each party's mask -/
def cellsN (rows : List Nat) : List Value := rows.map fun w : Nat => .int .u64 (w : Int)
structure GOk (rows : List Nat) : Prop where
  len : rows.length = 64
  lt : ∀ w ∈ rows, w < 2 ^ 64
theorem GOk.at_ (hg : GOk rows) (i : Nat) : rows.getD i 0 < 2 ^ 64 := by
  rw [List.getD_eq_getElem?_getD]
  cases h : rows[i]? with
  | none => simp
  | some w => exact hg.lt w (List.mem_of_getElem? h)
theorem g_ld {α : Type} {K : Int → M α} {Q : α → Hp → Prop} (hg : GOk rows) (hs : Sep h0 h (aBlk g (cellsN rows) :: R)) {i : Nat} (hi : i < 64) (hK : K ((rows.getD i 0 : Nat) : Int) h Q) : mIdx ⟨some ⟨g, 0, none⟩, 64, 64⟩ (i : Int) 1 (fun x => mLdI .u64 x K) h Q := by
  refine mIdx_of (by omega) (by omega) ?_
  rw [Int.toNat_natCast, Nat.mul_one, add_mk, Nat.zero_add]
  refine hs.ldI 0 rfl ?_ hK
  unfold cellsN
  rw [List.getElem?_map, List.getElem?_eq_getElem (by rw [hg.len]; omega)]
  simp [List.getD_eq_getElem?_getD, show i < rows.length by rw [hg.len]; omega]
/-- for whom some parties wait -/
def stepL (rows : List Nat) (o : Nat) (l : List Nat) : Nat := l.foldl (fun o i => o ||| rows.getD i 0) o
def stepN (rows : List Nat) (w : Nat) : Nat := stepL rows 0 (lsN w)
theorem stepL_lt (hg : GOk rows) : ∀ (l : List Nat) (o : Nat), o < 2 ^ 64 → stepL rows o l < 2 ^ 64
  | [], o, ho => ho
  | i :: l, o, ho => stepL_lt hg l _ (Nat.or_lt_two_pow ho (hg.at_ i))
theorem stepL_bit : ∀ (l : List Nat) (o j : Nat), (stepL rows o l).testBit j = (o.testBit j || l.any fun i => (rows.getD i 0).testBit j)
  | [], o, j => by simp [stepL]
  | i :: l, o, j => by
    show (stepL rows (o ||| rows.getD i 0) l).testBit j = _
    rw [stepL_bit l, Nat.testBit_or, List.any_cons, Bool.or_assoc]
theorem step3 (hg : GOk rows) {t9 : Sl} {l : List Nat} (hl : ∀ i ∈ l, i < 64) (hll : l.length ≤ 64) : ∀ (d k o : Nat) (h : Hp), k + d = l.length → o < 2 ^ 64 → Sep h0 h (aRow encI 1 t9 (l.map Int.ofNat) :: aBlk g (cellsN rows) :: R) →
    K_waits_Graph_step_3 (some ⟨g, 0, none⟩) (o : Int) t9 (t9.n : Int) (k : Int) h (fun v h' => v = .int .u64 ((stepL rows o (l.drop k) : Nat) : Int) ∧ Sep h0 h' (aBlk g (cellsN rows) :: R))
  | 0, k, o, h, hk, ho, hs => by
    have hn := hs.rowLen 0 rfl
    rw [List.length_map] at hn
    apply S_waits_Graph_step_3
    unfold B_waits_Graph_step_3
    refine mIf_neg (by simp; omega) ?_
    rw [List.drop_of_length_le (by omega)]
    exact ⟨rfl, hs.drop⟩
  | d + 1, k, o, h, hk, ho, hs => by
    have hn := hs.rowLen 0 rfl
    rw [List.length_map] at hn
    have hkl : k < l.length := by omega
    apply S_waits_Graph_step_3
    unfold B_waits_Graph_step_3
    refine mIf_pos (by simp; omega) ?_
    refine hs.idx 0 rfl (by omega) (by rw [List.length_map]; omega) fun x hx => ?_
    rw [Int.toNat_natCast] at hx
    refine hs.ild 0 rfl hx (by rw [List.length_map]; exact hkl) ?_
    rw [List.getElem_map]
    have hi := hl l[k] (List.getElem_mem hkl)
    refine g_ld (R := aRow encI 1 t9 (l.map Int.ofNat) :: R) hg hs.swap (i := l[k]) hi ?_
    rw [ior_n ho (hg.at_ _), wrap64 _ (by omega), show (k : Int) + 1 = ((k + 1 : Nat) : Int) by omega]
    refine (step3 hg hl hll d (k + 1) _ h (by omega) (Nat.or_lt_two_pow ho (hg.at_ _)) hs).mono ?_
    rintro v h ⟨rfl, hs⟩
    refine ⟨?_, hs⟩
    rw [List.drop_eq_getElem_cons hkl]
    rfl
theorem ls_len : (lsN w).length ≤ 64 := by
  have := List.length_filter_le (fun i => w.testBit i) (List.range 64)
  simpa [lsN] using this
theorem step_s (hB : Base h0) (hg : GOk rows) (hw : w < 2 ^ 64) (hs : Sep h0 h (aBlk g (cellsN rows) :: R)) : N_waits_Graph_step (some ⟨g, 0, none⟩) (w : Int) h (fun v h' => v = .int .u64 ((stepN rows w : Nat) : Int) ∧ Sep h0 h' (aBlk g (cellsN rows) :: R)) := by
  apply S_waits_Graph_step
  unfold B_waits_Graph_step
  rw [mBind_ap]
  refine (list_s hB hw hs).mono ?_
  rintro v h ⟨o, rfl, hs⟩
  simp only [unL_slice]
  exact step3 hg (fun i hi => (mem_lsN.1 hi).1) ls_len (lsN w).length 0 0 h (Nat.zero_add _) (by omega) hs
end
end Go.Proofs.YtimpaammdmeocaaDoor
