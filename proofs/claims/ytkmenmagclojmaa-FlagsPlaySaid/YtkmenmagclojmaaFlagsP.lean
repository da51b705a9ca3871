/- Groups of flags: what each call of the layer answers, over memory. Conditions: none. -/
import Derived.Test.YtkmenmagclojmaaFlagsM
namespace Go.Proofs.Ytkmenmagclojmaa
open Go Go.Sb

def encG (l : List (BitVec 8)) : List Value := l.map fun x => .int .u8 (x.toNat : Int)
/-- the groups that stand behind block b, their row in block q -/
def GRep (h : Hp) (b q : Nat) (l : List (BitVec 8)) : Prop := Blk h b [.slice (some ⟨q, 0, none⟩) l.length l.length] ∧ Blk h q (encG l) ∧ b ≠ q
theorem GRep.under {B : Nat} {h h' : Hp} {b q : Nat} {l : List (BitVec 8)} (hr : GRep h b q l) (hu : Under B h h') (hb : b < B) (hq : q < B) : GRep h' b q l := by
  obtain ⟨⟨T, h1⟩, ⟨T', h2⟩, h3⟩ := hr
  exact ⟨⟨T, by rw [hu.at_ b hb]; exact h1⟩, ⟨T', by rw [hu.at_ q hq]; exact h2⟩, h3⟩
theorem GRep.push {h : Hp} {b q : Nat} {l : List (BitVec 8)} (hr : GRep h b q l) (o : Obj) : GRep (h.push o) b q l := ⟨hr.1.push o, hr.2.1.push o, hr.2.2⟩

theorem gLen_ok {h : Hp} {b q : Nat} {l : List (BitVec 8)} (hr : GRep h b q l) : N_flags_Groups_Len (some ⟨b, 0, none⟩) h (fun v h' => v = .int .i64 l.length ∧ h' = h) := by
  apply S_flags_Groups_Len
  unfold B_flags_Groups_Len
  simp only [Option.isNone_some, mIf_false, mNil_some]
  refine mLdL_of (by rw [hr.1.cell]; rfl) ?_
  simp
theorem gLen_nil (h : Hp) : N_flags_Groups_Len none h (fun v h' => v = .int .i64 0 ∧ h' = h) := by
  apply S_flags_Groups_Len
  unfold B_flags_Groups_Len
  simp

def chgA (l : List (BitVec 8)) (i : Int) : Value := if i < 0 ∨ i ≥ l.length then .tuple #[.int .i64 0, .int .i64 6] else .tuple #[.int .i64 ((l.getD i.toNat 0).toNat : Int), .int .i64 0]
def chgL (l : List (BitVec 8)) (i : Int) (f : BitVec 8 → BitVec 8) : List (BitVec 8) := if i < 0 ∨ i ≥ l.length then l else l.set i.toNat (f (l.getD i.toNat 0))

theorem change_ok {h : Hp} {b q : Nat} {l : List (BitVec 8)} (hr : GRep h b q l) (i : Int) (g : Nat) (f c : Array Value) (fn : BitVec 8 → BitVec 8)
    (hf : ∀ x : BitVec 8, Nf Try.prog g (f ++ #[.int .u8 (x.toNat : Int)] ++ c) h (fun v h' => v = .int .u8 ((fn x).toNat : Int) ∧ h' = h)) :
    N_flags_Groups_change (some ⟨b, 0, none⟩) i g f c h (fun v h' => v = chgA l i ∧ GRep h' b q (chgL l i fn) ∧ Keeps (· = q) h h') := by
  apply S_flags_Groups_change
  unfold B_flags_Groups_change
  rw [mBind_ap]
  by_cases h0 : i < 0
  · simp [h0, chgA, chgL, hr, Keeps.refl]
  · simp only [h0, decide_false, mIf_false, mBind_ap]
    refine (gLen_ok hr).mono ?_
    rintro v h' ⟨rfl, rfl⟩
    simp only [unI_int, mRet_ap]
    by_cases h1 : i ≥ l.length
    · simp [h0, h1, chgA, chgL, hr, Keeps.refl]
    · simp only [h1, decide_false, mIf_false, mNil_some]
      have hk : i.toNat < l.length := by omega
      have hgd : l.getD i.toNat 0 = l[i.toNat] := by simp [hk]
      have hcell : hcell h' ⟨q, 0 + i.toNat * 1, none⟩ = some (.int .u8 (l[i.toNat].toNat : Int)) := by
        rw [hr.2.1.cell]; simp [encG, hk]
      refine mLdL_of (by rw [hr.1.cell]; rfl) ?_
      refine mIdx_of (by omega) (by omega) ?_
      rw [add_mk]
      refine mLdI_of hcell ?_
      refine mLdL_of (by rw [hr.1.cell]; rfl) ?_
      refine mQ_intro _ (hf l[i.toNat]) ?_
      simp only [unI_int]
      refine mIdx_of (by omega) (by omega) ?_
      rw [add_mk]
      refine mSt_of rfl hcell (hr.2.1.free _) ?_
      have hlt := l[i.toNat].isLt
      rw [wrap64 _ (by omega), mRet_ap]
      refine ⟨by unfold chgA; rw [if_neg (by omega), hgd], ⟨?_, ?_, hr.2.2⟩, .set _ _ _ rfl⟩
      · have : (chgL l i fn).length = l.length := by unfold chgL; rw [if_neg (by omega)]; simp
        rw [this]; exact hr.1.other _ hr.2.2
      · have := hr.2.1.set (0 + i.toNat * 1) (.int .u8 ((fn l[i.toNat]).toNat : Int))
        have e : (encG l).set (0 + i.toNat * 1) (.int .u8 ((fn l[i.toNat]).toNat : Int)) = encG (chgL l i fn) := by
          unfold chgL encG
          rw [if_neg (by omega), hgd, List.map_set, Nat.zero_add, Nat.mul_one]
        rw [← e]; exact this
theorem change_nil (h : Hp) (i : Int) (g : Nat) (f c : Array Value) : N_flags_Groups_change none i g f c h (fun v h' => v = .tuple #[.int .i64 0, .int .i64 6] ∧ h' = h) := by
  apply S_flags_Groups_change
  unfold B_flags_Groups_change
  rw [mBind_ap]
  by_cases h0 : i < 0
  · simp [h0]
  · simp only [h0, decide_false, mIf_false, mBind_ap]
    refine (gLen_nil h).mono ?_
    rintro v h' ⟨rfl, rfl⟩
    have : i ≥ 0 := by omega
    simp [this]

theorem set_fn {h : Hp} {a : Nat} {m : Int} (hb : Blk h a [.int .i64 m]) (x : BitVec 8) : N_flags_Groups_Set_1 (x.toNat : Int) (some ⟨a, 0, none⟩) h (fun v h' => v = .int .u8 ((x ||| low8 m).toNat : Int) ∧ h' = h) := by
  apply S_flags_Groups_Set_1
  unfold B_flags_Groups_Set_1
  simp only [mNil_some]
  refine mLdI_of (by rw [hb.cell]; rfl) ?_
  rw [iand_255, u8_bv, mRet_ap]
  refine ⟨?_, rfl⟩
  unfold ior
  show Value.int .u8 (IntKind.u8.wrap ((BitVec.ofInt 8 (x.toNat : Int) ||| BitVec.ofInt 8 ((low8 m).toNat : Int)).toNat : Int)) = _
  rw [bv_ofNat, bv_ofNat, u8_bv]
theorem clr_fn {h : Hp} {a : Nat} {m : Int} (hb : Blk h a [.int .i64 m]) (x : BitVec 8) : N_flags_Groups_Clear_1 (x.toNat : Int) (some ⟨a, 0, none⟩) h (fun v h' => v = .int .u8 ((x &&& ~~~low8 m).toNat : Int) ∧ h' = h) := by
  apply S_flags_Groups_Clear_1
  unfold B_flags_Groups_Clear_1
  simp only [mNil_some]
  refine mLdI_of (by rw [hb.cell]; rfl) ?_
  rw [iand_255, u8_bv, mRet_ap]
  refine ⟨?_, rfl⟩
  unfold iandn
  show Value.int .u8 (IntKind.u8.wrap ((BitVec.ofInt 8 (x.toNat : Int) &&& ~~~BitVec.ofInt 8 ((low8 m).toNat : Int)).toNat : Int)) = _
  rw [bv_ofNat, bv_ofNat, u8_bv]
theorem val_fn (h : Hp) (x : BitVec 8) : N_flags_Groups_Value_1 (x.toNat : Int) h (fun v h' => v = .int .u8 (x.toNat : Int) ∧ h' = h) := by
  apply S_flags_Groups_Value_1
  unfold B_flags_Groups_Value_1
  simp

theorem chgA_un {α : Type} (l : List (BitVec 8)) (i : Int) (k : Int → Int → M α) : un2 (unI .i64) (unI .i64) (chgA l i) k = if i < 0 ∨ i ≥ l.length then k 0 6 else k ((l.getD i.toNat 0).toNat : Int) 0 := by
  unfold chgA; split <;> simp
theorem chgA_pair (l : List (BitVec 8)) (i : Int) {h : Hp} {Q : Value → Hp → Prop} (hq : Q (chgA l i) h) : un2 (unI .i64) (unI .i64) (chgA l i) (fun a b => mRet (.tuple #[.int .i64 a, .int .i64 b])) h Q := by
  unfold chgA at *; split <;> simp_all

/-- what a call leaves beside its own row: new blocks -/
def Grows (q : Nat) (h h' : Hp) : Prop := Keeps (· = q) h h'
theorem Set_ok {h : Hp} {b q : Nat} {l : List (BitVec 8)} (hr : GRep h b q l) (i m : Int) : N_flags_Groups_Set (some ⟨b, 0, none⟩) i m h (fun v h' => v = chgA l i ∧ GRep h' b q (chgL l i (· ||| low8 m)) ∧ Keeps (· = q) h h') := by
  apply S_flags_Groups_Set
  unfold B_flags_Groups_Set
  simp only [mNew_ap, mBind_ap]
  refine (change_ok (hr.push _) i 66 #[] #[.pointer (some ⟨h.size, 0, none⟩)] (· ||| low8 m) fun x => set_fn (Blk.new' h _ 3) x).mono ?_
  rintro v h' ⟨rfl, h1, h2⟩
  exact chgA_pair l i ⟨rfl, h1, (Keeps.push _ h _).trans h2⟩
theorem Clear_ok {h : Hp} {b q : Nat} {l : List (BitVec 8)} (hr : GRep h b q l) (i m : Int) : N_flags_Groups_Clear (some ⟨b, 0, none⟩) i m h (fun v h' => v = chgA l i ∧ GRep h' b q (chgL l i (· &&& ~~~low8 m)) ∧ Keeps (· = q) h h') := by
  apply S_flags_Groups_Clear
  unfold B_flags_Groups_Clear
  simp only [mNew_ap, mBind_ap]
  refine (change_ok (hr.push _) i 67 #[] #[.pointer (some ⟨h.size, 0, none⟩)] (· &&& ~~~low8 m) fun x => clr_fn (Blk.new' h _ 3) x).mono ?_
  rintro v h' ⟨rfl, h1, h2⟩
  exact chgA_pair l i ⟨rfl, h1, (Keeps.push _ h _).trans h2⟩
theorem chgL_id (l : List (BitVec 8)) (i : Int) : chgL l i (fun x => x) = l := by
  unfold chgL; split
  · rfl
  · rename_i h
    have hk : i.toNat < l.length := by omega
    have : l.getD i.toNat 0 = l[i.toNat] := by simp [hk]
    rw [this]; exact List.set_getElem_self hk
theorem Value_ok' {h : Hp} {b q : Nat} {l : List (BitVec 8)} (hr : GRep h b q l) (i : Int) : N_flags_Groups_Value (some ⟨b, 0, none⟩) i h (fun v h' => v = chgA l i ∧ GRep h' b q l ∧ Keeps (· = q) h h') := by
  apply S_flags_Groups_Value
  unfold B_flags_Groups_Value
  simp only [mBind_ap]
  refine (change_ok hr i 68 #[] #[] (fun x => x) fun x => val_fn h x).mono ?_
  rintro v h' ⟨rfl, h1, h2⟩
  rw [chgL_id] at h1
  exact chgA_pair l i ⟨rfl, h1, h2⟩
theorem Set_nil (h : Hp) (i m : Int) : N_flags_Groups_Set none i m h (fun v h' => v = .tuple #[.int .i64 0, .int .i64 6] ∧ Under h.size h h') := by
  apply S_flags_Groups_Set
  unfold B_flags_Groups_Set
  simp only [mNew_ap, mBind_ap]
  refine (change_nil _ i 66 #[] _).mono ?_
  rintro v h' ⟨rfl, rfl⟩
  simp only [un2_tuple, unI_int, mRet_ap, true_and]
  exact .push _ _ (Nat.le_refl _)
/-- the answer of a test -/
def tstA (l : List (BitVec 8)) (i m : Int) (all : Bool) : Bool := if i < 0 ∨ i ≥ l.length then false else
  if all then decide (l.getD i.toNat 0 &&& low8 m = low8 m) else decide (l.getD i.toNat 0 &&& low8 m ≠ 0)
def tstE (l : List (BitVec 8)) (i : Int) : Int := if i < 0 ∨ i ≥ l.length then 6 else 0
theorem low8_and_bv (x : BitVec 8) (m : Int) : iand .i64 (iand .i64 (x.toNat : Int) m) 255 = ((x &&& low8 m).toNat : Int) := by
  rw [iand_255, low8_iand, low8_bv]
theorem nat_eq_bv (x y : BitVec 8) : (((x.toNat : Int)) == ((y.toNat : Int))) = decide (x = y) := by
  rw [Bool.eq_iff_iff]
  simp only [beq_iff_eq, decide_eq_true_eq]
  constructor
  · intro h; exact BitVec.eq_of_toNat_eq (by omega)
  · rintro rfl; rfl
theorem nat_ne_bv (x : BitVec 8) : (((x.toNat : Int)) != 0) = decide (x ≠ 0) := by
  have := nat_eq_bv x 0
  simp only [BitVec.ofNat_eq_ofNat, BitVec.toNat_ofNat] at this
  rw [bne, show ((0 : Int)) = (((0 % 2 ^ 8 : Nat)) : Int) by rfl, this]
  simp
theorem Test_ok {h : Hp} {b q : Nat} {l : List (BitVec 8)} (hr : GRep h b q l) (i m : Int) (all : Bool) : N_flags_Groups_Test (some ⟨b, 0, none⟩) i m all h (fun v h' => v = .tuple #[.bool (tstA l i m all), .int .i64 (tstE l i)] ∧ GRep h' b q l ∧ Keeps (· = q) h h') := by
  apply S_flags_Groups_Test
  unfold B_flags_Groups_Test
  simp only [mBind_ap]
  refine (Value_ok' hr i).mono ?_
  rintro v h' ⟨rfl, h1, h2⟩
  rw [chgA_un]
  unfold tstA tstE
  by_cases hi : i < 0 ∨ i ≥ l.length
  · simp only [if_pos hi]
    have : ((6 : Int) != 0) = true := by decide
    rw [this, mIf_true]
    exact ⟨rfl, h1, h2⟩
  · simp only [if_neg hi]
    have : ((0 : Int) != 0) = false := by decide
    rw [this, mIf_false, low8_and_bv, iand_255]
    cases all
    · simp only [mIf_false, mRet_ap, Bool.false_eq_true, if_false]
      refine ⟨?_, h1, h2⟩
      rw [nat_ne_bv]
    · simp only [mIf_true, mRet_ap, if_true]
      exact ⟨by rw [nat_eq_bv], h1, h2⟩
theorem Test_nil (h : Hp) (i m : Int) (all : Bool) : N_flags_Groups_Test none i m all h (fun v h' => v = .tuple #[.bool false, .int .i64 6] ∧ h' = h) := by
  apply S_flags_Groups_Test
  unfold B_flags_Groups_Test
  simp only [mBind_ap]
  have hv : N_flags_Groups_Value none i h (fun v h' => v = .tuple #[.int .i64 0, .int .i64 6] ∧ h' = h) := by
    apply S_flags_Groups_Value
    unfold B_flags_Groups_Value
    simp only [mBind_ap]
    refine (change_nil h i 68 #[] #[]).mono ?_
    rintro v h' ⟨rfl, rfl⟩
    simp
  refine hv.mono ?_
  rintro v h' ⟨rfl, rfl⟩
  simp
/-- how many groups are made -/
def cnt (n : Int) : Nat := (min (max n 0) 4).toNat
theorem cnt_eq (n : Int) : (if (4 : Int) < (if (0 : Int) > n then (0 : Int) else n) then (4 : Int) else (if (0 : Int) > n then (0 : Int) else n)) = (cnt n : Int) := by
  unfold cnt; omega
theorem New_ok' (h : Hp) (n : Int) : N_flags_New n h (fun v h' => v = .pointer (some ⟨h.size + 1, 0, none⟩) ∧ GRep h' (h.size + 1) h.size (List.replicate (cnt n) 0) ∧ Under h.size h h') := by
  apply S_flags_New
  unfold B_flags_New
  rw [cnt_eq]
  have hc : cnt n ≤ 4 := by unfold cnt; omega
  refine ⟨by omega, by omega, by omega, by rw [show IntKind.i64.max = 9223372036854775807 by decide]; omega, ?_⟩
  rw [mRow_one]
  simp only [Int.toNat_natCast, mNew_ap, mRet_ap]
  have h1 : Blk (h.push (.cells (Array.replicate (cnt n) (.int .u8 0)) 109)) h.size (encG (List.replicate (cnt n) 0)) := by
    have := Blk.new' h (Array.replicate (cnt n) (.int .u8 0)) 109
    simpa [encG] using this
  refine ⟨by simp, ⟨?_, h1.push _, by omega⟩, (Under.push _ _ (Nat.le_refl _)).trans (Under.push _ _ (by simp))⟩
  have := Blk.new' (h.push (.cells (Array.replicate (cnt n) (.int .u8 0)) 109)) #[.slice (some ⟨h.size, 0, none⟩) (cnt n) (cnt n)] 107
  simpa using this
end Go.Proofs.Ytkmenmagclojmaa
