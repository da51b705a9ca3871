/- Groups of flags: the laws FlagsBack, and what stands at the head of both. Conditions: none. -/
import Derived.Test.YtkmenmagclojmaaFlagsP
namespace Go.Proofs.Ytkmenmagclojmaa
open Go Go.Sb

theorem gfixed_ok (h : Hp) : N_signalboxlaw11_fixed h (fun v h' => v = .bool true ∧ Under h.size h h') := by
  apply S_signalboxlaw11_fixed
  unfold B_signalboxlaw11_fixed
  simp only [mBind_ap]
  refine (New_ok' h 2).mono ?_
  rintro v h1 ⟨rfl, hr, hu⟩
  have e0 : List.replicate (cnt 2) (0 : BitVec 8) = [0, 0] := by decide
  rw [e0] at hr
  simp only [unP_pointer, mBind_ap]
  refine (Set_ok hr 1 3).mono ?_
  rintro v h2 ⟨rfl, hr2, k2⟩
  have e1 : chgA [0, 0] 1 = .tuple #[.int .i64 0, .int .i64 0] := by rfl
  have e1' : chgL [0, 0] 1 (· ||| low8 3) = [0, 3] := by decide
  rw [e1'] at hr2
  simp only [e1, un2_tuple, unI_int, mBind_ap]
  refine (Clear_ok hr2 1 1).mono ?_
  rintro v h3 ⟨rfl, hr3, k3⟩
  have e2 : chgA [0, 3] 1 = .tuple #[.int .i64 3, .int .i64 0] := by rfl
  have e2' : chgL [0, 3] 1 (· &&& ~~~low8 1) = [0, 2] := by decide
  rw [e2'] at hr3
  simp only [e2, un2_tuple, unI_int, mBind_ap]
  refine (Value_ok' hr3 1).mono ?_
  rintro v h4 ⟨rfl, hr4, k4⟩
  have e3 : chgA [0, 2] 1 = .tuple #[.int .i64 2, .int .i64 0] := by rfl
  simp only [e3, un2_tuple, unI_int, mBind_ap]
  refine (Test_ok hr4 1 3 true).mono ?_
  rintro v h5 ⟨rfl, hr5, k5⟩
  have t1 : tstA [0, 2] 1 3 true = false := by decide
  have t1' : tstE [0, 2] 1 = 0 := by decide
  simp only [t1, t1', un2_tuple, unI_int, unB_bool, mBind_ap]
  refine (Test_ok hr5 1 3 false).mono ?_
  rintro v h6 ⟨rfl, hr6, k6⟩
  have t2 : tstA [0, 2] 1 3 false = true := by decide
  simp only [t2, t1', un2_tuple, unI_int, unB_bool, mBind_ap]
  refine (Set_ok hr6 2 1).mono ?_
  rintro v h7 ⟨rfl, hr7, k7⟩
  have e4 : chgA [0, 2] 2 = .tuple #[.int .i64 0, .int .i64 6] := by rfl
  have e4' : chgL [0, 2] 2 (· ||| low8 1) = [0, 2] := by decide
  rw [e4'] at hr7
  simp only [e4, un2_tuple, unI_int, mBind_ap]
  have c : (((((((((((((0 : Int) == 0) && ((0 : Int) == 0)) && ((3 : Int) == 3)) && ((0 : Int) == 0)) && ((2 : Int) == 2)) && ((0 : Int) == 0)) && (!false)) && ((0 : Int) == 0)) && true) && ((0 : Int) == 0)) && ((6 : Int) == 6))) = true := by decide
  rw [c]
  simp only [mIf_true, mBind_ap]
  refine (gLen_ok hr7).mono ?_
  rintro v h8 ⟨rfl, rfl⟩
  simp only [unI_int, mRet_ap]
  refine ⟨rfl, hu.trans (Under.of_keeps (((k2.trans k3).trans k4).trans ((k5.trans k6).trans k7)) hu.size fun i hi => by omega)⟩

theorem FlagsBack_ok {h : Hp} {i first mask : Int} (hi : 0 ≤ i ∧ i ≤ 255) (_ : -9223372036854775808 ≤ first ∧ first ≤ 9223372036854775807) (_ : -9223372036854775808 ≤ mask ∧ mask ≤ 9223372036854775807) :
    N_signalboxlaw11_FlagsBack i first mask h (fun v h' => v = .bool true ∧ Under h.size h h') := by
  apply S_signalboxlaw11_FlagsBack
  unfold B_signalboxlaw11_FlagsBack
  simp only [mBind_ap]
  refine (gfixed_ok h).mono ?_
  rintro v h1 ⟨rfl, hu1⟩
  simp only [unB_bool, Bool.not_true, mIf_false, mBind_ap]
  refine (New_ok' h1 4).mono ?_
  rintro v h2 ⟨rfl, hr, hu2⟩
  have e0 : List.replicate (cnt 4) (0 : BitVec 8) = [0, 0, 0, 0] := by decide
  rw [e0] at hr
  have hmod : Int.tmod i 4 = i % 4 := Int.tmod_eq_emod_of_nonneg hi.1
  simp only [unP_pointer, mGuard_ap, mBind_ap]
  refine ⟨by omega, ?_⟩
  rw [hmod, wrap64 _ (by omega)]
  obtain ⟨k, hk⟩ := Int.eq_ofNat_of_zero_le (by omega : 0 ≤ i % 4)
  have hk4 : k < 4 := by omega
  rw [hk]
  have inr : ∀ l : List (BitVec 8), l.length = 4 → ¬ ((k : Int) < 0 ∨ (k : Int) ≥ l.length) := fun l hl => by omega
  have cA : ∀ l : List (BitVec 8), l.length = 4 → chgA l k = .tuple #[.int .i64 ((l.getD k 0).toNat : Int), .int .i64 0] := fun l hl => by
    unfold chgA; rw [if_neg (inr l hl), Int.toNat_natCast]
  have cL : ∀ (l : List (BitVec 8)) (f), l.length = 4 → chgL l k f = l.set k (f (l.getD k 0)) := fun l f hl => by
    unfold chgL; rw [if_neg (inr l hl), Int.toNat_natCast]
  refine (Set_ok hr k first).mono ?_
  rintro v h3 ⟨rfl, hr3, k3⟩
  rw [cL _ _ (by rfl)] at hr3
  rw [cA _ (by rfl)]
  have g0 : ([0, 0, 0, 0] : List (BitVec 8)).getD k 0 = 0 := by
    have : k = 0 ∨ k = 1 ∨ k = 2 ∨ k = 3 := by omega
    rcases this with rfl | rfl | rfl | rfl <;> rfl
  rw [g0, show (0 : BitVec 8) ||| low8 first = low8 first from BitVec.zero_or] at hr3
  have gset : ∀ (l : List (BitVec 8)) (x : BitVec 8), l.length = 4 → (l.set k x).getD k 0 = x ∧ (l.set k x).length = 4 := fun l x hl => ⟨by simp [hl, hk4], by simp [hl]⟩
  have n1 := gset ([0, 0, 0, 0] : List (BitVec 8)) (low8 first) rfl
  simp only [un2_tuple, unI_int, mBind_ap]
  refine (Set_ok hr3 k mask).mono ?_
  rintro v h4 ⟨rfl, hr4, k4⟩
  rw [cL _ _ n1.2, n1.1] at hr4
  rw [cA _ n1.2, n1.1]
  have n2 := gset _ (low8 first ||| low8 mask) n1.2
  simp only [un2_tuple, unI_int, mBind_ap]
  refine (Clear_ok hr4 k mask).mono ?_
  rintro v h5 ⟨rfl, hr5, k5⟩
  rw [cL _ _ n2.2, n2.1] at hr5
  rw [cA _ n2.2, n2.1]
  have n3 := gset _ ((low8 first ||| low8 mask) &&& ~~~low8 mask) n2.2
  simp only [un2_tuple, unI_int, mBind_ap]
  refine (Value_ok' hr5 k).mono ?_
  rintro v h6 ⟨rfl, hr6, k6⟩
  rw [cA _ n3.2, n3.1]
  simp only [un2_tuple, unI_int, mRet_ap]
  have hb : (low8 first ||| low8 mask) &&& ~~~low8 mask = low8 first &&& ~~~low8 mask := by
    apply BitVec.eq_of_getLsbD_eq
    intro j hj
    simp [hj]
    cases (low8 first)[j] <;> cases (low8 mask)[j] <;> rfl
  rw [hb, iand_255, iand_255, iand_255, low8_ior, low8_iandn]
  refine ⟨by simp, ?_⟩
  have hs1 := hu1.size
  refine hu1.trans (Under.trans ⟨hu2.size, fun j hj => hu2.at_ j (by omega)⟩ (Under.of_keeps ((k3.trans k4).trans (k5.trans k6)) (by have := hu2.size; omega) fun j hj => by omega))
end Go.Proofs.Ytkmenmagclojmaa
