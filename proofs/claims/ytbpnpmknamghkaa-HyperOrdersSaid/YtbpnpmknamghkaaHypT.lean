/- Shares: the law HyperOrders. Conditions: none. -/
import Derived.Test.YtbpnpmknamghkaaHypR
import Derived.Test.YtbpnpmknamghkaaHypO
import Derived.Test.YtbpnpmknamghkaaSbW
namespace Go.Proofs.Ytbpnpmknamghkaa
open Go Go.Sb
set_option linter.unusedSimpArgs false
set_option linter.unusedVariables false
section
variable {h0 : Hp} {ab bb cb : Nat} {a u b v c w : Nat}
set_option maxHeartbeats 8000000 in
theorem or4 (p q r t : Bool) (m n : Nat × Nat) (asym : p = true → q = false) (tr : p = true → r = true → t = true) (eqs : p = false → q = false → m = n)
    (laa : ∀ h, Sep h0 h [aBlk cb [.int .u64 c, .int .u64 w], aBlk bb [.int .u64 b, .int .u64 v], aBlk ab [.int .u64 a, .int .u64 u]] → N_hyper_Less a u a u h (fun x h' => x = .bool false ∧ Sep h0 h' [aBlk cb [.int .u64 c, .int .u64 w], aBlk bb [.int .u64 b, .int .u64 v], aBlk ab [.int .u64 a, .int .u64 u]]))
    (lbc : ∀ h, Sep h0 h [aBlk cb [.int .u64 c, .int .u64 w], aBlk bb [.int .u64 b, .int .u64 v], aBlk ab [.int .u64 a, .int .u64 u]] → N_hyper_Less b v c w h (fun x h' => x = .bool r ∧ Sep h0 h' [aBlk cb [.int .u64 c, .int .u64 w], aBlk bb [.int .u64 b, .int .u64 v], aBlk ab [.int .u64 a, .int .u64 u]]))
    (lac : ∀ h, Sep h0 h [aBlk cb [.int .u64 c, .int .u64 w], aBlk bb [.int .u64 b, .int .u64 v], aBlk ab [.int .u64 a, .int .u64 u]] → N_hyper_Less a u c w h (fun x h' => x = .bool t ∧ Sep h0 h' [aBlk cb [.int .u64 c, .int .u64 w], aBlk bb [.int .u64 b, .int .u64 v], aBlk ab [.int .u64 a, .int .u64 u]]))
    (sa : ∀ h, Sep h0 h [aBlk cb [.int .u64 c, .int .u64 w], aBlk bb [.int .u64 b, .int .u64 v], aBlk ab [.int .u64 a, .int .u64 u]] → N_hyper_Simple a u h (fun x h' => x = .agg #[.int .u64 m.1, .int .u64 m.2] ∧ Sep h0 h' [aBlk cb [.int .u64 c, .int .u64 w], aBlk bb [.int .u64 b, .int .u64 v], aBlk ab [.int .u64 a, .int .u64 u]]))
    (sb : ∀ h, Sep h0 h [aBlk cb [.int .u64 c, .int .u64 w], aBlk bb [.int .u64 b, .int .u64 v], aBlk ab [.int .u64 a, .int .u64 u]] → N_hyper_Simple b v h (fun x h' => x = .agg #[.int .u64 n.1, .int .u64 n.2] ∧ Sep h0 h' [aBlk cb [.int .u64 c, .int .u64 w], aBlk bb [.int .u64 b, .int .u64 v], aBlk ab [.int .u64 a, .int .u64 u]])) (h : Hp)
    (hs : Sep h0 h [aBlk cb [.int .u64 c, .int .u64 w], aBlk bb [.int .u64 b, .int .u64 v], aBlk ab [.int .u64 a, .int .u64 u]]) :
    K_signalboxlaw32_HyperOrders_4 ⟨ab, 0, none⟩ ⟨bb, 0, none⟩ ⟨cb, 0, none⟩ p q h (HFin h0) := by
  cases p <;> cases q
  · apply S_signalboxlaw32_HyperOrders_4_ff
    unfold B_signalboxlaw32_HyperOrders_4_ff
    cases r <;> cases t <;> (try exact absurd (tr rfl rfl) (by decide)) <;> (try obtain rfl := eqs rfl rfl)
    all_goals repeat' (first | with_reducible refine mAnd_intro ?_ ?_ | exact ⟨rfl, hs.under⟩ | exact ⟨by simp, hs.under⟩ | (first | (((with_reducible refine gd_mLdI ?_); refine Sep.ldI hs 2 rfl rfl ?_)) | ((simp only [add_mk, Nat.zero_add, Bool.and_true, mBind_ap])) | ((simp only [unB_bool, Bool.not_false, mIf_true])) | ((simp only [mBind_ap])) | ((simp only [unA_agg, unC_cons, unE_nil, unI_int])) | (((with_reducible refine gd_mLdI ?_); refine Sep.ldI hs 1 rfl rfl ?_)) | ((simp only [unA_agg, unC_cons, unE_nil, unI_int, mBind_ap]))) | (refine (laa _ hs).mono ?_; rintro x h ⟨rfl, hs⟩) | (refine (lbc _ hs).mono ?_; rintro x h ⟨rfl, hs⟩) | (refine (lac _ hs).mono ?_; rintro x h ⟨rfl, hs⟩) | (refine (sa _ hs).mono ?_; rintro x h ⟨rfl, hs⟩) | (refine (sb _ hs).mono ?_; rintro x h ⟨rfl, hs⟩) | (simp only [Bool.not_true, Bool.not_false, mIf_true, mIf_false]))
  · apply S_signalboxlaw32_HyperOrders_4_ft
    unfold B_signalboxlaw32_HyperOrders_4_ft
    cases r <;> cases t <;> (try exact absurd (tr rfl rfl) (by decide)) <;> (try obtain rfl := eqs rfl rfl)
    all_goals repeat' (first | with_reducible refine mAnd_intro ?_ ?_ | exact ⟨rfl, hs.under⟩ | exact ⟨by simp, hs.under⟩ | (first | (((with_reducible refine gd_mLdI ?_); refine Sep.ldI hs 2 rfl rfl ?_)) | ((simp only [mBind_ap])) | ((simp only [unB_bool, Bool.not_false, mIf_true]))) | (refine (laa _ hs).mono ?_; rintro x h ⟨rfl, hs⟩) | (refine (lbc _ hs).mono ?_; rintro x h ⟨rfl, hs⟩) | (refine (lac _ hs).mono ?_; rintro x h ⟨rfl, hs⟩) | (refine (sa _ hs).mono ?_; rintro x h ⟨rfl, hs⟩) | (refine (sb _ hs).mono ?_; rintro x h ⟨rfl, hs⟩) | (simp only [Bool.not_true, Bool.not_false, mIf_true, mIf_false]))
  · apply S_signalboxlaw32_HyperOrders_4_tf
    unfold B_signalboxlaw32_HyperOrders_4_tf
    cases r <;> cases t <;> (try exact absurd (tr rfl rfl) (by decide)) <;> (try obtain rfl := eqs rfl rfl)
    all_goals repeat' (first | with_reducible refine mAnd_intro ?_ ?_ | exact ⟨rfl, hs.under⟩ | exact ⟨by simp, hs.under⟩ | (first | (((with_reducible refine gd_mLdI ?_); refine Sep.ldI hs 2 rfl rfl ?_)) | ((simp only [add_mk, Nat.zero_add, mBind_ap])) | ((simp only [unB_bool, Bool.not_false, mIf_true])) | (((with_reducible refine gd_mLdI ?_); refine Sep.ldI hs 1 rfl rfl ?_)) | (((with_reducible refine gd_mLdI ?_); refine Sep.ldI hs 0 rfl rfl ?_)) | ((simp only [mBind_ap])) | ((simp only [unB_bool, Bool.not_true, mIf_false])) | ((simp only [unB_bool, mIf_true]))) | (refine (laa _ hs).mono ?_; rintro x h ⟨rfl, hs⟩) | (refine (lbc _ hs).mono ?_; rintro x h ⟨rfl, hs⟩) | (refine (lac _ hs).mono ?_; rintro x h ⟨rfl, hs⟩) | (refine (sa _ hs).mono ?_; rintro x h ⟨rfl, hs⟩) | (refine (sb _ hs).mono ?_; rintro x h ⟨rfl, hs⟩) | (simp only [Bool.not_true, Bool.not_false, mIf_true, mIf_false]))
  · exact absurd (asym rfl) (by decide)
set_option maxHeartbeats 8000000 in
theorem HyperOrders_n (ha : a ≤ 18446744073709551615) (hu : u ≤ 18446744073709551615) (hb : b ≤ 18446744073709551615) (hv : v ≤ 18446744073709551615) (hc : c ≤ 18446744073709551615) (hw : w ≤ 18446744073709551615) :
    N_signalboxlaw32_HyperOrders a u b v c w h0 (HFin h0) := by
  have hs := Sep.init h0
  apply S_signalboxlaw32_HyperOrders
  unfold B_signalboxlaw32_HyperOrders
  ((refine Sep.new hs fun nb h hs => ?_; try simp only [List.toList_toArray] at hs); (refine Sep.new hs fun nb_1 h hs => ?_; try simp only [List.toList_toArray] at hs); (refine Sep.new hs fun nb_2 h hs => ?_; try simp only [List.toList_toArray] at hs); simp only [add_mk, Nat.zero_add, mBind_ap])
  refine (hfixed_s hs).mono ?_
  rintro x h ⟨rfl, hs⟩
  (simp only [unB_bool, Bool.not_true, mIf_false])
  have fin : ∀ h, Sep h0 h [aBlk nb_2 [.int .u64 c, .int .u64 w], aBlk nb_1 [.int .u64 b, .int .u64 v], aBlk nb [.int .u64 a, .int .u64 u]] → K_signalboxlaw32_HyperOrders_4 ⟨nb, 0, none⟩ ⟨nb_1, 0, none⟩ ⟨nb_2, 0, none⟩ (lessN a u b v) (lessN b v a u) h (HFin h0) := by
    intro h hs
    refine or4 (lessN a u b v) (lessN b v a u) (lessN b v c w) (lessN a u c w) (simN a u) (simN b v) less_asym less_trans sim_eq ?_ ?_ ?_ ?_ ?_ h hs
    · intro h hs
      have := LessG_s hs a u a u ha hu ha hu
      rw [less_irr] at this
      exact this
    · exact fun h hs => LessG_s hs b v c w hb hv hc hw
    · exact fun h hs => LessG_s hs a u c w ha hu hc hw
    · exact fun h hs => SimG_s hs a u ha hu
    · exact fun h hs => SimG_s hs b v hb hv
  repeat' (first | with_reducible refine mAnd_intro ?_ ?_ | exact fin _ hs | (first | (((with_reducible refine gd_mLdI ?_); refine Sep.ldI hs 2 rfl rfl ?_)) | (((with_reducible refine gd_mLdI ?_); refine Sep.ldI hs 1 rfl rfl ?_)) | ((simp only [mBind_ap])) | ((simp only [unB_bool])) | ((simp only [unB_bool, mBind_ap]))) | (refine (LessG_s hs a u b v ha hu hb hv).mono ?_; rintro x h ⟨rfl, hs⟩) | (refine (LessG_s hs b v a u hb hv ha hu).mono ?_; rintro x h ⟨rfl, hs⟩))
theorem HyperOrders_ok {a u b v c w : Int} (ha : 0 ≤ a ∧ a ≤ 18446744073709551615) (hu : 0 ≤ u ∧ u ≤ 18446744073709551615) (hb : 0 ≤ b ∧ b ≤ 18446744073709551615) (hv : 0 ≤ v ∧ v ≤ 18446744073709551615) (hc : 0 ≤ c ∧ c ≤ 18446744073709551615) (hw : 0 ≤ w ∧ w ≤ 18446744073709551615) :
    N_signalboxlaw32_HyperOrders a u b v c w h0 (HFin h0) := by
  obtain ⟨a, rfl⟩ : ∃ n : Nat, a = n := ⟨a.toNat, by omega⟩
  obtain ⟨u, rfl⟩ : ∃ n : Nat, u = n := ⟨u.toNat, by omega⟩
  obtain ⟨b, rfl⟩ : ∃ n : Nat, b = n := ⟨b.toNat, by omega⟩
  obtain ⟨v, rfl⟩ : ∃ n : Nat, v = n := ⟨v.toNat, by omega⟩
  obtain ⟨c, rfl⟩ : ∃ n : Nat, c = n := ⟨c.toNat, by omega⟩
  obtain ⟨w, rfl⟩ : ∃ n : Nat, w = n := ⟨w.toNat, by omega⟩
  exact HyperOrders_n (by omega) (by omega) (by omega) (by omega) (by omega) (by omega)
end
end Go.Proofs.Ytbpnpmknamghkaa
