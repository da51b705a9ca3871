/- Numbers as bytes: what the plain text reads; rows of numbers. Conditions: none. -/
import Derived.Test.YtimpaammdmeocaaCodeL
import Derived.Test.YtimpaammdmeocaaSbW
namespace Go.Proofs.Ytimpaammdmeocaa
open Go Go.Sb
set_option linter.unusedSimpArgs false
set_option linter.unusedVariables false
set_option linter.unusedVariables false
section
variable {h0 h : Hp} {R L : List As}
theorem rdI_nil {B : Nat} {g : Hp} {kd : IntKind} : RdI B g kd ⟨none, 0, 0⟩ [] := ⟨rfl, fun i z hz => by simp at hz, fun z hz => by cases hz⟩
theorem own_ok {xs : List Int} {k acc c : Nat} (hb : isB xs) (hkx : k < xs.length) (hcx : xs[k] = (c : Int)) (hc : c ≤ 127) (he : readO xs = if (0 < (c : Int) ∨ k = 0) ∧ acc + c % 128 * 128 ^ k ≤ 2147483647 then some (acc + c % 128 * 128 ^ k, k + 1) else none) :
    RdOk (readO xs) ((acc + c % 128 * 128 ^ k : Nat) : Int) ((k + 1 : Nat) : Int) (decide (wrN [] ((acc + c % 128 * 128 ^ k : Nat) : Int) = xs.take (k + 1))) := by
  generalize acc + c % 128 * 128 ^ k = m at he ⊢
  by_cases hh : (0 < (c : Int) ∨ k = 0) ∧ m ≤ 2147483647
  · rw [if_pos hh] at he
    rw [he]
    refine ⟨rfl, rfl, ?_⟩
    obtain ⟨h1, h2, h3⟩ := enc_read hb he
    rw [decide_eq_true_eq]
    unfold wrN
    rw [if_neg (by omega), Int.toNat_natCast, List.nil_append]
    rw [h3, ← h2, List.take_left]
  · rw [if_neg hh] at he
    rw [he]
    show decide _ = false
    rw [decide_eq_false_iff_not]
    intro e
    unfold wrN at e
    split at e
    · have := congrArg List.length e
      rw [List.length_take] at this
      simp at this
      omega
    · rename_i hm
      rw [Int.toNat_natCast, List.nil_append] at e
      have h1 : readO xs = some (m, (numZ m).length) := by
        have := read_enc (n := m) (by omega) (xs.drop (k + 1))
        rw [e, List.take_append_drop] at this
        rw [e]
        exact this
      rw [he] at h1
      cases h1
theorem rread3 {b : Sl} {xs : List Int} (hr : RdI h0.size h0 .u8 b xs) (hc : b.n ≤ b.c) (hl : xs.length ≤ 1000000) : ∀ (d k acc W : Nat) (h : Hp), k + d = min 5 xs.length → W = 128 ^ k → acc < W → readO xs = rdF (5 - k) k acc (xs.drop k) → Sep h0 h R →
    K_signalboxref46_Read_3 b (acc : Int) (W : Int) (k : Int) h (fun v h' => ∃ n k ok, v = .tuple #[.int .i64 n, .int .i64 k, .bool ok] ∧ RdOk (readO xs) n k ok ∧ Sep h0 h' R)
  | 0, k, acc, W, h, hk, hW, ha, he, hs => by
    have hn := hr.n
    apply S_signalboxref46_Read_3
    unfold B_signalboxref46_Read_3
    refine mIf_neg (by simp; omega) ?_
    refine ⟨0, 0, false, rfl, ?_, hs⟩
    have : readO xs = none := by
      rw [he]
      by_cases h5 : k = 5
      · subst h5; rfl
      · rw [List.drop_of_length_le (by omega), rd_nil]
    rw [this]; rfl
  | d + 1, k, acc, W, h, hk, hW, ha, he, hs => by
    have hn := hr.n
    have hkx : k < xs.length := by omega
    have hz := rdI_B hr _ (List.getElem_mem hkx)
    have he0 := he
    rw [List.drop_eq_getElem_cons hkx, show 5 - k = (4 - k) + 1 by omega] at he
    simp only [rdF] at he
    apply S_signalboxref46_Read_3
    unfold B_signalboxref46_Read_3
    refine mIf_pos (by simp; omega) ?_
    refine hs.argIn hr hkx ?_
    refine ⟨by omega, ?_⟩
    refine hs.argIn hr hkx ?_
    generalize hcx : xs[k] = z at hz he ⊢
    have hk5 : k < 5 := by omega
    have hc256 : z.toNat < 256 := by omega
    have hzn : z = (z.toNat : Int) := by omega
    have e3 := (acc_bits hk5 (hW ▸ ha) hc256).2.2
    have h5 : (128 : Nat) ^ (k + 1) ≤ 128 ^ 5 := Nat.pow_le_pow_right (by omega) (by omega)
    have h5' : (128 : Nat) ^ 5 = 34359738368 := by decide
    rw [h5'] at h5
    rw [← hW] at he e3
    have hW1 : W * 128 = 128 ^ (k + 1) := by rw [hW, Nat.pow_succ]
    rw [← hW1] at h5 e3
    have em : ((z.toNat % 128 : Nat) : Int) * (W : Int) = ((z.toNat % 128 * W : Nat) : Int) := by push_cast; rfl
    have e1 : IntKind.i64.wrap ((acc : Int) + IntKind.i64.wrap (IntKind.i64.wrap (Int.tmod z 128) * (W : Int))) = ((acc + z.toNat % 128 * W : Nat) : Int) := by
      rw [Int.tmod_eq_emod_of_nonneg (by omega), wrap64 (z % 128) (by omega), show z % 128 = ((z.toNat % 128 : Nat) : Int) by omega, em]
      generalize z.toNat % 128 * W = q at e3 ⊢
      clear he hW1 hW
      rw [wrap64 ((q : Nat) : Int) (by omega), wrap64 _ (by omega)]
      omega
    have e4 : IntKind.i64.wrap ((W : Int) * 128) = ((W * 128 : Nat) : Int) := by
      clear he hW1 hW e1 em
      rw [wrap64 _ (by omega)]
      omega
    rw [e1, e4, wrapS k (by omega)]
    refine mIf_intro (fun hc7 => ?_) (fun hc7 => ?_)
    · have hc7 : z ≤ 127 := by simp at hc7; omega
      rw [if_pos hc7, hzn, Int.toNat_natCast] at he
      rw [hW] at he
      rw [hzn] at hcx
      have hok := own_ok (rdI_B hr) hkx hcx (by omega) he
      rw [← hW] at hok
      rw [mBind_ap]
      refine (rNumberI _ (by simp) rdI_nil hs).mono ?_
      rintro v h ⟨o, rfl, ho, hs⟩
      simp only [unL_slice]
      refine hr.slc hc (by omega) (by omega) (by omega) rfl fun x hx hxc => ?_
      simp only [Int.toNat_natCast, Int.toNat_zero, List.drop_zero] at hx
      have hx' := hx.under hs.under
      have hse := str_eq (rdI_B ho) (rdI_B hx)
      refine mAnd_intro ?_ ?_
      · refine ho.str ?_
        refine hx'.str ?_
        rw [hse]
        exact ⟨_, _, _, rfl, hok, hs⟩
      · refine hx'.str ?_
        refine ho.str ?_
        rw [hse]
        exact ⟨_, _, _, rfl, hok, hs⟩
    · have hc7 : ¬ z ≤ 127 := by simp at hc7; omega
      rw [if_neg hc7] at he
      refine rread3 hr hc hl d (k + 1) _ _ h (by omega) hW1 e3 ?_ hs
      rw [he, show 5 - (k + 1) = 4 - k by omega]
theorem rRead_s {b : Sl} {xs : List Int} (hr : RdI h0.size h0 .u8 b xs) (hc : b.n ≤ b.c) (hl : xs.length ≤ 1000000) (hs : Sep h0 h R) : N_signalboxref46_Read b h (fun v h' => ∃ n k ok, v = .tuple #[.int .i64 n, .int .i64 k, .bool ok] ∧ RdOk (readO xs) n k ok ∧ Sep h0 h' R) := by
  apply S_signalboxref46_Read
  unfold B_signalboxref46_Read
  exact rread3 hr hc hl (min 5 xs.length) 0 0 1 h (Nat.zero_add _) rfl (by omega) rfl hs
/-! ### rows of numbers: the writer -/
abbrev wB (w : Nat) (b : Sl) : As := aBlk w [.slice b.p b.n b.c]
theorem put1 {w : Nat} {t : Sl} {zs : List Int} (hz : zs.length ≤ 10000) : ∀ (d k : Nat) (b : Sl) (xs : List Int) (h : Hp), k + d = zs.length → xs.length + 5 * d ≤ 1000000 → Sep h0 h (wB w b :: aRow encB 1 b xs :: aRow encI 1 t zs :: R) →
    K_code_writer_put_1 (some ⟨w, 0, none⟩) t (t.n : Int) (k : Int) h (fun v h' => v = .tuple #[] ∧ ∃ b : Sl, Sep h0 h' (wB w b :: aRow encB 1 b (wrL xs (zs.drop k)) :: R))
  | 0, k, b, xs, h, hk, hl, hs => by
    have hn := hs.rowLen 2 rfl
    apply S_code_writer_put_1
    unfold B_code_writer_put_1
    refine mIf_neg (by simp; omega) ?_
    rw [List.drop_of_length_le (by omega)]
    exact ⟨rfl, b, (hs.reT 3 [2, 0, 1] rfl (by simp)).drop⟩
  | d + 1, k, b, xs, h, hk, hl, hs => by
    have hn := hs.rowLen 2 rfl
    have hkl : k < zs.length := by omega
    rw [List.drop_eq_getElem_cons hkl]
    apply S_code_writer_put_1
    unfold B_code_writer_put_1
    refine mIf_pos (by simp; omega) ?_
    refine row1 (k := 2) hs rfl hkl ?_
    rw [mNil_some]
    refine hs.ldL 0 rfl rfl ?_
    rw [mBind_ap]
    refine (Number_s (zs[k]) (by omega) hs.swap).mono ?_
    rintro v h ⟨o, rfl, hs⟩
    simp only [unL_slice, mNil_some]
    refine hs.st 1 rfl rfl rfl fun h hs => ?_
    simp only [List.set_cons_succ, List.set_cons_zero] at hs
    rw [wrapS k (by omega)]
    have hwl := wrN_len xs (zs[k])
    exact put1 hz d (k + 1) o _ h (by omega) (by omega) hs.swap
theorem put_s {w : Nat} {b t : Sl} {xs zs : List Int} (hz : zs.length ≤ 10000) (hl : xs.length ≤ 900000) (hs : Sep h0 h (wB w b :: aRow encB 1 b xs :: aRow encI 1 t zs :: R)) :
    N_code_writer_put (some ⟨w, 0, none⟩) t h (fun v h' => v = .tuple #[] ∧ ∃ b : Sl, Sep h0 h' (wB w b :: aRow encB 1 b (wrL xs zs) :: R)) := by
  apply S_code_writer_put
  unfold B_code_writer_put
  exact put1 hz zs.length 0 b xs h (Nat.zero_add _) (by omega) hs
theorem map_flat : ∀ zs : List Int, zs.map (Value.int .i64 ·) = zs.flatMap encI
  | [] => rfl
  | z :: zs => by rw [List.map_cons, List.flatMap_cons, map_flat zs]; rfl
/-- of numbers in a block of their own -/
theorem putB_s {w q n : Nat} {b : Sl} {xs : List Int} (zs : List Int) (hn : n = zs.length) (hz : zs.length ≤ 10000) (hl : xs.length ≤ 900000) (hs : Sep h0 h (aBlk q (zs.map (.int .i64 ·)) :: wB w b :: aRow encB 1 b xs :: R)) :
    N_code_writer_put (some ⟨w, 0, none⟩) ⟨some ⟨q, 0, none⟩, n, n⟩ h (fun v h' => v = .tuple #[] ∧ ∃ b : Sl, Sep h0 h' (wB w b :: aRow encB 1 b (wrL xs zs) :: R)) := by
  have hs := Blk.row (enc := encI) (xs := zs) (sz := 1) (n := n) hs 0 rfl (map_flat zs) hn
  simp only [List.set_cons_zero] at hs
  exact put_s hz hl (hs.reT 3 [1, 2, 0] rfl (by simp))
theorem wlist_s {w : Nat} {b l : Sl} {xs zs : List Int} (hr : RdI h0.size h0 .i64 l zs) (hz : zs.length ≤ 9000) (hl : xs.length ≤ 900000) (hs : Sep h0 h (wB w b :: aRow encB 1 b xs :: R)) :
    N_code_writer_list (some ⟨w, 0, none⟩) l h (fun v h' => v = .tuple #[] ∧ ∃ b : Sl, Sep h0 h' (wB w b :: aRow encB 1 b (wrList xs zs) :: R)) := by
  have hn := hr.n
  apply S_code_writer_list
  unfold B_code_writer_list
  refine Sep.new hs fun q h hs => ?_
  have hs := Blk.row (enc := encI) (xs := [(l.n : Int)]) (sz := 1) (n := 1) hs 0 rfl rfl rfl
  simp only [List.set_cons_zero] at hs
  refine hs.appI 0 rfl (hr.under hs.under) rfl (by omega) (by simp; omega) fun s' h hn' hs => ?_
  simp only [List.set_cons_zero] at hs
  rw [mBind_ap]
  refine (put_s (zs := (l.n : Int) :: zs) (by simp; omega) hl (hs.reT 3 [1, 2, 0] rfl (by simp))).mono ?_
  rintro v h ⟨rfl, b, hs⟩
  refine ⟨rfl, b, ?_⟩
  rw [hn] at hs
  exact hs
end
end Go.Proofs.Ytimpaammdmeocaa
