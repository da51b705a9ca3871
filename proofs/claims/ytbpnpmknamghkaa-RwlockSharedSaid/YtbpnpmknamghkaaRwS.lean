/- Locks for many readers: the law RwlockShared. Conditions: none. -/
import Derived.Test.YtbpnpmknamghkaaRwP
import Derived.Test.YtbpnpmknamghkaaSbW
namespace Go.Proofs.Ytbpnpmknamghkaa
open Go Go.Sb
set_option linter.unusedSimpArgs false
set_option linter.unusedVariables false
theorem fnd_no {who : Int} {l : List P} (hl : ∀ p ∈ l, p.who ≠ who) (k : Int) : fnd who l k = -1 := by
  induction l generalizing k with
  | nil => rfl
  | cons p l ih =>
    unfold fnd
    rw [if_neg (hl p (by simp))]
    exact ih (fun q hq => hl q (by simp [hq])) (k + 1)
theorem fnd_yes {who : Int} {l : List P} {p : P} (hp : p ∈ l) (hw : p.who = who) : 0 ≤ fnd who l 0 := by
  rcases fnd_spec who l 0 with ⟨_, h2⟩ | ⟨i, hi, h1, _⟩
  · exact absurd hw (h2 p hp)
  · omega
theorem grant_all : ∀ (w hold : List P) (out : List Int), (∀ p ∈ hold, p.w = false) → (∀ p ∈ w, p.w = false) → grantR hold w out = (hold ++ w, [], out ++ w.map (·.who))
  | [], hold, out, _, _ => by simp [grantR]
  | p :: w, hold, out, h1, h2 => by
    unfold grantR
    have hm : may hold p = true := by
      unfold may
      cases hold with
      | nil => rfl
      | cons q l =>
        show (!p.w && !q.w) = true
        rw [h1 q (by simp), h2 p (by simp)]
        rfl
    rw [if_pos hm, grant_all w (hold ++ [p]) (out ++ [p.who]) (by intro q hq; rcases List.mem_append.1 hq with hq | hq; exact h1 q hq; simp at hq; subst hq; exact h2 _ (by simp)) (fun q hq => h2 q (by simp [hq]))]
    simp
theorem grant_stop {hold : List P} (hne : hold ≠ []) {p : P} (hp : p.w = true) (w : List P) (out : List Int) : grantR hold (p :: w) out = (hold, p :: w, out) := by
  unfold grantR
  rw [if_neg]
  cases hold with
  | nil => exact absurd rfl hne
  | cons q l => simp [may, hp]
def rd (n : Nat) : List P := (List.range n).map fun i : Nat => ⟨(i : Int), false⟩
def lt' (n : Nat) : List P := (List.range n).map fun i : Nat => ⟨2000 + (i : Int), false⟩
theorem rd_len (n : Nat) : (rd n).length = n := by simp [rd]
theorem lt_len (n : Nat) : (lt' n).length = n := by simp [lt']
theorem rd_mem {n : Nat} {p : P} (h : p ∈ rd n) : p.w = false ∧ 0 ≤ p.who ∧ p.who < n := by
  simp only [rd, List.mem_map, List.mem_range] at h
  obtain ⟨i, hi, rfl⟩ := h
  exact ⟨rfl, by show (0 : Int) ≤ i; omega, by show (i : Int) < n; omega⟩
theorem lt_mem {n : Nat} {p : P} (h : p ∈ lt' n) : p.w = false ∧ 2000 ≤ p.who ∧ p.who < 2000 + n := by
  simp only [lt', List.mem_map, List.mem_range] at h
  obtain ⟨i, hi, rfl⟩ := h
  exact ⟨rfl, by show (2000 : Int) ≤ 2000 + i; omega, by show (2000 : Int) + i < 2000 + n; omega⟩
theorem rd_succ (n : Nat) : rd (n + 1) = rd n ++ [⟨n, false⟩] := by simp [rd, List.range_succ]
theorem lt_succ (n : Nat) : lt' (n + 1) = lt' n ++ [⟨2000 + (n : Int), false⟩] := by simp [lt', List.range_succ]
abbrev wr : P := ⟨1000, true⟩
theorem ask_rd {k : Nat} (hk : k < 60) : askR (rd k) [] ⟨k, false⟩ = ((true, 0), (rd (k + 1), [])) := by
  unfold askR
  have h1 : fnd (k : Int) (rd k) 0 = -1 := fnd_no (fun p hp => by have := rd_mem hp; omega) 0
  have h2 : fnd (k : Int) [] 0 = -1 := rfl
  have h3 : grantR (rd k) ([] ++ [⟨k, false⟩]) [] = (rd (k + 1), [], [(k : Int)]) := by
    rw [List.nil_append, grant_all _ _ _ (fun p hp => (rd_mem hp).1) (by simp), rd_succ]
    simp
  have h4 : 0 ≤ fnd (k : Int) (rd (k + 1)) 0 := fnd_yes (p := ⟨k, false⟩) (by rw [rd_succ]; simp) rfl
  rw [if_neg (by show ¬ (fnd (k : Int) (rd k) 0 ≥ 0 ∨ fnd (k : Int) [] 0 ≥ 0); omega), if_neg (by rw [rd_len]; simp; omega), h3, decide_eq_true h4]
theorem ask_wr {n : Nat} (hn : 0 < n ∧ n ≤ 60) : askR (rd n) [] wr = ((false, 0), (rd n, [wr])) := by
  unfold askR
  have h1 : fnd 1000 (rd n) 0 = -1 := fnd_no (fun p hp => by have := rd_mem hp; omega) 0
  have h2 : fnd 1000 [] 0 = -1 := rfl
  have h3 : grantR (rd n) ([] ++ [wr]) [] = (rd n, [wr], []) := grant_stop (by intro h; have := rd_len n; rw [h] at this; simp at this; omega) rfl _ _
  rw [if_neg (by show ¬ (fnd 1000 (rd n) 0 ≥ 0 ∨ fnd 1000 [] 0 ≥ 0); omega), if_neg (by rw [rd_len]; simp; omega), h3]
  show ((decide (fnd 1000 (rd n) 0 ≥ 0), (0 : Int)), _) = _
  rw [h1]
  rfl
theorem ask_lt {n j : Nat} (hn : 0 < n ∧ n ≤ 60) (hj : j < 60) : askR (rd n) (wr :: lt' j) ⟨2000 + (j : Int), false⟩ = ((false, 0), (rd n, wr :: lt' (j + 1))) := by
  unfold askR
  have h1 : fnd (2000 + (j : Int)) (rd n) 0 = -1 := fnd_no (fun p hp => by have := rd_mem hp; omega) 0
  have h2 : fnd (2000 + (j : Int)) (wr :: lt' j) 0 = -1 := fnd_no (fun p hp => by
    rcases List.mem_cons.1 hp with rfl | hp
    · show (1000 : Int) ≠ _; omega
    · have := lt_mem hp; omega) 0
  have h3 : grantR (rd n) ((wr :: lt' j) ++ [⟨2000 + (j : Int), false⟩]) [] = (rd n, wr :: lt' (j + 1), []) := by
    rw [List.cons_append, ← lt_succ]
    exact grant_stop (by intro h; have := rd_len n; rw [h] at this; simp at this; omega) rfl _ _
  rw [if_neg (by show ¬ (fnd (2000 + (j : Int)) (rd n) 0 ≥ 0 ∨ fnd (2000 + (j : Int)) (wr :: lt' j) 0 ≥ 0); omega), if_neg (by rw [rd_len, List.length_cons, lt_len]; omega), h3]
  show ((decide (fnd (2000 + (j : Int)) (rd n) 0 ≥ 0), (0 : Int)), _) = _
  rw [h1]
  rfl
theorem rd_drop {n i : Nat} (hi : i < n) : (rd n).drop i = ⟨i, false⟩ :: (rd n).drop (i + 1) := by
  rw [List.drop_eq_getElem_cons (by rw [rd_len]; exact hi)]
  simp [rd]
theorem rm_head {who : Int} {p : P} {l : List P} (h : p.who = who) : rm who (p :: l) = l ∧ ¬ fnd who (p :: l) 0 < 0 := by
  have : fnd who (p :: l) 0 = 0 := by unfold fnd; rw [if_pos h]
  unfold rm
  rw [this]
  simp
theorem leave_rd {n i m : Nat} (hi : i + 1 < n) : leaveR ((rd n).drop i) (wr :: lt' m) i = some ((rd n).drop (i + 1), wr :: lt' m, []) := by
  unfold leaveR
  rw [rd_drop (by omega)]
  have := rm_head (who := (i : Int)) (p := ⟨i, false⟩) (l := (rd n).drop (i + 1)) rfl
  rw [if_pos this.2, this.1, grant_stop (by intro h; have := congrArg List.length h; rw [List.length_drop, rd_len] at this; simp at this; omega) rfl]
theorem leave_last {n i m : Nat} (hi : i + 1 = n) : leaveR ((rd n).drop i) (wr :: lt' m) i = some ([wr], lt' m, [1000]) := by
  unfold leaveR
  rw [rd_drop (by omega)]
  have := rm_head (who := (i : Int)) (p := ⟨i, false⟩) (l := (rd n).drop (i + 1)) rfl
  rw [if_pos this.2, this.1, List.drop_of_length_le (by rw [rd_len]; omega)]
  unfold grantR
  rw [if_pos (by rfl)]
  congr 1
  cases m with
  | zero => rfl
  | succ m =>
    show grantR [wr] (lt' (m + 1)) [1000] = _
    have e : lt' (m + 1) = ⟨2000, false⟩ :: (lt' (m + 1)).drop 1 := by
      rw [List.drop_one]
      simp [lt', List.range_succ_eq_map]
    rw [e]
    unfold grantR
    rw [if_neg (by decide)]
theorem leave_wr (m : Nat) : leaveR [wr] (lt' m) 1000 = some (lt' m, [], (lt' m).map (·.who)) := by
  unfold leaveR
  have := rm_head (who := 1000) (p := wr) (l := []) rfl
  rw [if_pos this.2, this.1, grant_all _ _ _ (by simp) (fun p hp => (lt_mem hp).1)]
  simp
section
variable {h0 : Hp} {b n m : Nat}
theorem sh23 (hn : 0 < n ∧ n ≤ 60) (hm : m ≤ 60) : ∀ (d i : Nat) (h : Hp), i + d = n → (if d = 0 then Lk h0 [] b [wr] (lt' m) h else Lk h0 [] b ((rd n).drop i) (wr :: lt' m) h) →
    K_signalboxlaw38_RwlockShared_23 (n : Int) (m : Int) (some ⟨b, 0, none⟩) (n : Int) (i : Int) h (WFin h0)
  | 0, i, h, hi, hs => by
    rw [if_pos rfl] at hs
    apply S_signalboxlaw38_RwlockShared_23
    unfold B_signalboxlaw38_RwlockShared_23
    refine mIf_neg (by simp; omega) ?_
    rw [mBind_ap]
    refine (Leave_s hs (by simp [lt_len]; omega) 1000).mono ?_
    intro v h hv
    rw [leave_wr] at hv
    obtain ⟨o, rfl, x, y, hs⟩ := hv
    have hon := hs.rowLen 0 rfl
    rw [List.length_map, lt_len] at hon
    have hs : Lk h0 [aRow encZ 1 o ((lt' m).map (·.who))] b (lt' m) [] h := ⟨x, y, hs.re [1, 2, 3, 0] rfl⟩
    (simp only [un2_tuple, unI_int, unL_slice, mBind_ap])
    refine mIf_pos (by rw [hon]; simp) ?_
    rw [mBind_ap]
    refine (Holders_s hs (by simp [lt_len]; omega)).mono ?_
    rintro v h ⟨o2, rfl, hs⟩
    have hon2 : o2.n = m := by
      obtain ⟨x, y, hs⟩ := hs
      have := hs.rowLen 3 rfl
      rwa [List.length_map, lt_len] at this
    (simp only [unL_slice]; rw [mRet_ap])
    refine mIf_pos (by rw [hon2]; simp) ?_
    rw [mBind_ap]
    refine (Waiting_s hs (by simp [lt_len]; omega)).mono ?_
    rintro v h ⟨o3, rfl, x, y, hs⟩
    have hon3 : o3.n = 0 := hs.rowLen 3 rfl
    (simp only [unL_slice]; rw [mRet_ap])
    exact ⟨by rw [hon3]; rfl, hs.under⟩
  | d + 1, i, h, hi, hs => by
    have ih := fun h => sh23 hn hm d (i + 1) h (by omega)
    rw [if_neg (by omega)] at hs
    apply S_signalboxlaw38_RwlockShared_23
    unfold B_signalboxlaw38_RwlockShared_23
    refine mIf_pos (by simp; omega) ?_
    rw [mBind_ap]
    refine (Leave_s hs (by simp [lt_len, rd_len]; omega) i).mono ?_
    intro v h hv
    rw [show IntKind.i64.wrap ((i : Int) + 1) = ((i + 1 : Nat) : Int) by rw [wrap64 _ (by omega)]; omega, wrap64 ((n : Int) - 1) (by omega)]
    by_cases hl : i + 1 = n
    · rw [leave_last hl] at hv
      obtain ⟨o, rfl, x, y, hs⟩ := hv
      have hon : o.n = 1 := hs.rowLen 0 rfl
      simp only [un2_tuple, unL_slice, unI_int]
      rw [mBind_ap]
      refine mIf_neg (by rw [hon]; simp; omega) ?_
      rw [mBind_ap]
      have hs0 := hs
      refine mIf_pos (by rw [hon]; rfl) ?_
      ((refine Sep.idx hs 0 rfl (by first | omega | (simp only [List.length_set, List.length_map, List.length_replicate, List.length_append, List.length_cons, List.length_nil, List.length_reverse, List.length_range]; omega) | (simp; omega)) (by first | omega | (simp only [List.length_set, List.length_map, List.length_replicate, List.length_append, List.length_cons, List.length_nil, List.length_reverse, List.length_range]; omega) | (simp; omega)) fun aa haa => ?_; try simp only [Int.toNat_natCast] at haa); refine Sep.rldI0 hs 0 rfl (fun _ => rfl) haa (List.getElem?_eq_getElem (by first | omega | (simp only [List.length_set, List.length_map, List.length_replicate, List.length_append, List.length_cons, List.length_nil, List.length_reverse, List.length_range]; omega) | (simp; omega))) rfl ?_; rw [mRet_ap]; rw [mRet_ap]; simp only)
      exact ih _ (by rw [if_pos (by omega)]; exact ⟨x, y, hs.drop⟩)
    · rw [leave_rd (by omega)] at hv
      obtain ⟨o, rfl, x, y, hs⟩ := hv
      have hon : o.n = 0 := hs.rowLen 0 rfl
      simp only [un2_tuple, unL_slice, unI_int]
      rw [mBind_ap]
      refine mIf_neg (by rw [hon]; simp; omega) ?_
      rw [mBind_ap]
      refine mIf_neg (by rw [hon]; rfl) ?_
      (rw [mRet_ap]; rw [mRet_ap]; simp only [mIf_false])
      exact ih _ (by rw [if_neg (by omega)]; exact ⟨x, y, hs.drop⟩)
theorem sh16 (hn : 0 < n ∧ n ≤ 60) (hm : m ≤ 60) : ∀ (d j : Nat) (h : Hp), j + d = m → Lk h0 [] b (rd n) (wr :: lt' j) h →
    K_signalboxlaw38_RwlockShared_16 (n : Int) (m : Int) (some ⟨b, 0, none⟩) (m : Int) (j : Int) h (WFin h0)
  | 0, j, h, hj, hs => by
    apply S_signalboxlaw38_RwlockShared_16
    unfold B_signalboxlaw38_RwlockShared_16
    refine mIf_neg (by simp; omega) ?_
    rw [show j = m by omega] at hs
    exact sh23 hn hm n 0 h (by omega) (by rw [if_neg (by omega)]; exact hs)
  | d + 1, j, h, hj, hs => by
    have ih := fun h => sh16 hn hm d (j + 1) h (by omega)
    apply S_signalboxlaw38_RwlockShared_16
    unfold B_signalboxlaw38_RwlockShared_16
    refine mIf_pos (by simp; omega) ?_
    rw [wrap64 (2000 + (j : Int)) (by omega), show IntKind.i64.wrap ((j : Int) + 1) = ((j + 1 : Nat) : Int) by rw [wrap64 _ (by omega)]; omega]
    rw [mBind_ap]
    refine (Ask_s hs (by simp [lt_len, rd_len]; omega) ⟨2000 + (j : Int), false⟩).mono ?_
    rintro v h ⟨rfl, hs⟩
    rw [ask_lt hn (by omega)] at hs ⊢
    simp only [un2_tuple, unB_bool, unI_int]
    refine mIf_neg rfl ?_
    exact ih _ hs
theorem sh6 (hn : 0 < n ∧ n ≤ 60) (hm : m ≤ 60) : ∀ (d k : Nat) (h : Hp), k + d = n → Lk h0 [] b (rd k) [] h →
    K_signalboxlaw38_RwlockShared_6 (n : Int) (m : Int) (some ⟨b, 0, none⟩) (n : Int) (k : Int) h (WFin h0)
  | 0, k, h, hk, hs => by
    apply S_signalboxlaw38_RwlockShared_6
    unfold B_signalboxlaw38_RwlockShared_6
    refine mIf_neg (by simp; omega) ?_
    rw [show k = n by omega] at hs
    rw [mBind_ap]
    refine (Ask_s hs (by simp [rd_len]; omega) wr).mono ?_
    rintro v h ⟨rfl, hs⟩
    rw [ask_wr hn] at hs ⊢
    simp only [un2_tuple, unB_bool, unI_int]
    refine mIf_neg rfl ?_
    exact sh16 hn hm m 0 h (by omega) hs
  | d + 1, k, h, hk, hs => by
    have ih := fun h => sh6 hn hm d (k + 1) h (by omega)
    apply S_signalboxlaw38_RwlockShared_6
    unfold B_signalboxlaw38_RwlockShared_6
    refine mIf_pos (by simp; omega) ?_
    rw [show IntKind.i64.wrap ((k : Int) + 1) = ((k + 1 : Nat) : Int) by rw [wrap64 _ (by omega)]; omega]
    rw [mBind_ap]
    refine (Ask_s hs (by simp [rd_len]; omega) ⟨k, false⟩).mono ?_
    rintro v h ⟨rfl, hs⟩
    rw [ask_rd (by omega)] at hs ⊢
    simp only [un2_tuple, unB_bool, unI_int]
    refine mIf_neg rfl ?_
    exact ih _ hs
theorem RwlockShared_ok {readers later : Int} (hr : 0 ≤ readers ∧ readers ≤ 255) (hl : 0 ≤ later ∧ later ≤ 255) : N_signalboxlaw38_RwlockShared readers later h0 (WFin h0) := by
  have hs := Sep.init h0
  apply S_signalboxlaw38_RwlockShared
  unfold B_signalboxlaw38_RwlockShared
  rw [mBind_ap]
  refine (wfixed_s hs).mono ?_
  rintro v h ⟨rfl, hs⟩
  simp only [unB_bool]
  refine mIf_neg (by simp) ?_
  refine ⟨by omega, by omega, ?_⟩
  rw [mBind_ap]
  refine (New_s hs).mono ?_
  rintro v h ⟨b, rfl, hs⟩
  simp only [unP_pointer]
  rw [Int.tmod_eq_emod_of_nonneg hr.1, Int.tmod_eq_emod_of_nonneg hl.1, wrap64 (readers % 60) (by omega), wrap64 (later % 60) (by omega), wrap64 (1 + readers % 60) (by omega)]
  obtain ⟨n, hn⟩ : ∃ n : Nat, 1 + readers % 60 = n := ⟨(1 + readers % 60).toNat, by omega⟩
  obtain ⟨m, hm⟩ : ∃ m : Nat, later % 60 = m := ⟨(later % 60).toNat, by omega⟩
  rw [hn, hm]
  exact sh6 (by omega) (by omega) n 0 h (by omega) hs
end
end Go.Proofs.Ytbpnpmknamghkaa
