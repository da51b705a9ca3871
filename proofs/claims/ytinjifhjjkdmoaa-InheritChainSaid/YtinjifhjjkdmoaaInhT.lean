/- Priorities that are handed on: InheritChain. Conditions: none. -/
import Derived.Test.YtinjifhjjkdmoaaInhR
import Derived.Test.YtinjifhjjkdmoaaSbW
namespace Go.Proofs.Ytinjifhjjkdmoaa
open Go Go.Sb
set_option linter.unusedSimpArgs false
set_option linter.unusedVariables false
def Pm (zs : List Int) (m : Nat) : List (Int × Int) := (List.range zs.length).map fun i : Nat => (zs.getD i 0, if i < m then ((i : Int) + 1) else -1)
def Tm (n m : Nat) : List (Int × List Int) := (List.range n).map fun i : Nat => ((i : Int), if 1 ≤ i ∧ i ≤ m then [(i : Int) - 1] else [])
def T0 (n k : Nat) : List (Int × List Int) := (List.range n).map fun i : Nat => (if i < k then (i : Int) else -1, [])
def mxZ (zs : List Int) : Nat → Int
  | 0 => zs.getD 0 0
  | j + 1 => max (mxZ zs j) (zs.getD (j + 1) 0)
theorem Pm_len (zs : List Int) (m : Nat) : (Pm zs m).length = zs.length := by simp [Pm]
theorem Tm_len (n m : Nat) : (Tm n m).length = n := by simp [Tm]
theorem T0_len (n m : Nat) : (T0 n m).length = n := by simp [T0]
theorem Pm_at {zs : List Int} {m i : Nat} (h : i < (Pm zs m).length) : (Pm zs m)[i] = (zs.getD i 0, if i < m then ((i : Int) + 1) else -1) := by simp [Pm]
theorem Tm_at {n m i : Nat} (h : i < (Tm n m).length) : (Tm n m)[i] = ((i : Int), if 1 ≤ i ∧ i ≤ m then [(i : Int) - 1] else []) := by simp [Tm]
theorem T0_at {n m i : Nat} (h : i < (T0 n m).length) : (T0 n m)[i] = (if i < m then (i : Int) else -1, []) := by simp [T0]
theorem Pm_ok {zs : List Int} {m n' : Nat} (hn : zs.length ≤ 60) (hn' : n' ≤ 60) : TOkI (Pm zs m) (Tm n' m) := by
  refine ⟨by rw [Pm_len]; omega, by rw [Tm_len]; omega, ?_, ?_⟩
  · intro t ht z hz
    obtain ⟨i, hi, rfl⟩ := List.getElem_of_mem ht
    rw [Tm_at hi] at hz
    rw [Tm_len] at hi
    simp only at hz
    split at hz
    · simp only [List.mem_singleton] at hz; omega
    · simp at hz
  · intro t ht
    obtain ⟨i, hi, rfl⟩ := List.getElem_of_mem ht
    rw [Tm_at hi]
    simp only
    split <;> simp
theorem T0_ok {zs : List Int} {m n' k : Nat} (hn : zs.length ≤ 60) (hn' : n' ≤ 60) : TOkI (Pm zs m) (T0 n' k) := by
  refine ⟨by rw [Pm_len]; omega, by rw [T0_len]; omega, ?_, ?_⟩
  · intro t ht z hz
    obtain ⟨i, hi, rfl⟩ := List.getElem_of_mem ht
    rw [T0_at hi] at hz
    simp at hz
  · intro t ht
    obtain ⟨i, hi, rfl⟩ := List.getElem_of_mem ht
    rw [T0_at hi]; simp
theorem T0_next {n k : Nat} (hk : k < n) : (T0 n k).set k ((k : Int), []) = T0 n (k + 1) := by
  apply List.ext_getElem (by simp [T0])
  intro i h1 h2
  rw [List.getElem_set, T0_at h2]
  split
  · rename_i h; subst h; rw [if_pos (by omega)]
  · rename_i h
    rw [T0_at]
    by_cases h3 : i < k
    · rw [if_pos h3, if_pos (by omega)]
    · rw [if_neg h3, if_neg (by omega)]
theorem T0_all {n : Nat} : T0 n n = Tm n 0 := by
  apply List.ext_getElem (by simp [T0, Tm])
  intro i h1 h2
  rw [T0_at h1, Tm_at h2, if_pos (by rw [T0_len] at h1; exact h1), if_neg (by omega)]
theorem Tm_next {n m : Nat} (hm : m + 1 < n) : (Tm n m).set (m + 1) (((m + 1 : Nat) : Int), [] ++ [(m : Int)]) = Tm n (m + 1) := by
  apply List.ext_getElem (by simp [Tm])
  intro i h1 h2
  rw [List.getElem_set, Tm_at h2]
  split
  · rename_i h; subst h; rw [if_pos (by omega)]; simp
  · rename_i h
    rw [Tm_at]
    by_cases h3 : 1 ≤ i ∧ i ≤ m
    · rw [if_pos h3, if_pos (by omega)]
    · rw [if_neg h3, if_neg (by omega)]
theorem Pm_next {zs : List Int} {m : Nat} (hm : m < zs.length) : (Pm zs m).set m (zs.getD m 0, ((m + 1 : Nat) : Int)) = Pm zs (m + 1) := by
  apply List.ext_getElem (by simp [Pm])
  intro i h1 h2
  rw [List.getElem_set, Pm_at h2]
  split
  · rename_i h; subst h; rw [if_pos (by omega)]; simp
  · rename_i h
    rw [Pm_at]
    by_cases h3 : i < m
    · rw [if_pos h3, if_pos (by omega)]
    · rw [if_neg h3, if_neg (by omega)]
theorem foldl_id {α β : Type} (F : β → α → β) : ∀ (l : List α) (n : β), (∀ x ∈ l, ∀ n, F n x = n) → l.foldl F n = n
  | [], n, h => rfl
  | x :: l, n, h => by
    rw [List.foldl_cons, h x (by simp)]
    exact foldl_id F l n fun y hy => h y (by simp [hy])
theorem fold_one {α β : Type} (F : β → α → β) (l : List α) (n : β) (p : Nat) (hp : p < l.length) (h : ∀ (j : Nat) (hj : j < l.length), j ≠ p → ∀ n, F n l[j] = n) : l.foldl F n = F n l[p] := by
  have e : l = l.take p ++ l[p] :: l.drop (p + 1) := by rw [← List.drop_eq_getElem_cons hp, List.take_append_drop]
  conv => lhs; rw [e]
  rw [List.foldl_append, List.foldl_cons, foldl_id F (l.take p), foldl_id F (l.drop (p + 1))]
  · intro x hx
    obtain ⟨j, hj, rfl⟩ := List.getElem_of_mem hx
    rw [List.length_drop] at hj
    rw [List.getElem_drop]
    exact h _ (by omega) (by omega)
  · intro x hx
    obtain ⟨j, hj, rfl⟩ := List.getElem_of_mem hx
    rw [List.length_take] at hj
    rw [List.getElem_take]
    exact h _ (by omega) (by omega)
theorem pr_chain {zs : List Int} {n m : Nat} (hn : zs.length = n) : ∀ p : Nat, p ≤ m → p < n → PrOk (Pm zs m) (Tm n m) (p + 1) p ∧ prF (Pm zs m) (Tm n m) (p + 1) p = mxZ zs p := by
  intro p
  induction p with
  | zero =>
    intro hp hpn
    refine ⟨⟨by omega, by rw [Pm_len]; omega, ?_⟩, ?_⟩
    · intro t ht h1 w hw
      obtain ⟨i, hi, rfl⟩ := List.getElem_of_mem ht
      rw [Tm_at hi] at h1 hw
      simp only at h1 hw
      rw [if_neg (by omega)] at hw
      simp at hw
    · show (Tm n m).foldl _ _ = _
      rw [fold_one _ _ _ 0 (by rw [Tm_len]; omega) (fun j hj hne n' => by rw [Tm_at hj]; rw [if_neg (by simp; omega)])]
      rw [Tm_at]
      rw [if_pos rfl, if_neg (by omega), List.foldl_nil]
      have : ((Pm zs m)[((0 : Nat) : Int).toNat]?.getD (0, 0)).1 = zs.getD 0 0 := by
        rw [show ((0 : Nat) : Int).toNat = 0 from rfl, List.getElem?_eq_getElem (by rw [Pm_len]; omega), Pm_at]; rfl
      exact this
  | succ p ih =>
    intro hp hpn
    obtain ⟨ih1, ih2⟩ := ih (by omega) (by omega)
    refine ⟨⟨by omega, by rw [Pm_len]; omega, ?_⟩, ?_⟩
    · intro t ht h1 w hw
      obtain ⟨i, hi, rfl⟩ := List.getElem_of_mem ht
      rw [Tm_at hi] at h1 hw
      simp only at h1 hw
      have hip : i = p + 1 := by omega
      subst hip
      rw [if_pos (by omega)] at hw
      simp only [List.mem_singleton] at hw
      rw [hw, show ((p + 1 : Nat) : Int) - 1 = (p : Int) by omega]
      exact ih1
    · show (Tm n m).foldl _ _ = _
      rw [fold_one _ _ _ (p + 1) (by rw [Tm_len]; omega) (fun j hj hne n' => by rw [Tm_at hj]; rw [if_neg (by simp; omega)])]
      rw [Tm_at]
      rw [if_pos rfl, if_pos (by omega)]
      simp only [List.foldl_cons, List.foldl_nil]
      rw [show ((p + 1 : Nat) : Int) - 1 = (p : Int) by omega, ih2]
      have : ((Pm zs m)[((p + 1 : Nat) : Int).toNat]?.getD (0, 0)).1 = zs.getD (p + 1) 0 := by
        rw [Int.toNat_natCast, List.getElem?_eq_getElem (by rw [Pm_len]; omega), Pm_at]; rfl
      rw [this]
      show _ = max (mxZ zs p) (zs.getD (p + 1) 0)
      split <;> omega
theorem ch_ring {zs : List Int} {n : Nat} (hn : zs.length = n) (h2 : 2 ≤ n) : ∀ (d x : Nat), x + d = n - 1 → Ch (Pm zs (n - 1)) (Tm n (n - 1)) ((n - 1 : Nat) : Int) (x : Int) true
  | 0, x, hx => by
    refine Ch.hit x (by rw [Tm_len]; omega) ?_
    rw [Tm_at]
    show (x : Int) = _
    omega
  | d + 1, x, hx => by
    have ih := ch_ring hn h2 d (x + 1) (by omega)
    refine Ch.step x x (by rw [Tm_len]; omega) (by rw [Pm_len]; omega) true (by rw [Tm_at]) (by omega) ?_
    rw [Pm_at]
    show Ch _ _ _ (if x < n - 1 then ((x : Int) + 1) else -1) true
    rw [if_pos (by omega), show ((x : Int) + 1) = ((x + 1 : Nat) : Int) by omega]
    exact ih
section
variable {h0 h : Hp} {R : List As} {tb : Nat} {bs : Sl} {zs : List Int}
theorem ic16 (hr : RdI h0.size h0 .i64 bs zs) (hn : 2 ≤ zs.length ∧ zs.length ≤ 60) : ∀ (d m : Nat) (h : Hp), m + d + 1 = zs.length → Tab h0 h tb (Pm zs m) (Tm zs.length m) [] →
    K_signalboxlaw40_InheritChain_16 bs (zs.length : Int) (some ⟨tb, 0, none⟩) (mxZ zs m) ((zs.length - 1 : Nat) : Int) (m : Int) h (IFin h0)
  | 0, m, h, hm, ht => by
    have hm' : m = zs.length - 1 := by omega
    apply S_signalboxlaw40_InheritChain_16
    unfold B_signalboxlaw40_InheritChain_16
    refine mIf_neg (by simp; omega) ?_
    rw [wrap64 ((zs.length : Int) - 1) (by omega), show (zs.length : Int) - 1 = ((zs.length - 1 : Nat) : Int) by omega, mBind_ap]
    rw [hm'] at ht
    refine (take_nest (p := zs.length - 1) (x := 0) (Pm_ok hn.2 hn.2) (by rw [Pm_len]; omega) (by rw [Tm_len]; omega) ?_ ?_ (ch_ring rfl hn.1 (zs.length - 1) 0 (by omega)) ht).mono ?_
    · rw [Pm_at]
      show (if zs.length - 1 < zs.length - 1 then _ else _) = _
      rw [if_neg (by omega)]
    · rw [Tm_at]
      show ((0 : Nat) : Int) ≠ _
      omega
    · rintro v h ⟨rfl, ht⟩
      obtain ⟨_, _, _, _, hs⟩ := ht
      simp only [un2_tuple, unB_bool, unI_int]
      exact ⟨rfl, hs.under⟩
  | d + 1, m, h, hm, ht => by
    have ih := ic16 hr hn d (m + 1)
    apply S_signalboxlaw40_InheritChain_16
    unfold B_signalboxlaw40_InheritChain_16
    refine mIf_pos (by simp; omega) ?_
    rw [wrap64 ((m : Int) + 1) (by omega), show ((m : Int) + 1) = ((m + 1 : Nat) : Int) by omega, mBind_ap]
    have hpl := Pm_len zs m
    have htl := Tm_len zs.length m
    have hP1 : (Pm zs m)[m]'(by omega) = (zs.getD m 0, -1) := by rw [Pm_at, if_neg (by omega)]
    have hP2 : (Pm zs m)[m + 1]'(by omega) = (zs.getD (m + 1) 0, -1) := by rw [Pm_at, if_neg (by omega)]
    have hT2 : (Tm zs.length m)[m + 1]'(by omega) = (((m + 1 : Nat) : Int), []) := by rw [Tm_at, if_neg (by omega)]
    refine (take_wait (p := m) (x := m + 1) (Pm_ok hn.2 hn.2) (by omega) (by omega) (by rw [hP1]) (by rw [hT2]; show ((m + 1 : Nat) : Int) ≠ _; omega) (by rw [hT2]; show ((m + 1 : Nat) : Int) ≠ _; omega)
      (Ch.step (m + 1) (m + 1) (by omega) (by omega) false (by rw [hT2]) (by omega) (by rw [hP2]; exact .out)) ht).mono ?_
    rintro v h ⟨rfl, ht⟩
    rw [hP1, hT2, Pm_next (by omega), Tm_next (by omega)] at ht
    simp only [un2_tuple, unB_bool, unI_int]
    refine mIf_neg rfl ?_
    have hu : Under h0.size h0 h := by obtain ⟨_, _, _, _, hs⟩ := ht; exact hs.under
    refine (hr.under hu).ix (j := m + 1) (by omega) ?_
    have hz : zs[m + 1]'(by omega) = zs.getD (m + 1) 0 := by simp [show m + 1 < zs.length by omega]
    rw [hz, mBind_ap]
    obtain ⟨p1, p2⟩ := pr_chain (zs := zs) (n := zs.length) (m := m + 1) rfl (m + 1) (by omega) (by omega)
    refine (Priority_s (f := m + 1 + 1) (p := m + 1) (Pm_ok hn.2 hn.2) (by rw [Pm_len]; omega) p1 ht).mono ?_
    rintro v h ⟨rfl, ht⟩
    rw [p2]
    simp only [un2_tuple, unB_bool, unI_int]
    have hmx : (if zs.getD (m + 1) 0 > mxZ zs m then zs.getD (m + 1) 0 else mxZ zs m) = mxZ zs (m + 1) := by
      show _ = max (mxZ zs m) (zs.getD (m + 1) 0)
      split <;> omega
    rw [hmx]
    refine mIf_neg (by simp) ?_
    exact ih h (by omega) ht
theorem ic8 (hr : RdI h0.size h0 .i64 bs zs) (hn : 2 ≤ zs.length ∧ zs.length ≤ 60) : ∀ (d k : Nat) (h : Hp), k + d = zs.length → Tab h0 h tb (Pm zs 0) (T0 zs.length k) [] →
    K_signalboxlaw40_InheritChain_8 bs (zs.length : Int) (some ⟨tb, 0, none⟩) (zs.length : Int) (k : Int) h (IFin h0)
  | 0, k, h, hk, ht => by
    have hk : k = zs.length := by omega
    rw [hk, T0_all] at ht
    apply S_signalboxlaw40_InheritChain_8
    unfold B_signalboxlaw40_InheritChain_8
    refine mIf_neg (by simp; omega) ?_
    have hu : Under h0.size h0 h := by obtain ⟨_, _, _, _, hs⟩ := ht; exact hs.under
    refine (hr.under hu).ix (j := 0) (by omega) ?_
    have hz : zs[0]'(by omega) = mxZ zs 0 := by show _ = zs.getD 0 0; simp [show 0 < zs.length by omega]
    rw [hz, wrap64 ((zs.length : Int) - 1) (by omega), show (zs.length : Int) - 1 = ((zs.length - 1 : Nat) : Int) by omega]
    exact ic16 hr hn (zs.length - 1) 0 h (by omega) ht
  | d + 1, k, h, hk, ht => by
    have ih := ic8 hr hn d (k + 1)
    apply S_signalboxlaw40_InheritChain_8
    unfold B_signalboxlaw40_InheritChain_8
    refine mIf_pos (by simp; omega) ?_
    rw [wrap64 ((k : Int) + 1) (by omega), show ((k : Int) + 1) = ((k + 1 : Nat) : Int) by omega, mBind_ap]
    have hpl := Pm_len zs 0
    have htl := T0_len zs.length k
    have hP : (Pm zs 0)[k]'(by omega) = (zs.getD k 0, -1) := by rw [Pm_at, if_neg (by omega)]
    have hT : (T0 zs.length k)[k]'(by omega) = (-1, []) := by rw [T0_at, if_neg (by omega)]
    refine (take_free (p := k) (x := k) (T0_ok hn.2 hn.2) (by omega) (by omega) (by rw [hP]) (by rw [hT]) ht).mono ?_
    rintro v h ⟨rfl, ht⟩
    rw [hT, T0_next (by omega)] at ht
    simp only [un2_tuple, unB_bool, unI_int]
    refine mIf_neg rfl ?_
    exact ih h (by omega) ht
theorem InheritChain_ok (hr : RdI h0.size h0 .i64 bs zs) : N_signalboxlaw40_InheritChain bs h0 (IFin h0) := by
  have hbn := hr.n
  apply S_signalboxlaw40_InheritChain
  unfold B_signalboxlaw40_InheritChain
  rw [mBind_ap]
  refine (ifixed_s (Sep.init h0)).mono ?_
  rintro v h ⟨rfl, hu⟩
  simp only [unB_bool]
  refine mIf_neg rfl ?_
  refine mIf_intro (fun hc => ⟨rfl, hu⟩) (fun hc => ?_)
  have hn : 2 ≤ zs.length ∧ zs.length ≤ 60 := by
    simp only [Bool.or_eq_false_iff, decide_eq_false_iff_not] at hc
    omega
  rw [mBind_ap]
  have hs : Sep h0 h [] := (Sep.init h0).more hu
  have := iNew_s (m := zs.length) (by omega) hr (by omega) hs
  rw [hbn]
  refine this.mono ?_
  rintro v h ⟨tb, rfl, ht⟩
  simp only [unP_pointer]
  refine ic8 hr hn zs.length 0 h (Nat.zero_add _) ?_
  have e1 : zs.map (fun z => (z, (-1 : Int))) = Pm zs 0 := by
    apply List.ext_getElem (by simp [Pm])
    intro i h1 h2
    rw [Pm_at h2, if_neg (by omega)]
    simp at h1
    simp [h1]
  have e2 : List.replicate zs.length ((-1 : Int), ([] : List Int)) = T0 zs.length 0 := by
    apply List.ext_getElem (by simp [T0])
    intro i h1 h2
    rw [T0_at h2, if_neg (by omega)]
    simp
  rw [e1, e2] at ht
  exact ht
end
end Go.Proofs.Ytinjifhjjkdmoaa
