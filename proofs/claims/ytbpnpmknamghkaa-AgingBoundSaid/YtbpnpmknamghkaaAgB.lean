/- Aging lines: the law AgingBound. Conditions: none. -/
import Derived.Test.YtbpnpmknamghkaaAgP
import Derived.Test.YtbpnpmknamghkaaSbW
namespace Go.Proofs.Ytbpnpmknamghkaa
open Go Go.Sb
set_option linter.unusedSimpArgs false
set_option linter.unusedVariables false
theorem bef_iff {step : Int} {a c : G} : bef step a c = true ↔ pri step a > pri step c ∨ (pri step a = pri step c ∧ a.wt > c.wt) := by
  unfold bef
  simp
theorem bst_opt {step : Int} {l : List G} : ∀ (d k best : Nat), k + d = l.length → best < l.length → (∀ j, j < k → bef step (gd l j) (gd l best) = false) → ∀ j, j < l.length → bef step (gd l j) (gd l (bst step l d k best)) = false
  | 0, k, best, hk, hb, ho, j, hj => ho j (by omega)
  | d + 1, k, best, hk, hb, ho, j, hj => by
    unfold bst
    by_cases hc : bef step (gd l k) (gd l best) = true
    · rw [if_pos hc]
      refine bst_opt d (k + 1) k (by omega) (by omega) (fun j hj => ?_) j hj
      by_cases hjk : j = k
      · subst hjk
        rw [Bool.eq_false_iff, Ne, bef_iff]; omega
      · have h1 := ho j (by omega)
        rw [Bool.eq_false_iff, Ne, bef_iff] at h1 ⊢
        rw [bef_iff] at hc
        omega
    · rw [if_neg hc]
      refine bst_opt d (k + 1) best (by omega) hb (fun j hj => ?_) j hj
      by_cases hjk : j = k
      · subst hjk; simpa using hc
      · exact ho j (by omega)
/-- those who came before the bound's first part was over -/
def olds (t : Int) (l : List G) : Nat := (l.filter fun p => decide (p.wt > t)).length
structure BInv (n : Nat) (p0 step i : Int) (l : List G) : Prop where
  len : l.length = n + 1
  one : ⟨1, p0, i⟩ ∈ l
  ok : ∀ p ∈ l, 0 ≤ p.base ∧ p.base ≤ 63 ∧ 0 ≤ p.wt ∧ p.wt ≤ i ∧ p.who < 2000 + i
  old : (64 - p0) * step ≤ i → (olds (i - (64 - p0) * step) l : Int) ≤ n + 1 - (i - (64 - p0) * step)
theorem olds_erase {t : Int} {l : List G} {i : Nat} (hi : i < l.length) (h : l[i].wt > t) : olds t (l.eraseIdx i) + 1 = olds t l := by
  unfold olds
  have h1 : l = l.take i ++ l[i] :: l.drop (i + 1) := by rw [← List.drop_eq_getElem_cons hi, List.take_append_drop]
  rw [List.eraseIdx_eq_take_drop_succ]
  conv => rhs; rw [h1]
  rw [List.filter_append, List.filter_append, List.filter_cons, if_pos (by simpa using h)]
  simp only [List.length_append, List.length_cons]
  omega
theorem olds_bump (t : Int) (l : List G) : olds (t + 1) (l.map bump) = olds t l := by
  unfold olds
  rw [List.filter_map, List.length_map]
  congr 2
  funext p
  show decide (p.wt + 1 > t + 1) = decide (p.wt > t)
  exact decide_eq_decide.2 (by omega)
theorem olds_le (t : Int) (l : List G) : olds t l ≤ l.length := List.length_filter_le _ _
theorem olds_app {t : Int} {l : List G} {p : G} (h : ¬ p.wt > t) : olds t (l ++ [p]) = olds t l := by
  unfold olds
  rw [List.filter_append, List.filter_cons, if_neg (by simpa using h)]
  simp
theorem olds_pos {t : Int} {l : List G} {p : G} (hp : p ∈ l) (h : p.wt > t) : 0 < olds t l := by
  unfold olds
  exact List.length_pos_iff.2 (List.ne_nil_of_mem (List.mem_filter.2 ⟨hp, by simpa using h⟩))
/-- a round in which another has the turn -/
theorem BInv.round {n : Nat} {p0 step i base : Int} {l : List G} (hI : BInv n p0 step i l) (hst : 1 ≤ step) (hp0 : 0 ≤ p0 ∧ p0 ≤ 63) (hi : 0 ≤ i) (hb : 0 ≤ base ∧ base ≤ 63) {m : List G} (hm : m = l ++ [(⟨2000 + i, base, 0⟩ : G)]) {F : Nat} (hF : F < m.length)
    (hopt : ∀ j (hj : j < m.length), bef step m[j] m[F] = false) (hne : m[F].who ≠ 1) :
    BInv n p0 step (i + 1) ((m.eraseIdx F).map bump) := by
  have h1 : ⟨1, p0, i⟩ ∈ m := by rw [hm]; simp [hI.one]
  have hok : ∀ p ∈ m, 0 ≤ p.base ∧ p.base ≤ 63 ∧ 0 ≤ p.wt ∧ p.wt ≤ i ∧ p.who < 2000 + (i + 1) := by
    intro p hp
    rw [hm] at hp
    rcases List.mem_append.1 hp with hp | hp
    · have := hI.ok p hp; omega
    · simp only [List.mem_singleton] at hp
      subst hp
      exact ⟨hb.1, hb.2, Int.le_refl _, hi, by show 2000 + i < _; omega⟩
  have hlen : m.length = n + 2 := by rw [hm]; simp [hI.len]
  have hold : (64 - p0) * step ≤ i → (olds (i - (64 - p0) * step) m : Int) ≤ n + 1 - (i - (64 - p0) * step) := by
    intro h
    rw [hm, olds_app (by show ¬ (0 : Int) > _; omega)]
    exact hI.old h
  clear hm
  have hel : (m.eraseIdx F).length = n + 1 := by rw [List.length_eraseIdx_of_lt hF]; omega
  refine ⟨by rw [List.length_map, hel], ?_, ?_, ?_⟩
  · refine List.mem_map.2 ⟨⟨1, p0, i⟩, ?_, rfl⟩
    obtain ⟨j, hj, he⟩ := List.getElem_of_mem h1
    have hjF : j ≠ F := fun e => by subst e; rw [he] at hne; exact hne rfl
    exact List.mem_eraseIdx_iff_getElem.2 ⟨j, hj, hjF, he⟩
  · intro p hp
    obtain ⟨q, hq, rfl⟩ := List.mem_map.1 hp
    have := hok q (List.mem_of_mem_eraseIdx hq)
    exact ⟨this.1, this.2.1, by show 0 ≤ q.wt + 1; omega, by show q.wt + 1 ≤ i + 1; omega, this.2.2.2.2⟩
  · intro h
    by_cases ht : (64 - p0) * step ≤ i
    · have hwF : m[F].wt > i - (64 - p0) * step := by
        false_or_by_contra
        rename_i hle
        obtain ⟨j, hj, he⟩ := List.getElem_of_mem h1
        have hb1 := hopt j hj
        rw [he, Bool.eq_false_iff, Ne, bef_iff] at hb1
        have hof := hok m[F] (List.getElem_mem hF)
        have e1 : i / step = (i - (64 - p0) * step) / step + (64 - p0) := by
          rw [← Int.add_mul_ediv_right _ _ (show step ≠ 0 by omega)]
          congr 1
          omega
        have e2 : m[F].wt / step ≤ (i - (64 - p0) * step) / step := Int.ediv_le_ediv (by omega) (by omega)
        unfold pri at hb1
        have e3 : (⟨1, p0, i⟩ : G).wt / step = i / step := rfl
        rw [e3] at hb1
        have e4 : (⟨1, p0, i⟩ : G).base = p0 := rfl
        rw [e4] at hb1
        omega
      rw [show i + 1 - (64 - p0) * step = (i - (64 - p0) * step) + 1 by omega, olds_bump]
      have h2 := olds_erase hF hwF
      have h3 := hold ht
      omega
    · have h4 := olds_le (i + 1 - (64 - p0) * step) ((m.eraseIdx F).map bump)
      rw [List.length_map, hel] at h4
      omega
theorem BInv.last {n : Nat} {p0 step i : Int} {l : List G} (hI : BInv n p0 step i l) (hst : 1 ≤ step) (hp0 : 0 ≤ p0 ∧ p0 ≤ 63) (hi : i = (64 - p0) * step + (n + 1)) : False := by
  have h1 := hI.old (by omega)
  have hm := Int.mul_le_mul (show 1 ≤ 64 - p0 by omega) hst (by omega) (by omega)
  have h2 := olds_pos (t := i - (64 - p0) * step) hI.one (by show i > _; omega)
  omega
theorem join_new {l : List G} {who base : Int} (hb : 0 ≤ base ∧ base ≤ 63) (hw : ∀ p ∈ l, p.who ≠ who) (hn : l.length < 256) : joinR l who base = (0, l ++ [⟨who, base, 0⟩]) := by
  unfold joinR
  have : fnd who l 0 = -1 := by
    rcases fnd_spec who l 0 with ⟨h1, _⟩ | ⟨i, hi, _, h2⟩
    · exact h1
    · exact absurd h2 (hw _ (List.getElem_mem hi))
  rw [if_neg (by omega), if_neg (by omega), if_neg (by omega)]
section
variable {h0 : Hp} {js fs : Sl} {jz fz : List Int} {b n : Nat} {stp p0 base : Int} {l : List G}
theorem b21 (hst : 1 ≤ stp ∧ stp ≤ 4) (hp0 : 0 ≤ p0 ∧ p0 ≤ 63) (hn : n ≤ 40) {i : Nat} (hib : i ≤ 400) (hI : BInv n p0 stp i l) {base : Int} (hb : 0 ≤ base ∧ base ≤ 63) {T : Int} (next : ∀ h l, BInv n p0 stp ((i : Int) + 1) l → Ln h0 [] b stp l h → K_signalboxlaw51_AgingBound_16 js (some ⟨b, 0, none⟩) T (IntKind.i64.wrap ((i : Int) + 1)) h (AFin h0)) (h : Hp)
    (hs : Ln h0 [] b stp (l ++ [⟨2000 + (i : Int), base, 0⟩]) h) :
    K_signalboxlaw51_AgingBound_21 js (some ⟨b, 0, none⟩) T (i : Int) h (AFin h0) := by
  generalize hm : l ++ [(⟨2000 + (i : Int), base, 0⟩ : G)] = m at *
  have hlen : m.length = n + 2 := by rw [← hm]; simp [hI.len]
  have hok : ∀ q ∈ m, q.ok := by
    intro q hq
    rw [← hm] at hq
    rcases List.mem_append.1 hq with hq | hq
    · have := hI.ok q hq
      exact ⟨this.1, this.2.1, this.2.2.1, by omega⟩
    · simp only [List.mem_singleton] at hq
      subst hq
      exact ⟨hb.1, hb.2, Int.le_refl _, by show (0 : Int) ≤ _; omega⟩
  have hFl := bst_lt (step := stp) (l := m) m.length 0 0 (by omega) (by omega)
  have hopt := bst_opt (step := stp) (l := m) m.length 0 0 (by omega) (by omega) (fun j hj => by omega)
  apply S_signalboxlaw51_AgingBound_21
  unfold B_signalboxlaw51_AgingBound_21
  rw [mBind_ap]
  refine (Turn_s hs hst.1 (by omega) hok (by omega)).mono ?_
  rintro v h ⟨rfl, hs⟩
  generalize bst stp m m.length 0 0 = F at *
  rw [gd_at hFl]
  simp only [un2_tuple, unI_int, unB_bool]
  refine mIf_neg rfl ?_
  refine mIf_intro (fun hc => ?_) (fun hc => ?_)
  · obtain ⟨x, hs⟩ := hs
    exact ⟨rfl, hs.under⟩
  · refine next h _ (hI.round hst.1 hp0 (by omega) hb hm.symm hFl (fun j hj => ?_) (by simpa using hc)) hs
    have := hopt j hj
    rwa [gd_at hj, gd_at hFl] at this
theorem b16 (hst : 1 ≤ stp ∧ stp ≤ 4) (hp0 : 0 ≤ p0 ∧ p0 ≤ 63) (hn : n ≤ 40) (hj : RdI h0.size h0 .u8 js jz) : ∀ (d i : Nat) (h : Hp) (l : List G), (i : Int) + d = (64 - p0) * stp + (n + 1) → BInv n p0 stp i l → Ln h0 [] b stp l h →
    K_signalboxlaw51_AgingBound_16 js (some ⟨b, 0, none⟩) ((64 - p0) * stp + (n + 1)) (i : Int) h (AFin h0)
  | 0, i, h, l, hi, hI, hs => (hI.last hst.1 hp0 (by omega)).elim
  | d + 1, i, h, l, hi, hI, hs => by
    have ih := fun h l => b16 hst hp0 hn hj d (i + 1) h l (by omega)
    have hjn := hj.n
    have hwf := hj.wf
    have hm := Int.mul_le_mul (show 64 - p0 ≤ 64 by omega) hst.2 (by omega) (by omega)
    have hib : i ≤ 400 := by omega
    have hlen := hI.len
    have hjoin : ∀ base : Int, 0 ≤ base ∧ base ≤ 63 → joinR l (2000 + (i : Int)) base = (0, l ++ [⟨2000 + (i : Int), base, 0⟩]) := fun base hb => join_new hb (fun p hp => by have := hI.ok p hp; omega) (by omega)
    have next : ∀ h l, BInv n p0 stp ((i : Int) + 1) l → Ln h0 [] b stp l h → K_signalboxlaw51_AgingBound_16 js (some ⟨b, 0, none⟩) ((64 - p0) * stp + (n + 1)) (IntKind.i64.wrap ((i : Int) + 1)) h (AFin h0) := by
      intro h l hI hs
      rw [wrap64 _ (by omega), show (i : Int) + 1 = ((i + 1 : Nat) : Int) by omega]
      exact ih h l (by rw [show ((i + 1 : Nat) : Int) = (i : Int) + 1 by omega]; exact hI) hs
    apply S_signalboxlaw51_AgingBound_16
    unfold B_signalboxlaw51_AgingBound_16
    refine mIf_pos (by rw [decide_eq_true]; omega) ?_
    rw [wrap64 (2000 + (i : Int)) (by omega)]
    refine mIf_dec (fun hc => ?_) (fun hc => ?_)
    · have hil : i < jz.length := by omega
      have hw := hwf jz[i] (List.getElem_mem _)
      have w1 : (0 : Int) ≤ jz[i] := hw.1
      have w2 : jz[i] ≤ (255 : Int) := hw.2
      obtain ⟨x, hs⟩ := hs
      (refine Sep.argIn hs hj (by first | omega | (simp only [List.length_set, List.length_map, List.length_replicate, List.length_append, List.length_cons, List.length_nil, List.length_reverse, List.length_range]; omega) | (simp; omega)) ?_)
      refine ⟨by omega, ?_⟩
      rw [Int.tmod_eq_emod_of_nonneg w1, wrap64 (jz[i] % 64) (by omega), mBind_ap]
      refine (Join_s ⟨x, hs⟩ (by omega) (2000 + (i : Int)) (jz[i] % 64)).mono ?_
      rintro v h ⟨rfl, hs⟩
      rw [hjoin _ (by omega)] at hs ⊢
      simp only [unI_int]
      exact b21 hst hp0 hn hib hI (by omega) next h hs
    · rw [mBind_ap]
      refine (Join_s hs (by omega) (2000 + (i : Int)) 63).mono ?_
      rintro v h ⟨rfl, hs⟩
      rw [hjoin _ (by omega)] at hs ⊢
      simp only [unI_int]
      exact b21 hst hp0 hn hib hI (by omega) next h hs
structure FInv (k : Nat) (l : List G) : Prop where
  len : l.length = k
  ok : ∀ p ∈ l, 0 ≤ p.base ∧ p.base ≤ 63 ∧ p.wt = 0 ∧ 1000 ≤ p.who ∧ p.who < 1000 + k
theorem b7 (hst : 1 ≤ stp ∧ stp ≤ 4) (hb : 0 ≤ base ∧ base ≤ 255) (hf : RdI h0.size h0 .u8 fs fz) (hfl : fz.length ≤ 40) (hj : RdI h0.size h0 .u8 js jz) : ∀ (d k : Nat) (h : Hp) (l : List G), k + d = fz.length → FInv k l → Ln h0 [] b stp l h →
    K_signalboxlaw51_AgingBound_7 base js (some ⟨b, 0, none⟩) fs (fs.n : Int) (k : Int) h (AFin h0)
  | 0, k, h, l, hk, hI, hs => by
    have hfn := hf.n
    have hlen := hI.len
    apply S_signalboxlaw51_AgingBound_7
    unfold B_signalboxlaw51_AgingBound_7
    refine mIf_neg (by simp; omega) ?_
    refine ⟨by omega, ?_⟩
    rw [Int.tmod_eq_emod_of_nonneg hb.1, wrap64 (base % 64) (by omega), mBind_ap]
    refine (Join_s hs (by omega) 1 (base % 64)).mono ?_
    rintro v h ⟨rfl, hs⟩
    rw [join_new (by omega) (fun p hp => by have := hI.ok p hp; omega) (by omega)] at hs ⊢
    have hok : ∀ q ∈ l ++ [(⟨1, base % 64, 0⟩ : G)], 0 ≤ q.base ∧ q.base ≤ 63 ∧ q.wt = 0 ∧ q.who < 2000 ∧ (q.who = 1 → q = ⟨1, base % 64, 0⟩) := by
      intro q hq
      rcases List.mem_append.1 hq with hq | hq
      · have := hI.ok q hq
        exact ⟨this.1, this.2.1, this.2.2.1, by omega, fun h => by omega⟩
      · simp only [List.mem_singleton] at hq
        subst hq
        exact ⟨by show 0 ≤ base % 64; omega, by show base % 64 ≤ 63; omega, rfl, by show (1 : Int) < 2000; omega, fun _ => rfl⟩
    have hone : (⟨1, base % 64, 0⟩ : G) ∈ l ++ [(⟨1, base % 64, 0⟩ : G)] := by simp
    have hl1 : (l ++ [(⟨1, base % 64, 0⟩ : G)]).length = k + 1 := by simp [hlen]
    generalize l ++ [(⟨1, base % 64, 0⟩ : G)] = m at *
    replace hs : Ln h0 [] b stp m h := hs
    simp only [unI_int]
    rw [mBind_ap]
    refine (Bound_s hs ⟨hst.1, by omega⟩ (by omega) (fun q hq => by have := hok q hq; exact ⟨this.1, this.2.1, by omega, by omega⟩) 1).mono ?_
    rintro v h ⟨rfl, hs⟩
    obtain ⟨j, hj1, hj2, hj3⟩ : ∃ j : Nat, ∃ hj : j < m.length, fnd 1 m 0 = j ∧ m[j].who = 1 := by
      rcases fnd_spec 1 m 0 with ⟨_, h2⟩ | ⟨i, hi, h1, h2⟩
      · exact absurd rfl (h2 _ hone)
      · exact ⟨i, hi, by omega, h2⟩
    have hmj := (hok m[j] (List.getElem_mem hj1)).2.2.2.2 hj3
    rw [hj2, if_pos (by omega), Int.toNat_natCast, gd_at hj1, hmj, hl1]
    have hpr : pri stp ⟨1, base % 64, 0⟩ = base % 64 := by
      show base % 64 + 0 / stp = base % 64
      rw [Int.zero_ediv, Int.add_zero]
    rw [hpr, show max 0 (64 - base % 64) = 64 - base % 64 by omega]
    simp only [un2_tuple, unI_int, unB_bool]
    refine mIf_neg rfl ?_
    have hmm := Int.mul_le_mul (show 1 ≤ 64 - base % 64 by omega) hst.1 (by omega) (by omega)
    have hB : BInv k (base % 64) stp ((0 : Nat) : Int) m := by
      refine ⟨hl1, hone, fun q hq => ?_, fun h => by omega⟩
      have := hok q hq
      omega
    have := b16 (n := k) (b := b) hst (by omega) (by omega) hj ((64 - base % 64) * stp + (k + 1)).toNat 0 h m (by omega) hB hs
    rw [show ((k + 1 : Nat) : Int) = (k : Int) + 1 by omega]
    exact this
  | d + 1, k, h, l, hk, hI, hs => by
    have ih := fun h l => b7 hst hb hf hfl hj d (k + 1) h l (by omega)
    have hfn := hf.n
    have hwf := hf.wf
    have hlen := hI.len
    have hkl : k < fz.length := by omega
    have hw := hwf fz[k] (List.getElem_mem _)
    have w1 : (0 : Int) ≤ fz[k] := hw.1
    have w2 : fz[k] ≤ (255 : Int) := hw.2
    apply S_signalboxlaw51_AgingBound_7
    unfold B_signalboxlaw51_AgingBound_7
    refine mIf_pos (by simp; omega) ?_
    rw [show IntKind.i64.wrap ((k : Int) + 1) = ((k + 1 : Nat) : Int) by rw [wrap64 _ (by omega)]; omega, wrap64 (1000 + (k : Int)) (by omega)]
    obtain ⟨x, hs⟩ := hs
    (refine Sep.argIn hs hf (by first | omega | (simp only [List.length_set, List.length_map, List.length_replicate, List.length_append, List.length_cons, List.length_nil, List.length_reverse, List.length_range]; omega) | (simp; omega)) ?_)
    refine ⟨by omega, ?_⟩
    rw [Int.tmod_eq_emod_of_nonneg w1, wrap64 (fz[k] % 64) (by omega), mBind_ap]
    refine (Join_s ⟨x, hs⟩ (by omega) (1000 + (k : Int)) (fz[k] % 64)).mono ?_
    rintro v h ⟨rfl, hs⟩
    rw [join_new (by omega) (fun p hp => by have := hI.ok p hp; omega) (by omega)] at hs ⊢
    simp only [unI_int]
    refine ih h _ ⟨by simp [hlen], fun p hp => ?_⟩ hs
    rcases List.mem_append.1 hp with hp | hp
    · have := hI.ok p hp; omega
    · simp only [List.mem_singleton] at hp
      subst hp
      exact ⟨by show 0 ≤ fz[k] % 64; omega, by show fz[k] % 64 ≤ 63; omega, rfl, by show (1000 : Int) ≤ 1000 + k; omega, by show (1000 : Int) + k < 1000 + ((k + 1 : Nat) : Int); omega⟩
theorem AgingBound_ok {step : Int} (hst : 0 ≤ step ∧ step ≤ 255) (hf : RdI h0.size h0 .u8 fs fz) (hb : 0 ≤ base ∧ base ≤ 255) (hj : RdI h0.size h0 .u8 js jz) : N_signalboxlaw51_AgingBound step fs base js h0 (AFin h0) := by
  have hs := Sep.init h0
  have hfn := hf.n
  apply S_signalboxlaw51_AgingBound
  unfold B_signalboxlaw51_AgingBound
  rw [mBind_ap]
  refine (afixed_s hs).mono ?_
  rintro v h ⟨rfl, hs⟩
  simp only [unB_bool]
  refine mIf_neg (by simp) ?_
  refine mIf_intro (fun hc => ⟨rfl, hs.under⟩) (fun hc => ?_)
  have hc : ¬ (fs.n : Int) > 40 := by intro hh; simp [hh] at hc
  refine ⟨by omega, ?_⟩
  rw [Int.tmod_eq_emod_of_nonneg hst.1, wrap64 (step % 4) (by omega), wrap64 (1 + step % 4) (by omega), mBind_ap]
  refine (New_s hs (by omega)).mono ?_
  rintro v h ⟨b, rfl, hs⟩
  simp only [unP_pointer]
  exact b7 (by omega) hb hf (by omega) hj fz.length 0 h [] (by omega) ⟨rfl, by simp⟩ hs
end
end Go.Proofs.Ytbpnpmknamghkaa
