/- Times told by gaps: DeltaParts. Conditions: none. -/
import Derived.Test.YtinjifhjjkdmoaaDelM
import Derived.Test.YtinjifhjjkdmoaaDltQ
import Derived.Test.YtinjifhjjkdmoaaDelA
import Derived.Test.YtinjifhjjkdmoaaSbW
namespace Go.Proofs.Ytinjifhjjkdmoaa
open Go Go.Sb
set_option linter.unusedSimpArgs false
set_option linter.unusedVariables false
abbrev DFin (h0 : Hp) : Value → Hp → Prop := fun v h' => v = .bool true ∧ Under h0.size h0 h'
section
variable {h0 h : Hp} {R X : List As} {d : Nat}
theorem same4 {x y : Sl} {zs ws : List Int} {B C : Nat} (hx : RdI B h .i64 x zs) (hy : RdI C h .i64 y ws) (hl : zs.length = ws.length) (hn : zs.length ≤ 1000000) : ∀ (e k : Nat), k + e = zs.length → (∀ j, j < k → zs[j]? = ws[j]?) →
    K_signalboxlaw04_same_4 x y (x.n : Int) (k : Int) h (fun v h' => v = .bool (decide (zs = ws)) ∧ h' = h)
  | 0, k, hk, he => by
    have hxn := hx.n
    apply S_signalboxlaw04_same_4
    unfold B_signalboxlaw04_same_4
    refine mIf_neg (by simp; omega) ?_
    have : zs = ws := by
      apply List.ext_getElem? 
      intro i
      by_cases hi : i < k
      · exact he i hi
      · rw [List.getElem?_eq_none (by omega), List.getElem?_eq_none (by omega)]
    rw [decide_eq_true this]
    exact ⟨rfl, rfl⟩
  | e + 1, k, hk, he => by
    have ih := same4 hx hy hl hn e (k + 1) (by omega)
    have hxn := hx.n
    have hkl : k < zs.length := by omega
    apply S_signalboxlaw04_same_4
    unfold B_signalboxlaw04_same_4
    refine mIf_pos (by simp; omega) ?_
    refine hx.ix hkl ?_
    refine hy.ix (by omega) ?_
    refine mIf_intro (fun hc => ?_) (fun hc => ?_)
    · have hne : ¬ zs[k] = ws[k] := by simpa using hc
      have : ¬ zs = ws := by
        intro heq
        subst heq
        exact hne rfl
      rw [decide_eq_false this]
      exact ⟨rfl, rfl⟩
    · have heq : zs[k] = ws[k] := by simpa using hc
      rw [wrap64 ((k : Int) + 1) (by omega), show ((k : Int) + 1) = ((k + 1 : Nat) : Int) by omega]
      refine ih fun j hj => ?_
      by_cases hjk : j < k
      · exact he j hjk
      · have : j = k := by omega
        subst this
        rw [List.getElem?_eq_getElem hkl, List.getElem?_eq_getElem (by omega), heq]
theorem same_s {x y : Sl} {zs ws : List Int} {B C : Nat} (hx : RdI B h .i64 x zs) (hy : RdI C h .i64 y ws) (hn : zs.length ≤ 1000000) : N_signalboxlaw04_same x y h (fun v h' => v = .bool (decide (zs = ws)) ∧ h' = h) := by
  have hxn := hx.n
  have hyn := hy.n
  apply S_signalboxlaw04_same
  unfold B_signalboxlaw04_same
  by_cases hl : zs.length = ws.length
  · refine mIf_neg (by simp; omega) ?_
    exact same4 hx hy hl hn zs.length 0 (Nat.zero_add _) (fun j hj => by omega)
  · refine mIf_pos (by simp; omega) ?_
    have : ¬ zs = ws := fun h => hl (by rw [h])
    rw [decide_eq_false this]
    exact ⟨rfl, rfl⟩
/-- numbers that are i64's -/
def W64 (zs : List Int) : Prop := ∀ z ∈ zs, -9223372036854775808 ≤ z ∧ z ≤ 9223372036854775807
theorem W64.wf {zs : List Int} (h : W64 zs) : ∀ z ∈ zs, IntKind.i64.min ≤ z ∧ z ≤ IntKind.i64.max := by
  intro z hz
  rw [show IntKind.i64.min = -9223372036854775808 by decide, show IntKind.i64.max = 9223372036854775807 by decide]
  exact h z hz
/-- two rows of one's own -/
theorem same_r {L : List As} {x y : Sl} {zs ws : List Int} (hs : Sep h0 h L) (i j : Nat) (hi : L[i]? = some (aRow encI 1 x zs)) (hj : L[j]? = some (aRow encI 1 y ws)) (hz : W64 zs) (hw : W64 ws) (hn : zs.length ≤ 1000000) : N_signalboxlaw04_same x y h (fun v h' => v = .bool (decide (zs = ws)) ∧ h' = h) :=
  same_s (hs.rowI i hi hz.wf) (hs.rowI j hj hw.wf) hn
theorem dfixed_s (hs : Sep h0 h R) : N_signalboxlaw04_fixed h (fun v h' => v = .bool true ∧ Sep h0 h' R) := by
  have e1 : putC [] 2 5 = 0 ∧ putL [] 2 5 = [(2, 5)] := by decide
  have e2 : putC [(2, 5)] 1 3 = 0 ∧ putL [(2, 5)] 1 3 = [(1, 3), (2, 2)] := by decide
  have e3 : adv 4 [(1, 3), (2, 2)] = ([1], [(2, 1)]) := by decide
  have e4 : putC [(2, 1)] 2 1 = 10 ∧ putL [(2, 1)] 2 1 = [(2, 1)] := by decide
  have e5 : putC [(2, 1)] 3 (-1) = 5 ∧ putL [(2, 1)] 3 (-1) = [(2, 1)] := by decide
  have ok0 : DOk [] := ⟨by simp, by simp [dsum]⟩
  have ok1 : DOk [(2, 5)] := ⟨by simp, by simp [dsum]⟩
  have ok2 : DOk [(1, 3), (2, 2)] := ⟨by simp, by simp [dsum]⟩
  have ok3 : DOk [(2, 1)] := ⟨by simp, by simp [dsum]⟩
  apply S_signalboxlaw04_fixed
  unfold B_signalboxlaw04_fixed
  rw [mBind_ap]
  refine (New_s hs).mono ?_
  rintro v h ⟨d, rfl, hs⟩
  simp only [unP_pointer]
  rw [mBind_ap]
  refine (Put_s (key := 2) (t := 5) ok0 (by simp) hs).mono ?_
  rintro v h ⟨rfl, hs⟩
  simp only [unI_int]
  rw [e1.1]
  rw [e1.2] at hs
  rw [mBind_ap]
  refine (Put_s (key := 1) (t := 3) ok1 (by simp) hs).mono ?_
  rintro v h ⟨rfl, hs⟩
  simp only [unI_int]
  rw [e2.1]
  rw [e2.2] at hs
  rw [mBind_ap]
  refine (Gaps_s (by simp) hs).mono ?_
  rintro v h ⟨og, rfl, hs⟩
  simp only [unL_slice]
  rw [mBind_ap]
  refine (Advance_s (t := 4) (by omega) ok2 (by simp) hs.swap).mono ?_
  rintro v h ⟨oa, rfl, hs⟩
  rw [e3] at hs
  simp only [unL_slice]
  rw [mBind_ap]
  refine (Next_s hs.drop).mono ?_
  rintro v h' ⟨rfl, rfl⟩
  rw [show nextV [(2, 1)] = .tuple #[.int .i64 1, .bool true] from rfl]
  simp only [un2_tuple, unI_int, unB_bool]
  have hog := hs.rowLen 2 rfl
  have hoa := hs.rowLen 0 rfl
  have hs : Sep h0 h' (aRow encI 1 oa [1] :: aDl d [(2, 1)] :: aRow encI 1 og [3, 2] :: R) := hs
  rw [mBind_ap]
  refine mIf_pos (by rw [hog]; rfl) ?_
  ((refine Sep.idx hs 2 rfl (by first | omega | (simp only [List.length_set, List.length_map, List.length_replicate, List.length_append, List.length_cons, List.length_nil, List.length_reverse, List.length_range]; omega) | (simp; omega)) (by first | omega | (simp only [List.length_set, List.length_map, List.length_replicate, List.length_append, List.length_cons, List.length_nil, List.length_reverse, List.length_range]; omega) | (simp; omega)) fun aa haa => ?_; try simp only [Int.toNat_natCast] at haa); refine Sep.rldI0 hs 2 rfl (fun _ => rfl) haa (List.getElem?_eq_getElem (by first | omega | (simp only [List.length_set, List.length_map, List.length_replicate, List.length_append, List.length_cons, List.length_nil, List.length_reverse, List.length_range]; omega) | (simp; omega))) rfl ?_; rw [mRet_ap]; simp only [Bool.and_true, mBind_ap])
  refine mIf_pos rfl ?_
  ((refine Sep.idx hs 2 rfl (by first | omega | (simp only [List.length_set, List.length_map, List.length_replicate, List.length_append, List.length_cons, List.length_nil, List.length_reverse, List.length_range]; omega) | (simp; omega)) (by first | omega | (simp only [List.length_set, List.length_map, List.length_replicate, List.length_append, List.length_cons, List.length_nil, List.length_reverse, List.length_range]; omega) | (simp; omega)) fun aa_1 haa_1 => ?_; try simp only [Int.toNat_natCast] at haa_1); refine Sep.rldI0 hs 2 rfl (fun _ => rfl) haa_1 (List.getElem?_eq_getElem (by first | omega | (simp only [List.length_set, List.length_map, List.length_replicate, List.length_append, List.length_cons, List.length_nil, List.length_reverse, List.length_range]; omega) | (simp; omega))) rfl ?_; rw [mRet_ap])
  refine mIf_pos (by rw [hoa]; rfl) ?_
  ((refine Sep.idx hs 0 rfl (by first | omega | (simp only [List.length_set, List.length_map, List.length_replicate, List.length_append, List.length_cons, List.length_nil, List.length_reverse, List.length_range]; omega) | (simp; omega)) (by first | omega | (simp only [List.length_set, List.length_map, List.length_replicate, List.length_append, List.length_cons, List.length_nil, List.length_reverse, List.length_range]; omega) | (simp; omega)) fun aa_2 haa_2 => ?_; try simp only [Int.toNat_natCast] at haa_2); refine Sep.rldI0 hs 0 rfl (fun _ => rfl) haa_2 (List.getElem?_eq_getElem (by first | omega | (simp only [List.length_set, List.length_map, List.length_replicate, List.length_append, List.length_cons, List.length_nil, List.length_reverse, List.length_range]; omega) | (simp; omega))) rfl ?_; rw [mRet_ap])
  refine mIf_pos rfl ?_
  rw [mBind_ap]
  refine (Put_s (key := 2) (t := 1) ok3 (by simp) hs.drop).mono ?_
  rintro v h ⟨rfl, hs⟩
  simp only [unI_int]
  rw [e4.1]
  rw [e4.2] at hs
  rw [mRet_ap]
  refine mIf_pos rfl ?_
  rw [mBind_ap]
  refine (Put_s (key := 3) (t := -1) ok3 (by simp) hs).mono ?_
  rintro v h ⟨rfl, hs⟩
  simp only [unI_int]
  rw [e5.1]
  exact ⟨rfl, hs.drop.drop⟩
/-! keys -/
def KOk (l : DL) : Prop := ∀ p ∈ l, -9223372036854775808 ≤ p.1 ∧ p.1 ≤ 9223372036854775807
theorem ins_mem {key : Int} : ∀ (l : DL) (t : Int) (p : Int × Int), p ∈ ins key l t → p.1 = key ∨ ∃ p' ∈ l, p'.1 = p.1
  | [], t, p, h => by
    simp only [ins, List.mem_singleton] at h
    subst h; exact .inl rfl
  | (k, g) :: r, t, p, h => by
    unfold ins at h
    split at h
    · rcases List.mem_cons.1 h with h | h
      · subst h; exact .inr ⟨(k, g), by simp, rfl⟩
      · rcases ins_mem r _ p h with h | ⟨p', h1, h2⟩
        · exact .inl h
        · exact .inr ⟨p', by simp [h1], h2⟩
    · simp only [List.mem_cons] at h
      rcases h with h | h | h
      · subst h; exact .inl rfl
      · subst h; exact .inr ⟨(k, g), by simp, rfl⟩
      · exact .inr ⟨p, by simp [h], rfl⟩
theorem KOk.put {l : DL} {key t : Int} (h : KOk l) (hk : -9223372036854775808 ≤ key ∧ key ≤ 9223372036854775807) : KOk (putL l key t) := by
  unfold putL
  split
  · intro p hp
    rcases ins_mem l t p hp with h1 | ⟨p', h1, h2⟩
    · rw [h1]; exact hk
    · rw [← h2]; exact h p' h1
  · exact h
theorem adv_mem : ∀ (l : DL) (t : Int), (∀ k ∈ (adv t l).1, ∃ p ∈ l, p.1 = k) ∧ ∀ q ∈ (adv t l).2, ∃ p ∈ l, p.1 = q.1
  | [], t => by simp [adv]
  | (k, g) :: r, t => by
    obtain ⟨h1, h2⟩ := adv_mem r (t - g)
    unfold adv
    split
    · refine ⟨fun x hx => ?_, fun q hq => ?_⟩
      · rcases List.mem_cons.1 hx with hx | hx
        · exact ⟨(k, g), by simp, hx.symm⟩
        · obtain ⟨p, hp, he⟩ := h1 x hx
          exact ⟨p, by simp [hp], he⟩
      · obtain ⟨p, hp, he⟩ := h2 q hq
        exact ⟨p, by simp [hp], he⟩
    · refine ⟨by simp, fun q hq => ?_⟩
      rcases List.mem_cons.1 hq with hq | hq
      · subst hq; exact ⟨(k, g), by simp, rfl⟩
      · exact ⟨q, by simp [hq], rfl⟩
theorem KOk.adv1 {l : DL} {t : Int} (h : KOk l) : W64 (adv t l).1 := by
  intro k hk
  obtain ⟨p, hp, he⟩ := (adv_mem l t).1 k hk
  rw [← he]; exact h p hp
theorem KOk.adv2 {l : DL} {t : Int} (h : KOk l) : KOk (adv t l).2 := by
  intro q hq
  obtain ⟨p, hp, he⟩ := (adv_mem l t).2 q hq
  rw [← he]; exact h p hp
theorem KOk.keys {l : DL} (h : KOk l) : W64 (l.map (·.1)) := by
  intro k hk
  obtain ⟨p, hp, rfl⟩ := List.mem_map.1 hk
  exact h p hp
theorem dsum_ge : ∀ (l : DL) (p : Int × Int), (∀ p ∈ l, 0 ≤ p.2) → p ∈ l → p.2 ≤ dsum l
  | [], p, _, h => by simp at h
  | (k, g) :: r, p, h0, h => by
    have h1 := h0 (k, g) (by simp)
    have h2 := dsum_nn (l := r) fun q hq => h0 q (by simp [hq])
    simp only [dsum] at h1 ⊢
    rcases List.mem_cons.1 h with h | h
    · subst h; simp only; omega
    · have := dsum_ge r p (fun q hq => h0 q (by simp [hq])) h
      omega
theorem dgaps {l : DL} (h : DOk l) : W64 (l.map (·.2)) := by
  intro k hk
  obtain ⟨p, hp, rfl⟩ := List.mem_map.1 hk
  have h1 := h.gap p hp
  have h2 := dsum_ge l p h.gap hp
  have h3 := h.sum
  show -9223372036854775808 ≤ p.2 ∧ p.2 ≤ _
  omega
theorem put_ok {l : DL} {key t : Int} (h : DOk l) : DOk (putL l key t) ∧ (putL l key t).length ≤ l.length + 1 := by
  unfold putL
  by_cases hc : putC l key t = 0
  · rw [if_pos hc]
    have : ¬ (t < 0 ∨ t > 16777216) := by
      intro h1
      unfold putC at hc
      rw [if_pos h1] at hc
      omega
    exact ⟨(ins_ok l t h (by omega) (by omega)).1, by rw [ins_len]; omega⟩
  · rw [if_neg hc]
    exact ⟨h, by omega⟩
theorem parts7 {acts : Sl} {xs : List DAct} {a b : Int} (hl : RdE h0.size h0 DAct.enc 3 acts xs) (ho : ∀ x ∈ xs, x.ok h0) (hn : xs.length ≤ 100) (ha : 0 ≤ a ∧ a ≤ 65535) (hb : 0 ≤ b ∧ b ≤ 65535) {x y : Nat} : ∀ (e k : Nat) (l : DL) (h : Hp), k + e = xs.length → DOk l → KOk l → l.length ≤ k → Sep h0 h [aDl x l, aDl y l] →
    K_signalboxlaw04_DeltaParts_7 a b (some ⟨x, 0, none⟩) (some ⟨y, 0, none⟩) acts (acts.n : Int) (k : Int) h (DFin h0)
  | 0, k, l, h, hk, hok, hko, hll, hs => by
    have han := hl.n
    apply S_signalboxlaw04_DeltaParts_7
    unfold B_signalboxlaw04_DeltaParts_7
    refine mIf_neg (by simp; omega) ?_
    have hwa : IntKind.i64.wrap a = a := wrap64 _ (by omega)
    have hwb : IntKind.i64.wrap b = b := wrap64 _ (by omega)
    have hwab : IntKind.i64.wrap (a + b) = a + b := wrap64 _ (by omega)
    rw [hwa, hwb, hwab]
    obtain ⟨ok1, _, len1⟩ := adv_ok l a hok ha.1
    obtain ⟨ok2, _, len2⟩ := adv_ok (adv a l).2 b ok1 hb.1
    obtain ⟨two1, two2⟩ := adv_two l a b ha.1 hb.1 hok.gap
    rw [mBind_ap]
    refine (Advance_s (t := a) (by omega) hok (by omega) hs).mono ?_
    rintro v h ⟨o1, rfl, hs⟩
    simp only [unL_slice]
    rw [mBind_ap]
    refine (Advance_s (t := b) (by omega) ok1 (by omega) hs.swap).mono ?_
    rintro v h ⟨o2, rfl, hs⟩
    simp only [unL_slice]
    have hko1 := hko.adv2 (t := a)
    have hrd := hs.rowI 0 rfl (hko1.adv1 (t := b)).wf
    refine hs.appI 2 rfl hrd rfl (by omega) (by omega) fun o3 h _ hs => ?_
    simp only [List.set_cons_zero, List.set_cons_succ] at hs
    rw [← two1, ← two2] at hs
    have hs : Sep h0 h [aDl y l, aRow encI 1 o2 (adv b (adv a l).2).1, aDl x (adv (a + b) l).2, aRow encI 1 o3 (adv (a + b) l).1] := hs.re [3, 0, 1, 2] rfl
    rw [mBind_ap]
    refine (Advance_s (t := a + b) (by omega) hok (by omega) hs).mono ?_
    rintro v h ⟨o4, rfl, hs⟩
    simp only [unL_slice]
    obtain ⟨ok3, _, len3⟩ := adv_ok l (a + b) hok (by omega)
    have hko3 := hko.adv2 (t := a + b)
    rw [mBind_ap]
    refine (same_r hs 4 0 rfl rfl (hko.adv1 (t := a + b)) (hko.adv1 (t := a + b)) (by omega)).mono ?_
    rintro v h' ⟨rfl, rfl⟩
    simp only [unB_bool, decide_true]
    rw [mBind_ap]
    refine mIf_pos rfl ?_
    rw [mBind_ap]
    generalize hr : (adv (a + b) l).2 = r at *
    have hs : Sep h0 h' [aDl x r, aDl y r] := (hs.re [3, 1, 0, 2, 4] rfl |>.reT 5 [2, 3, 4, 0, 1] rfl (by simp)).drop.drop.drop
    refine (Keys_s (by omega) hs).mono ?_
    rintro v h ⟨k1, rfl, hs⟩
    simp only [unL_slice]
    rw [mBind_ap]
    refine (Keys_s (by omega) (hs.re [2, 0, 1] rfl)).mono ?_
    rintro v h ⟨k2, rfl, hs⟩
    simp only [unL_slice]
    rw [mBind_ap]
    refine (same_r hs 2 0 rfl rfl hko3.keys hko3.keys (by simp; omega)).mono ?_
    rintro v h' ⟨rfl, rfl⟩
    simp only [unB_bool, decide_true, mRet_ap]
    rw [mBind_ap]
    refine mIf_pos rfl ?_
    rw [mBind_ap]
    have hs : Sep h0 h' [aDl x r, aDl y r] := (hs.re [0, 2, 3, 1] rfl).drop.drop
    refine (Gaps_s (by omega) hs).mono ?_
    rintro v h ⟨k1, rfl, hs⟩
    simp only [unL_slice]
    rw [mBind_ap]
    refine (Gaps_s (by omega) (hs.re [2, 0, 1] rfl)).mono ?_
    rintro v h ⟨k2, rfl, hs⟩
    simp only [unL_slice]
    rw [mBind_ap]
    refine (same_r hs 2 0 rfl rfl (dgaps ok3) (dgaps ok3) (by simp; omega)).mono ?_
    rintro v h' ⟨rfl, rfl⟩
    simp only [unB_bool, decide_true, mRet_ap]
    exact ⟨rfl, hs.under⟩
  | e + 1, k, l, h, hk, hok, hko, hll, hs => by
    have ih := parts7 hl ho hn ha hb (x := x) (y := y) e (k + 1)
    have han := hl.n
    have hkl : k < xs.length := by omega
    have hx := ho xs[k] (List.getElem_mem _)
    apply S_signalboxlaw04_DeltaParts_7
    unfold B_signalboxlaw04_DeltaParts_7
    refine mIf_pos (by simp; omega) ?_
    (refine Sep.argEn hs hl (by first | omega | (simp only [List.length_set, List.length_map, List.length_replicate, List.length_append, List.length_cons, List.length_nil, List.length_reverse, List.length_range]; omega) | (simp; omega)) fun aa haa => ?_; refine Arg.ldI0 haa rfl ?_; refine Arg.ldI haa rfl ?_; refine Arg.ldI haa rfl ?_; (refine Sep.new hs fun nb h hs => ?_; try simp only [List.toList_toArray] at hs); (refine Sep.st hs 0 rfl rfl rfl fun h hs => ?_; simp only [List.set_cons_zero, List.set_cons_succ] at hs); (refine Sep.st hs 0 rfl rfl rfl fun h hs => ?_; simp only [List.set_cons_zero, List.set_cons_succ] at hs); (refine Sep.st hs 0 rfl rfl rfl fun h hs => ?_; simp only [List.set_cons_zero, List.set_cons_succ] at hs); refine Sep.ldI hs 0 rfl rfl ?_; refine Sep.ldI hs 0 rfl rfl ?_; simp only [add_mk, Nat.zero_add, mBind_ap])
    generalize xs[k] = c at *
    have hs : Sep h0 h [aDl x l, aBlk nb c.enc, aDl y l] := hs.re [1, 0, 2] rfl
    obtain ⟨pk1, pk2⟩ := put_ok (key := c.key) (t := c.ticks) hok
    refine (Put_s (key := c.key) (t := c.ticks) hok (by omega) hs).mono ?_
    rintro v h ⟨rfl, hs⟩
    have hs : Sep h0 h [aBlk nb c.enc, aDl y l, aDl x (putL l c.key c.ticks)] := hs.re [1, 2, 0] rfl
    (simp only [unI_int]; refine Sep.ldI hs 0 rfl rfl ?_; refine Sep.ldI hs 0 rfl rfl ?_; simp only [mBind_ap])
    have hs : Sep h0 h [aDl y l, aBlk nb c.enc, aDl x (putL l c.key c.ticks)] := hs.re [1, 0, 2] rfl
    refine (Put_s (key := c.key) (t := c.ticks) hok (by omega) hs).mono ?_
    rintro v h ⟨rfl, hs⟩
    simp only [unI_int]
    rw [wrap64 ((k : Int) + 1) (by omega), show ((k : Int) + 1) = ((k + 1 : Nat) : Int) by omega]
    exact ih _ h (by omega) pk1 (hko.put hx.2.1) (by omega) (hs.re [1, 2, 0] rfl).drop
theorem DeltaParts_ok {acts : Sl} {xs : List DAct} {a b : Int} (hl : RdE h0.size h0 DAct.enc 3 acts xs) (ho : ∀ x ∈ xs, x.ok h0) (ha : 0 ≤ a ∧ a ≤ 65535) (hb : 0 ≤ b ∧ b ≤ 65535) : N_signalboxlaw04_DeltaParts acts a b h0 (DFin h0) := by
  have han := hl.n
  apply S_signalboxlaw04_DeltaParts
  unfold B_signalboxlaw04_DeltaParts
  rw [mBind_ap]
  refine (dfixed_s (Sep.init h0)).mono ?_
  rintro v h ⟨rfl, hs⟩
  simp only [unB_bool]
  refine mIf_neg rfl ?_
  refine mIf_dec (fun hc => ⟨rfl, hs.under⟩) (fun hc => ?_)
  rw [mBind_ap]
  refine (New_s hs).mono ?_
  rintro v h ⟨x, rfl, hs⟩
  simp only [unP_pointer]
  rw [mBind_ap]
  refine (New_s hs).mono ?_
  rintro v h ⟨y, rfl, hs⟩
  simp only [unP_pointer]
  exact parts7 hl ho (by omega) ha hb xs.length 0 [] h (Nat.zero_add _) ⟨by simp, by simp [dsum]⟩ (by intro p hp; simp at hp) (by simp) hs.swap
end
end Go.Proofs.Ytinjifhjjkdmoaa
