/- Times told by gaps: the document's rows. Conditions: none. -/
import Derived.Test.YtinjifhjjkdmoaaDelQ
import Derived.Test.YtinjifhjjkdmoaaSbW
namespace Go.Proofs.Ytinjifhjjkdmoaa
open Go Go.Sb
set_option linter.unusedSimpArgs false
set_option linter.unusedVariables false
abbrev encP : Int × Int → List Value := fun p => [.int .i64 p.1, .int .i64 p.2]
theorem encP_one (x : Int × Int) : ∀ v ∈ encP x, v.oneCell' = true := by
  intro v hv
  simp only [List.mem_cons, List.not_mem_nil, or_false] at hv
  rcases hv with rfl | rfl <;> rfl
def absF : Int → DL → List (Int × Int)
  | _, [] => []
  | s, (k, g) :: r => (k, s + g) :: absF (s + g) r
theorem absF_len : ∀ (s : Int) (l : DL), (absF s l).length = l.length
  | _, [] => rfl
  | s, (k, g) :: r => by simp [absF, absF_len (s + g) r]
def fidx (key : Int) : List (Int × Int) → Int → Int
  | [], _ => -1
  | p :: r, i => if p.1 = key then i else fidx key r (i + 1)
theorem fidx_none {key : Int} : ∀ (l : DL) (i : Nat) (s : Int), fnk key l i s = none → fidx key (absF s l) i = -1
  | [], i, s, h => rfl
  | (k, g) :: r, i, s, h => by
    unfold fnk at h
    split at h
    · cases h
    · rename_i hk
      have := fidx_none r (i + 1) (s + g) h
      show (if k = key then _ else _) = _
      rw [if_neg hk]
      exact this
theorem fidx_some {key : Int} : ∀ (l : DL) (i : Nat) (s : Int) (j : Nat) (w : Int), fnk key l i s = some (j, w) → fidx key (absF s l) i = j ∧ i ≤ j ∧ (absF s l)[j - i]? = some (key, w)
  | [], i, s, j, w, h => by simp [fnk] at h
  | (k, g) :: r, i, s, j, w, h => by
    unfold fnk at h
    split at h
    · rename_i hk
      simp only [Option.some.injEq, Prod.mk.injEq] at h
      obtain ⟨rfl, rfl⟩ := h
      refine ⟨?_, Nat.le_refl _, ?_⟩
      · show (if k = key then _ else _) = _
        rw [if_pos hk]
      · simp [absF, hk]
    · rename_i hk
      obtain ⟨h1, h2, h3⟩ := fidx_some r (i + 1) (s + g) j w h
      refine ⟨?_, by omega, ?_⟩
      · show (if k = key then _ else _) = _
        rw [if_neg hk]
        exact h1
      · rw [show j - i = (j - (i + 1)) + 1 by omega]
        exact h3
def cle (at_ : Int) : List (Int × Int) → Nat
  | [] => 0
  | p :: r => if p.2 ≤ at_ then cle at_ r + 1 else 0
theorem cle_le (at_ : Int) : ∀ l, cle at_ l ≤ l.length
  | [] => by simp [cle]
  | p :: r => by
    have := cle_le at_ r
    unfold cle
    split <;> simp <;> omega
def insR (key at_ : Int) (l : List (Int × Int)) : List (Int × Int) := l.take (cle at_ l) ++ (key, at_) :: l.drop (cle at_ l)
theorem abs_ins (key : Int) : ∀ (l : DL) (s t : Int), absF s (ins key l t) = insR key (s + t) (absF s l)
  | [], s, t => by simp [ins, absF, insR, cle]
  | (k, g) :: r, s, t => by
    unfold ins
    by_cases hg : g ≤ t
    · rw [if_pos hg]
      have ih := abs_ins key r (s + g) (t - g)
      have e : cle (s + t) (absF s ((k, g) :: r)) = cle (s + t) (absF (s + g) r) + 1 := by
        show (if s + g ≤ s + t then _ else _) = _
        rw [if_pos (by omega)]
      unfold insR
      rw [e]
      show (k, s + g) :: absF (s + g) (ins key r (t - g)) = _
      rw [ih, show s + g + (t - g) = s + t by omega]
      rfl
    · rw [if_neg hg]
      have e : cle (s + t) (absF s ((k, g) :: r)) = 0 := by
        show (if s + g ≤ s + t then _ else _) = _
        rw [if_neg (by omega)]
      unfold insR
      rw [e]
      show (key, s + t) :: (k, s + t + (g - t)) :: absF (s + t + (g - t)) r = (key, s + t) :: (k, s + g) :: absF (s + g) r
      rw [show s + t + (g - t) = s + g by omega]
theorem abs_cut : ∀ (l : DL) (i : Nat) (s : Int), absF s (cutL l i) = (absF s l).eraseIdx i
  | [], i, s => by simp [cutL, absF]
  | [(k, g)], 0, s => by simp [cutL, absF]
  | (k, g) :: (k', g') :: r, 0, s => by
    simp only [cutL, absF, List.eraseIdx_cons_zero]
    rw [show s + (g' + g) = s + g + g' by omega]
  | (k, g) :: r, i + 1, s => by
    have e : cutL ((k, g) :: r) (i + 1) = (k, g) :: cutL r i := by cases r <;> rfl
    rw [e]
    simp only [absF, List.eraseIdx_cons_succ]
    rw [abs_cut r i (s + g)]
theorem abs_ge : ∀ (l : DL) (s : Int), (∀ p ∈ l, 0 ≤ p.2) → ∀ q ∈ absF s l, s ≤ q.2
  | [], s, h, q, hq => by simp [absF] at hq
  | (k, g) :: r, s, h, q, hq => by
    have h1 := h (k, g) (by simp)
    simp only at h1
    rcases List.mem_cons.1 hq with hq | hq
    · subst hq; show s ≤ s + g; omega
    · have := abs_ge r (s + g) (fun p hp => h p (by simp [hp])) q hq
      omega
theorem abs_shift : ∀ (l : DL) (s t : Int), absF (s - t) l = (absF s l).map fun p => (p.1, p.2 - t)
  | [], s, t => rfl
  | (k, g) :: r, s, t => by
    have := abs_shift r (s + g) t
    simp only [absF, List.map_cons]
    rw [← this, show s - t + g = s + g - t by omega]
def dueR (t : Int) (l : List (Int × Int)) : List Int := (l.filter fun p => decide (p.2 ≤ t)).map (·.1)
def leftR (t : Int) (l : List (Int × Int)) : List (Int × Int) := (l.filter fun p => !decide (p.2 ≤ t)).map fun p => (p.1, p.2 - t)
theorem abs_adv : ∀ (l : DL) (s t : Int), (∀ p ∈ l, 0 ≤ p.2) → (adv (t - s) l).1 = dueR t (absF s l) ∧ absF 0 (adv (t - s) l).2 = leftR t (absF s l)
  | [], s, t, h => ⟨rfl, rfl⟩
  | (k, g) :: r, s, t, h => by
    have h1 := h (k, g) (by simp)
    simp only at h1
    have hr : ∀ p ∈ r, 0 ≤ p.2 := fun p hp => h p (by simp [hp])
    have ih := abs_adv r (s + g) t hr
    by_cases hg : g ≤ t - s
    · rw [show adv (t - s) ((k, g) :: r) = (k :: (adv (t - s - g) r).1, (adv (t - s - g) r).2) from if_pos hg]
      rw [show t - (s + g) = t - s - g by omega] at ih
      have hd : decide (s + g ≤ t) = true := by simp; omega
      simp only [dueR, leftR, absF, List.filter_cons, hd, if_true, Bool.not_true, Bool.false_eq_true, if_false, List.map_cons]
      exact ⟨by rw [ih.1]; rfl, ih.2⟩
    · rw [show adv (t - s) ((k, g) :: r) = ([], (k, g - (t - s)) :: r) from if_neg hg]
      have hall : ∀ q ∈ absF s ((k, g) :: r), ¬ q.2 ≤ t := by
        intro q hq
        rcases List.mem_cons.1 hq with hq | hq
        · subst hq; show ¬ s + g ≤ t; omega
        · have := abs_ge r (s + g) hr q hq
          omega
      have hf1 : (absF s ((k, g) :: r)).filter (fun p => decide (p.2 ≤ t)) = [] := by
        rw [List.filter_eq_nil_iff]
        intro q hq
        simpa using hall q hq
      have hf2 : (absF s ((k, g) :: r)).filter (fun p => !decide (p.2 ≤ t)) = absF s ((k, g) :: r) := by
        rw [List.filter_eq_self]
        intro q hq
        simpa using hall q hq
      unfold dueR leftR
      rw [hf1, hf2]
      refine ⟨rfl, ?_⟩
      have := abs_shift ((k, g) :: r) s t
      rw [← this]
      simp only [absF]
      rw [show (0 : Int) + (g - (t - s)) = s - t + g by omega]
section
variable {h0 h : Hp} {R X : List As} {d : Nat} {r : Sl} {rows : List (Int × Int)}
theorem find2 {key : Int} (hn : rows.length ≤ 1000) : ∀ (e k : Nat) (h : Hp), k + e = rows.length → Sep h0 h (aRow encP 2 r rows :: R) →
    K_signalboxref04_List_Find_2 key r (r.n : Int) (k : Int) h (fun v h' => v = .int .i64 (fidx key (rows.drop k) k) ∧ Sep h0 h' (aRow encP 2 r rows :: R))
  | 0, k, h, hk, hs => by
    have hrn := hs.rowLen 0 rfl
    apply S_signalboxref04_List_Find_2
    unfold B_signalboxref04_List_Find_2
    refine mIf_neg (by simp; omega) ?_
    rw [List.drop_of_length_le (by omega)]
    exact ⟨rfl, hs⟩
  | e + 1, k, h, hk, hs => by
    have ih := find2 (key := key) hn e (k + 1)
    have hrn := hs.rowLen 0 rfl
    have hkl : k < rows.length := by omega
    rw [List.drop_eq_getElem_cons hkl]
    apply S_signalboxref04_List_Find_2
    unfold B_signalboxref04_List_Find_2
    refine mIf_pos (by simp; omega) ?_
    ((refine Sep.idx hs 0 rfl (by first | omega | (simp only [List.length_set, List.length_map, List.length_replicate, List.length_append, List.length_cons, List.length_nil, List.length_reverse, List.length_range]; omega) | (simp; omega)) (by first | omega | (simp only [List.length_set, List.length_map, List.length_replicate, List.length_append, List.length_cons, List.length_nil, List.length_reverse, List.length_range]; omega) | (simp; omega)) fun aa haa => ?_; try simp only [Int.toNat_natCast] at haa); refine Sep.rldI0 hs 0 rfl (fun _ => rfl) haa (List.getElem?_eq_getElem (by first | omega | (simp only [List.length_set, List.length_map, List.length_replicate, List.length_append, List.length_cons, List.length_nil, List.length_reverse, List.length_range]; omega) | (simp; omega))) rfl ?_; refine Sep.rldI hs 0 rfl (fun _ => rfl) haa (List.getElem?_eq_getElem (by first | omega | (simp only [List.length_set, List.length_map, List.length_replicate, List.length_append, List.length_cons, List.length_nil, List.length_reverse, List.length_range]; omega) | (simp; omega))) rfl ?_; (refine Sep.new hs fun nb h hs => ?_; try simp only [List.toList_toArray] at hs); (refine Sep.st hs 0 rfl rfl rfl fun h hs => ?_; simp only [List.set_cons_zero, List.set_cons_succ] at hs); (refine Sep.st hs 0 rfl rfl rfl fun h hs => ?_; simp only [List.set_cons_zero, List.set_cons_succ] at hs); refine Sep.ldI hs 0 rfl rfl ?_)
    rw [wrap64 ((k : Int) + 1) (by omega), show ((k : Int) + 1) = ((k + 1 : Nat) : Int) by omega]
    unfold fidx
    refine mIf_intro (fun hc => ?_) (fun hc => ?_)
    · rw [if_pos (by simpa using hc)]
      exact ⟨rfl, hs.drop⟩
    · rw [if_neg (by simpa using hc)]
      exact ih _ (by omega) hs.drop
theorem Find_s {key : Int} (hn : rows.length ≤ 1000) (hs : Sep h0 h (aRow encP 2 r rows :: R)) : N_signalboxref04_List_Find r key h (fun v h' => v = .int .i64 (fidx key rows 0) ∧ Sep h0 h' (aRow encP 2 r rows :: R)) := by
  apply S_signalboxref04_List_Find
  unfold B_signalboxref04_List_Find
  exact find2 hn rows.length 0 h (Nat.zero_add _) hs
theorem app_view {x s : Sl} {lo m : Nat} {ys : List (Int × Int)} {L : List As} {α : Type} {Q : α → Hp → Prop} {K : Sl → M α} (hs : Sep h0 h L) (k k2 : Nat) (hk : L[k]? = some (aRow encP 2 s ys)) (hk2 : L[k2]? = some (aRow encP 2 r rows)) (hv : Vw r x 2 lo) (hm : x.n = m) (hlo : lo + m ≤ rows.length) (hn : ys.length + rows.length ≤ 100000)
    (hK : ∀ s' h', Sep h0 h' (L.set k (aRow encP 2 s' (ys ++ (rows.drop lo).take m))) → K s' h' Q) : mApp 55 2 16 #[.int .i64 (0 : Int), .int .i64 (0 : Int)] s x K h Q := by
  have hc := hs.vcells k2 (x := x) (m := x.n) hk2 (fun _ => rfl) hv (Nat.le_refl _) (by omega)
  rw [hm] at hc
  refine hs.app_ k ((rows.drop lo).take m) hk (fun _ => rfl) (by rw [hm]; exact hc) (by rw [hm, List.length_take, List.length_drop]; omega) (by intro v hv; obtain ⟨w, _, hw⟩ := List.mem_flatMap.1 hv; exact encP_one w v hw) rfl (by omega) (by rw [List.length_take, List.length_drop]; omega) fun s' h' _ hs => hK s' h' hs
theorem rput2 {key at_ : Int} (hn : rows.length ≤ 1000) : ∀ (e k : Nat) (h : Hp), k + e = rows.length → k + cle at_ (rows.drop k) = cle at_ rows → Sep h0 h (aRow encP 2 r rows :: R) →
    K_signalboxref04_List_Put_2 r key at_ (k : Int) h (fun v h' => ∃ o : Sl, v = .slice o.p o.n o.c ∧ Sep h0 h' (aRow encP 2 o (insR key at_ rows) :: R)) := by
  have stop : ∀ (k : Nat) (h : Hp), k = cle at_ rows → Sep h0 h (aRow encP 2 r rows :: R) → (mSlc r 2 (0 : Int) (k : Int) (r.c : Int) fun (x26 : Sl) =>
    mSlc r 2 (k : Int) (r.n : Int) (r.c : Int) fun (x35 : Sl) =>
    mAnd (
      mNew #[] 55 fun (x23_12 : Addr) =>
      mAnd (
        mApp 55 2 16 #[.int .i64 (0 : Int), .int .i64 (0 : Int)] ⟨(some x23_12), 0, 0⟩ x26 fun (x27_17 : Sl) =>
        mNew #[.int .i64 key, .int .i64 at_] 55 fun (x31_18 : Addr) =>
        mApp 55 2 16 #[.int .i64 (0 : Int), .int .i64 (0 : Int)] x27_17 ⟨(some x31_18), 1, 1⟩ fun (x32_19 : Sl) =>
        mApp 55 2 16 #[.int .i64 (0 : Int), .int .i64 (0 : Int)] x32_19 x35 fun (x36_20 : Sl) =>
        mRet (Value.slice x36_20.p x36_20.n x36_20.c)) (
        mNew #[.int .i64 key, .int .i64 at_] 55 fun (x31_13 : Addr) =>
        mApp 55 2 16 #[.int .i64 (0 : Int), .int .i64 (0 : Int)] ⟨(some x23_12), 0, 0⟩ x26 fun (x27_14 : Sl) =>
        mApp 55 2 16 #[.int .i64 (0 : Int), .int .i64 (0 : Int)] x27_14 ⟨(some x31_13), 1, 1⟩ fun (x32_15 : Sl) =>
        mApp 55 2 16 #[.int .i64 (0 : Int), .int .i64 (0 : Int)] x32_15 x35 fun (x36_16 : Sl) =>
        mRet (Value.slice x36_16.p x36_16.n x36_16.c))) (
      mNew #[.int .i64 key, .int .i64 at_] 55 fun (x31 : Addr) =>
      mNew #[] 55 fun (x23 : Addr) =>
      mApp 55 2 16 #[.int .i64 (0 : Int), .int .i64 (0 : Int)] ⟨(some x23), 0, 0⟩ x26 fun (x27 : Sl) =>
      mApp 55 2 16 #[.int .i64 (0 : Int), .int .i64 (0 : Int)] x27 ⟨(some x31), 1, 1⟩ fun (x32 : Sl) =>
      mApp 55 2 16 #[.int .i64 (0 : Int), .int .i64 (0 : Int)] x32 x35 fun (x36 : Sl) =>
      mRet (Value.slice x36.p x36.n x36.c))) h (fun v h' => ∃ o : Sl, v = .slice o.p o.n o.c ∧ Sep h0 h' (aRow encP 2 o (insR key at_ rows) :: R)) := by
    intro k h hk hs
    have hrn := hs.rowLen 0 rfl
    have hrc := hs.rowCap 0 rfl
    have hkl := cle_le at_ rows
    rw [← hk] at hkl
    refine vslc (sz := 2) (by omega) (by omega) (by omega) (by omega) fun x26 hv1 hn1 _ => ?_
    refine vslc (sz := 2) (by omega) (by omega) (by omega) (by omega) fun x35 hv2 hn2 _ => ?_
    rw [show (0 : Int).toNat = 0 from rfl] at hv1 hn1
    rw [Int.toNat_natCast] at hv2 hn1 hn2
    rw [hrn, Int.toNat_natCast] at hn2
    have e1 : ([] : List (Int × Int)) ++ (rows.drop 0).take (k - 0) = rows.take k := by simp
    have e2 : rows.take k ++ [(key, at_)] ++ (rows.drop k).take (rows.length - k) = insR key at_ rows := by
      have e3 : (rows.drop k).take (rows.length - k) = rows.drop k := List.take_of_length_le (by rw [List.length_drop]; omega)
      unfold insR
      rw [← hk, e3, List.append_assoc]
      rfl
    refine mAnd_intro ?_ ?_
    · refine Sep.new hs fun nb h hs => ?_
      have hs := Blk.row (enc := encP) (xs := []) (sz := 2) (n := 0) hs 0 rfl rfl rfl
      simp only [List.set_cons_zero] at hs
      refine mAnd_intro ?_ ?_
      · refine app_view hs 0 1 rfl rfl hv1 hn1 (by omega) (by simp; omega) fun s1 h hs => ?_
        simp only [List.set_cons_zero, List.set_cons_succ] at hs
        rw [e1] at hs
        refine Sep.new hs fun kb h hs => ?_
        refine hs.app1 1 0 (key, at_) rfl rfl (fun _ => rfl) (encP_one _) rfl (by omega) (by rw [List.length_take]; omega) fun s2 h _ hs => ?_
        simp only [List.set_cons_zero, List.set_cons_succ] at hs
        refine app_view hs 1 2 rfl rfl hv2 hn2 (by omega) (by simp; omega) fun s3 h hs => ?_
        simp only [List.set_cons_zero, List.set_cons_succ] at hs
        rw [e2] at hs
        exact ⟨s3, rfl, (hs.reT 3 [1, 0, 2] rfl (by simp)).swap.drop.swap.drop⟩
      · refine Sep.new hs fun kb h hs => ?_
        refine app_view hs 1 2 rfl rfl hv1 hn1 (by omega) (by simp; omega) fun s1 h hs => ?_
        simp only [List.set_cons_zero, List.set_cons_succ] at hs
        rw [e1] at hs
        refine hs.app1 1 0 (key, at_) rfl rfl (fun _ => rfl) (encP_one _) rfl (by omega) (by rw [List.length_take]; omega) fun s2 h _ hs => ?_
        simp only [List.set_cons_zero, List.set_cons_succ] at hs
        refine app_view hs 1 2 rfl rfl hv2 hn2 (by omega) (by simp; omega) fun s3 h hs => ?_
        simp only [List.set_cons_zero, List.set_cons_succ] at hs
        rw [e2] at hs
        exact ⟨s3, rfl, (hs.reT 3 [1, 0, 2] rfl (by simp)).swap.drop.swap.drop⟩
    · refine Sep.new hs fun kb h hs => ?_
      refine Sep.new hs fun nb h hs => ?_
      have hs := Blk.row (enc := encP) (xs := []) (sz := 2) (n := 0) hs 0 rfl rfl rfl
      simp only [List.set_cons_zero] at hs
      refine app_view hs 0 2 rfl rfl hv1 hn1 (by omega) (by simp; omega) fun s1 h hs => ?_
      simp only [List.set_cons_zero, List.set_cons_succ] at hs
      rw [e1] at hs
      refine hs.app1 0 1 (key, at_) rfl rfl (fun _ => rfl) (encP_one _) rfl (by omega) (by rw [List.length_take]; omega) fun s2 h _ hs => ?_
      simp only [List.set_cons_zero, List.set_cons_succ] at hs
      refine app_view hs 0 2 rfl rfl hv2 hn2 (by omega) (by simp; omega) fun s3 h hs => ?_
      simp only [List.set_cons_zero, List.set_cons_succ] at hs
      rw [e2] at hs
      exact ⟨s3, rfl, hs.swap.drop.swap.drop⟩
  intro e
  induction e with
  | zero =>
    intro k h hk hc hs
    have hrn := hs.rowLen 0 rfl
    apply S_signalboxref04_List_Put_2
    unfold B_signalboxref04_List_Put_2
    rw [mBind_ap]
    refine mIf_neg (by simp; omega) ?_
    rw [mRet_ap]
    refine mIf_neg rfl ?_
    rw [List.drop_of_length_le (by omega)] at hc
    exact stop k h (by simpa [cle] using hc) hs
  | succ e ih =>
    intro k h hk hc hs
    have hrn := hs.rowLen 0 rfl
    have hkl : k < rows.length := by omega
    rw [List.drop_eq_getElem_cons hkl] at hc
    rw [show cle at_ (rows[k] :: rows.drop (k + 1)) = if rows[k].2 ≤ at_ then cle at_ (rows.drop (k + 1)) + 1 else 0 from rfl] at hc
    apply S_signalboxref04_List_Put_2
    unfold B_signalboxref04_List_Put_2
    rw [mBind_ap]
    refine mIf_pos (by simp; omega) ?_
    ((refine Sep.idx hs 0 rfl (by first | omega | (simp only [List.length_set, List.length_map, List.length_replicate, List.length_append, List.length_cons, List.length_nil, List.length_reverse, List.length_range]; omega) | (simp; omega)) (by first | omega | (simp only [List.length_set, List.length_map, List.length_replicate, List.length_append, List.length_cons, List.length_nil, List.length_reverse, List.length_range]; omega) | (simp; omega)) fun aa haa => ?_; try simp only [Int.toNat_natCast] at haa); refine Sep.rldI hs 0 rfl (fun _ => rfl) haa (List.getElem?_eq_getElem (by first | omega | (simp only [List.length_set, List.length_map, List.length_replicate, List.length_append, List.length_cons, List.length_nil, List.length_reverse, List.length_range]; omega) | (simp; omega))) rfl ?_; rw [mRet_ap])
    refine mIf_dec (fun hc1 => ?_) (fun hc1 => ?_)
    · rw [if_pos hc1] at hc
      rw [wrap64 ((k : Int) + 1) (by omega), show ((k : Int) + 1) = ((k + 1 : Nat) : Int) by omega]
      exact ih (k + 1) h (by omega) (by omega) hs
    · rw [if_neg hc1] at hc
      exact stop k h (by omega) hs
theorem rPut_s {key at_ : Int} (hn : rows.length ≤ 1000) (hs : Sep h0 h (aRow encP 2 r rows :: R)) : N_signalboxref04_List_Put r key at_ h (fun v h' => ∃ o : Sl, v = .slice o.p o.n o.c ∧ Sep h0 h' (aRow encP 2 o (insR key at_ rows) :: R)) := by
  apply S_signalboxref04_List_Put
  unfold B_signalboxref04_List_Put
  exact rput2 hn rows.length 0 h (Nat.zero_add _) (by rw [List.drop_zero, Nat.zero_add]) hs
theorem rDrop_s {i : Nat} (hi : i < rows.length) (hn : rows.length ≤ 1000) (hs : Sep h0 h (aRow encP 2 r rows :: R)) : N_signalboxref04_List_Drop r (i : Int) h (fun v h' => ∃ o : Sl, v = .slice o.p o.n o.c ∧ Sep h0 h' (aRow encP 2 o (rows.eraseIdx i) :: R)) := by
  have hrn := hs.rowLen 0 rfl
  have hrc := hs.rowCap 0 rfl
  apply S_signalboxref04_List_Drop
  unfold B_signalboxref04_List_Drop
  rw [wrap64 ((i : Int) + 1) (by omega)]
  refine vslc (sz := 2) (by omega) (by omega) (by omega) (by omega) fun x8 hv1 hn1 _ => ?_
  refine vslc (sz := 2) (by omega) (by omega) (by omega) (by omega) fun x13 hv2 hn2 _ => ?_
  rw [show (0 : Int).toNat = 0 from rfl] at hv1 hn1
  rw [show ((i : Int) + 1).toNat = i + 1 by omega] at hv2 hn2
  rw [Int.toNat_natCast] at hn1
  rw [hrn, Int.toNat_natCast] at hn2
  refine Sep.new hs fun nb h hs => ?_
  have hs := Blk.row (enc := encP) (xs := []) (sz := 2) (n := 0) hs 0 rfl rfl rfl
  simp only [List.set_cons_zero] at hs
  refine app_view hs 0 1 rfl rfl hv1 hn1 (by omega) (by simp; omega) fun s1 h hs => ?_
  simp only [List.set_cons_zero, List.set_cons_succ] at hs
  refine app_view hs 0 1 rfl rfl hv2 hn2 (by omega) (by simp; omega) fun s2 h hs => ?_
  simp only [List.set_cons_zero, List.set_cons_succ] at hs
  refine ⟨s2, rfl, ?_⟩
  have e : ([] : List (Int × Int)) ++ (rows.drop 0).take (i - 0) ++ (rows.drop (i + 1)).take (rows.length - (i + 1)) = rows.eraseIdx i := by
    have e3 : (rows.drop (i + 1)).take (rows.length - (i + 1)) = rows.drop (i + 1) := List.take_of_length_le (by rw [List.length_drop]; omega)
    rw [e3, List.nil_append, List.drop_zero, Nat.sub_zero, List.eraseIdx_eq_take_drop_succ]
  rw [e] at hs
  exact hs.swap.drop
theorem radv4 {t : Int} (ht : 0 ≤ t) (hn : rows.length ≤ 1000) (hb : ∀ p ∈ rows, 0 ≤ p.2 ∧ p.2 ≤ 16777216) : ∀ (e k : Nat) (lf du : Sl) (h : Hp), k + e = rows.length → Sep h0 h (aRow encP 2 r rows :: aRow encP 2 lf (leftR t (rows.take k)) :: aRow encI 1 du (dueR t (rows.take k)) :: R) →
    K_signalboxref04_List_Advance_4 t lf du r (r.n : Int) (k : Int) h (fun v h' => ∃ o u : Sl, v = .tuple #[.slice o.p o.n o.c, .slice u.p u.n u.c] ∧ Sep h0 h' (aRow encP 2 o (leftR t rows) :: aRow encI 1 u (dueR t rows) :: R))
  | 0, k, lf, du, h, hk, hs => by
    have hrn := hs.rowLen 0 rfl
    apply S_signalboxref04_List_Advance_4
    unfold B_signalboxref04_List_Advance_4
    refine mIf_neg (by simp; omega) ?_
    rw [List.take_of_length_le (by omega)] at hs
    exact ⟨lf, du, rfl, hs.drop⟩
  | e + 1, k, lf, du, h, hk, hs => by
    have ih := radv4 ht hn hb e (k + 1)
    have hrn := hs.rowLen 0 rfl
    have hkl : k < rows.length := by omega
    have hbk := hb _ (List.getElem_mem hkl)
    have hlf : (leftR t (rows.take k)).length ≤ 1000 := by
      unfold leftR
      rw [List.length_map]
      have := List.length_filter_le (fun p : Int × Int => !decide (p.2 ≤ t)) (rows.take k)
      rw [List.length_take] at this
      omega
    have hdf : (dueR t (rows.take k)).length ≤ 1000 := by
      unfold dueR
      rw [List.length_map]
      have := List.length_filter_le (fun p : Int × Int => decide (p.2 ≤ t)) (rows.take k)
      rw [List.length_take] at this
      omega
    have hl : leftR t (rows.take (k + 1)) = if rows[k].2 ≤ t then leftR t (rows.take k) else leftR t (rows.take k) ++ [(rows[k].1, rows[k].2 - t)] := by
      unfold leftR
      rw [List.take_succ_eq_append_getElem hkl, List.filter_append, List.map_append]
      by_cases hc : rows[k].2 ≤ t
      · simp [hc]
      · simp [hc]
    have hd : dueR t (rows.take (k + 1)) = if rows[k].2 ≤ t then dueR t (rows.take k) ++ [rows[k].1] else dueR t (rows.take k) := by
      unfold dueR
      rw [List.take_succ_eq_append_getElem hkl, List.filter_append, List.map_append]
      by_cases hc : rows[k].2 ≤ t
      · simp [hc]
      · simp [hc]
    apply S_signalboxref04_List_Advance_4
    unfold B_signalboxref04_List_Advance_4
    refine mIf_pos (by simp; omega) ?_
    rw [wrap64 ((k : Int) + 1) (by omega), show ((k : Int) + 1) = ((k + 1 : Nat) : Int) by omega]
    ((refine Sep.idx hs 0 rfl (by first | omega | (simp only [List.length_set, List.length_map, List.length_replicate, List.length_append, List.length_cons, List.length_nil, List.length_reverse, List.length_range]; omega) | (simp; omega)) (by first | omega | (simp only [List.length_set, List.length_map, List.length_replicate, List.length_append, List.length_cons, List.length_nil, List.length_reverse, List.length_range]; omega) | (simp; omega)) fun aa haa => ?_; try simp only [Int.toNat_natCast] at haa); refine Sep.rldI0 hs 0 rfl (fun _ => rfl) haa (List.getElem?_eq_getElem (by first | omega | (simp only [List.length_set, List.length_map, List.length_replicate, List.length_append, List.length_cons, List.length_nil, List.length_reverse, List.length_range]; omega) | (simp; omega))) rfl ?_; refine Sep.rldI hs 0 rfl (fun _ => rfl) haa (List.getElem?_eq_getElem (by first | omega | (simp only [List.length_set, List.length_map, List.length_replicate, List.length_append, List.length_cons, List.length_nil, List.length_reverse, List.length_range]; omega) | (simp; omega))) rfl ?_; (refine Sep.new hs fun nb h hs => ?_; try simp only [List.toList_toArray] at hs); (refine Sep.st hs 0 rfl rfl rfl fun h hs => ?_; simp only [List.set_cons_zero, List.set_cons_succ] at hs); (refine Sep.st hs 0 rfl rfl rfl fun h hs => ?_; simp only [List.set_cons_zero, List.set_cons_succ] at hs); refine Sep.ldI hs 0 rfl rfl ?_; simp only [add_mk, Nat.zero_add])
    refine mIf_dec (fun hc => ?_) (fun hc => ?_)
    · rw [if_pos hc] at hl hd
      (refine Sep.ldI hs 0 rfl rfl ?_; (refine Sep.new hs fun nb_1 h hs => ?_; try simp only [List.toList_toArray] at hs); (refine Sep.app1 hs 4 0 _ rfl rfl (fun _ => rfl) (by simp [Value.oneCell']) rfl (by omega) (by first | omega | (simp only [List.length_set, List.length_map, List.length_replicate, List.length_append, List.length_cons, List.length_nil, List.length_reverse, List.length_range]; omega) | (simp; omega)) fun sl h hn_sl hs => ?_; simp only [List.set_cons_zero, List.set_cons_succ] at hs))
      rw [← hd] at hs
      rw [← hl] at hs
      exact ih _ _ _ (by omega) hs.drop.drop
    · rw [if_neg hc] at hl hd
      refine hs.ldI 0 rfl rfl ?_
      refine hs.ldI 0 rfl rfl ?_
      rw [wrap64 (rows[k].2 - t) (by omega)]
      refine Sep.new hs fun nb2 h hs => ?_
      refine hs.app1 3 0 (rows[k].1, rows[k].2 - t) rfl rfl (fun _ => rfl) (encP_one _) rfl (by omega) (by omega) fun s2 h _ hs => ?_
      simp only [List.set_cons_zero, List.set_cons_succ] at hs
      rw [← hl, ← hd] at hs
      exact ih _ _ _ (by omega) hs.drop.drop
theorem rAdvance_s {t : Int} (ht : 0 ≤ t) (hn : rows.length ≤ 1000) (hb : ∀ p ∈ rows, 0 ≤ p.2 ∧ p.2 ≤ 16777216) (hs : Sep h0 h (aRow encP 2 r rows :: R)) : N_signalboxref04_List_Advance r t h (fun v h' => ∃ o u : Sl, v = .tuple #[.slice o.p o.n o.c, .slice u.p u.n u.c] ∧ Sep h0 h' (aRow encP 2 o (leftR t rows) :: aRow encI 1 u (dueR t rows) :: R)) := by
  apply S_signalboxref04_List_Advance
  unfold B_signalboxref04_List_Advance
  have hs := (hs.nilRow encI 1).nilRow encP 2
  exact radv4 ht hn hb rows.length 0 _ _ h (Nat.zero_add _) (hs.reT 3 [2, 0, 1] rfl (by simp))
end
end Go.Proofs.Ytinjifhjjkdmoaa
