/- More rules: views of rows, copying, rows of rows. Conditions: none. -/
import Derived.Test.YtbpnpmknamghkaaSbS
namespace Go.Sb
open Go

theorem RdT.slice {P : Program} {h : Hp} {t e : TypeId} {d : Nat} {cs : List Value} (hu : P.underlying t = some (.slice e)) (hr : RdT P h (d + 1) t cs) : ∃ s : Sl, cs = [.slice s.p s.n s.c] := by
  unfold RdT at hr
  rw [hu] at hr
  simp only [] at hr
  rcases hr with h0 | ⟨ad, l, c, hcs, _⟩
  · exact ⟨⟨none, 0, 0⟩, h0⟩
  · exact ⟨⟨some ad, l, c⟩, hcs⟩
theorem RdE.mono {X : Type} {B B' : Nat} {h : Hp} {enc : X → List Value} {sz : Nat} {s : Sl} {xs : List X} (hr : RdE B h enc sz s xs) (hB : B ≤ B') : RdE B' h enc sz s xs :=
  ⟨hr.n, fun i x hx => by
    obtain ⟨a, h1, h2, h3⟩ := hr.at_ i x hx
    exact ⟨a, h1, Nat.lt_of_lt_of_le h2 hB, h3⟩⟩
theorem RdI.mono {B B' : Nat} {h : Hp} {k : IntKind} {s : Sl} {zs : List Int} (hr : RdI B h k s zs) (hB : B ≤ B') : RdI B' h k s zs :=
  ⟨hr.n, fun i x hx => by
    obtain ⟨a, h1, h2, h3⟩ := hr.at_ i x hx
    exact ⟨a, h1, Nat.lt_of_lt_of_le h2 hB, h3⟩, hr.wf⟩
theorem Addr.add_add' (a : Addr) (i j : Nat) : (a.add i).add j = a.add (i + j) := by
  unfold Addr.add
  by_cases hi : i = 0
  · subst hi; simp
  · by_cases hj : j = 0
    · subst hj; simp [hi]
    · simp [hi, hj, Nat.add_assoc]
/-- what an argument's cells hold -/
theorem RdE.cells {X : Type} {B : Nat} {h : Hp} {enc : X → List Value} {sz : Nat} {s : Sl} {xs : List X} (hr : RdE B h enc sz s xs) (hl : ∀ x, (enc x).length = sz) : slcells h s s.n sz = some (xs.flatMap enc) := by
  unfold slcells
  cases hp : s.p with
  | none =>
    cases xs with
    | nil => rfl
    | cons x xs =>
      obtain ⟨a, h1, _⟩ := hr.at_ 0 x rfl
      rw [hp] at h1; cases h1
  | some a =>
    have hat : ∀ i x, xs[i]? = some x → ∀ j v, (enc x)[j]? = some v → hcell h (a.add (i * sz + j)) = some v := by
      intro i x hx j v hv
      obtain ⟨a', h1, _, h3⟩ := hr.at_ i x hx
      rw [hp] at h1
      obtain rfl := Option.some.inj h1
      rw [← Addr.add_add']
      exact h3 j v hv
    have key : ∀ (vs : List Value) (o : Nat), (∀ j v, vs[j]? = some v → hcell h (a.add (o + j)) = some v) → hcells h a o vs.length = some vs := by
      intro vs
      induction vs with
      | nil => intro o _; rfl
      | cons v vs ih =>
        intro o ho
        rw [List.length_cons, hcells]
        have h1 := ho 0 v rfl
        rw [Nat.add_zero] at h1
        rw [h1, ih (o + 1) fun j w hw => by have := ho (j + 1) w (by simpa using hw); rwa [show o + (j + 1) = o + 1 + j by omega] at this]
    have hfl := flat_length hl xs
    simp only []
    rw [hr.n, ← hfl]
    refine key _ 0 fun j v hv => ?_
    rw [Nat.zero_add]
    have hj := (List.getElem?_eq_some_iff.1 hv).1
    rw [hfl] at hj
    have hsz : 0 < sz := by
      rcases Nat.eq_zero_or_pos sz with h0 | h0
      · rw [h0, Nat.mul_zero] at hj; omega
      · exact h0
    have hd : j / sz < xs.length := Nat.div_lt_of_lt_mul (by rw [Nat.mul_comm]; exact hj)
    have hm := Nat.mod_lt j hsz
    have hjj : j = (j / sz) * sz + j % sz := by rw [Nat.mul_comm]; exact (Nat.div_add_mod j sz).symm
    have hx : xs[j / sz]? = some xs[j / sz] := List.getElem?_eq_getElem hd
    have hg := flat_get hl xs (j / sz) (j % sz) _ hx hm
    rw [← hjj, hv] at hg
    have := hat _ _ hx (j % sz) v hg.symm
    rwa [← hjj] at this
/-- arguments, at a later call -/
theorem RdE.now {X : Type} {h0 h : Hp} {L : List As} {enc : X → List Value} {sz : Nat} {s : Sl} {xs : List X} (hr : RdE h0.size h0 enc sz s xs) (hs : Sep h0 h L) : RdE h.size h enc sz s xs :=
  (hr.under hs.under).mono hs.under.size
theorem RdI.now {h0 h : Hp} {L : List As} {k : IntKind} {s : Sl} {zs : List Int} (hr : RdI h0.size h0 k s zs) (hs : Sep h0 h L) : RdI h.size h k s zs :=
  (hr.under hs.under).mono hs.under.size
/-- a row of one's own is an argument of a callee's -/
theorem Sep.rowE {X : Type} {h0 h : Hp} {L : List As} {enc : X → List Value} {sz : Nat} {s : Sl} {xs : List X} (hs : Sep h0 h L) (k : Nat) (hk : L[k]? = some (aRow enc sz s xs)) (hl : ∀ x, (enc x).length = sz) (hsz : 0 < sz) : RdE h.size h enc sz s xs := by
  refine ⟨hs.rowLen k hk, fun i x hx => ?_⟩
  obtain ⟨F, hF, _⟩ := hs.holds k hk
  have hc : ∀ a, At s a i sz → ∀ j v, (enc x)[j]? = some v → hcell h (a.add j) = some v := fun a ha j v hv => (hs.rcell k hk hl ha hx hv).1
  unfold aRow at hF
  obtain ⟨h1, h2⟩ := hF
  have hlt := (List.getElem?_eq_some_iff.1 hx).1
  rcases h2 with ⟨hn, hc, _⟩ | ⟨b, o, pre, rest, e1, rfl, e3, e4, e5, e6⟩
  · omega
  · exact ⟨_, e1, e3.lt, fun j v hv => hc _ ⟨_, e1, rfl⟩ j v hv⟩
theorem Sep.rowI {h0 h : Hp} {L : List As} {k : IntKind} {s : Sl} {zs : List Int} (hs : Sep h0 h L) (i : Nat) (hk : L[i]? = some (aRow (fun z => [.int k z]) 1 s zs)) (hwf : ∀ z ∈ zs, k.min ≤ z ∧ z ≤ k.max) : RdI h.size h k s zs := by
  have hr := hs.rowE i hk (fun _ => rfl) (Nat.zero_lt_one)
  refine ⟨hr.n, fun i x hx => ?_, hwf⟩
  obtain ⟨a, h1, h2, h3⟩ := hr.at_ i x hx
  refine ⟨a, h1, h2, ?_⟩
  have := h3 0 _ rfl
  rw [Addr.add_zero'] at this
  simpa using this
theorem RdT.len {P : Program} {h : Hp} {t e : TypeId} {d : Nat} {a : Option Addr} {len cap : Nat} (hu : P.underlying t = some (.slice e)) (hr : RdT P h (d + 1) t [.slice a len cap]) : (len : Int) ≤ 9223372036854775807 := by
  unfold RdT at hr
  rw [hu] at hr
  simp only [] at hr
  rcases hr with h0 | ⟨ad, l, c, hcs, h1, h2, _⟩
  · simp only [List.cons.injEq, Value.slice.injEq, and_true] at h0
    omega
  · simp only [List.cons.injEq, Value.slice.injEq, and_true] at hcs
    have : maxLen ≤ 9223372036854775807 := by decide
    omega
theorem Sep.only {h0 h : Hp} {a : As} {X : List As} (hs : Sep h0 h (a :: X)) : Sep h0 h [a] := by
  induction X with
  | nil => exact hs
  | cons x X ih => exact ih hs.swap.drop
/-- the first n in another order -/
theorem Sep.reT {h0 h : Hp} {L : List As} (n : Nat) (hs : Sep h0 h L) (is : List Nat) (hp : is.isPerm (List.range n) = true) (hn : n ≤ L.length) : Sep h0 h (is.filterMap (L[·]?) ++ L.drop n) := by
  refine hs.perm ?_
  have h1 : (is.filterMap (L[·]?)).Perm ((List.range n).filterMap (L[·]?)) := (List.isPerm_iff.1 hp).filterMap _
  have h2 : ∀ (L : List As) (n : Nat), n ≤ L.length → (List.range n).filterMap (L[·]?) = L.take n := by
    intro L
    induction L with
    | nil => intro n hn; simp at hn; subst hn; rfl
    | cons x l ih =>
      intro n hn
      cases n with
      | zero => rfl
      | succ n =>
        rw [List.range_succ_eq_map, List.filterMap_cons]
        simp only [List.getElem?_cons_zero, List.filterMap_map, Function.comp_def, List.getElem?_cons_succ]
        rw [ih n (by simpa using hn)]
        rfl
  rw [h2 L n hn] at h1
  have := (h1.symm.append_right (L.drop n))
  rwa [List.take_append_drop] at this
/-! ### views -/
/-- x is a part of s, from element lo on -/
def Vw (s x : Sl) (sz lo : Nat) : Prop := x.p = s.p.map (·.add (lo * sz)) ∨ x.n = 0
section view
variable {α : Type} {h0 h : Hp} {L : List As} {Q : α → Hp → Prop} {X : Type} {enc : X → List Value} {sz : Nat} {s x d : Sl} {xs : List X}
theorem vslc {lo hi mx : Int} {K : Sl → M α} (h1 : 0 ≤ lo) (h2 : lo ≤ hi) (h3 : hi ≤ mx) (h4 : mx ≤ s.c) (hK : ∀ x : Sl, Vw s x sz lo.toNat → x.n = hi.toNat - lo.toNat → x.c = mx.toNat - lo.toNat → K x h Q) : mSlc s sz lo hi mx K h Q := by
  refine ⟨h1, h2, h3, h4, hK _ ?_ rfl rfl⟩
  by_cases hz : mx.toNat = lo.toNat
  · right
    show hi.toNat - lo.toNat = 0
    omega
  · left
    simp only [if_neg hz]
theorem Vw.refl (s : Sl) (sz : Nat) : Vw s s sz 0 := by
  left
  cases s.p with
  | none => rfl
  | some a => simp [Addr.add_zero']
theorem Sep.vcells (hs : Sep h0 h L) (k : Nat) {lo m : Nat} (hk : L[k]? = some (aRow enc sz s xs)) (hl : ∀ x, (enc x).length = sz) (hv : Vw s x sz lo) (hm : m ≤ x.n) (hlo : lo + m ≤ xs.length) : slcells h x m sz = some (((xs.drop lo).take m).flatMap enc) := by
  have h0' : ∀ p, slcells h ⟨p, x.n, x.c⟩ 0 sz = some [] := by
    intro p
    unfold slcells
    cases p with
    | none => rfl
    | some a => simp [hcells]
  by_cases hm0 : m = 0
  · subst hm0
    simpa using h0' x.p
  replace hv : x.p = s.p.map (·.add (lo * sz)) := by
    rcases hv with hv | hv
    · exact hv
    · omega
  obtain ⟨F, hF, _⟩ := hs.holds k hk
  unfold aRow at hF
  obtain ⟨h1, h2⟩ := hF
  rcases h2 with ⟨hn, hc, _⟩ | ⟨b, o, pre, rest, e1, rfl, e3, e4, e5, e6⟩
  · omega
  · have hfl := flat_length hl xs
    have hle : (lo + m) * sz ≤ xs.length * sz := Nat.mul_le_mul_right _ hlo
    rw [Nat.add_mul] at hle
    unfold slcells
    rw [hv, e1]
    simp only [Option.map_some, add_mk]
    rw [hcells_blk e3 _ _ 0 (by simp only [List.length_append, hfl]; omega)]
    congr 1
    rw [List.append_assoc, Nat.add_zero, ← e4, List.drop_append, List.drop_of_length_le (by omega), List.nil_append, show pre.length + lo * sz - pre.length = lo * sz by omega]
    have hspl : xs = xs.take lo ++ ((xs.drop lo).take m ++ (xs.drop lo).drop m) := by rw [List.take_append_drop, List.take_append_drop]
    have hA : ((xs.take lo).flatMap enc).length = lo * sz := by rw [flat_length hl, List.length_take, Nat.min_eq_left (by omega)]
    have hB : (((xs.drop lo).take m).flatMap enc).length = m * sz := by rw [flat_length hl, List.length_take, List.length_drop, Nat.min_eq_left (by omega)]
    conv => lhs; rw [hspl]
    rw [List.flatMap_append, List.flatMap_append, List.append_assoc, List.append_assoc, ← hA, List.drop_left' rfl, ← hB, List.take_left' rfl]
/-- cells are laid into a row, from element lo on -/
theorem Sep.vcopy (hs : Sep h0 h L) (k : Nat) {lo : Nat} {K : Int → M α} (ys : List X) (hk : L[k]? = some (aRow enc sz s xs)) (hl : ∀ x, (enc x).length = sz) (hv : Vw s d sz lo) (hx : slcells h x (min x.n d.n) sz = some (ys.flatMap enc)) (hyn : ys.length = min x.n d.n)
    (hone : ∀ v ∈ ys.flatMap enc, v.oneCell' = true) (hlo : lo + ys.length ≤ xs.length)
    (hK : ∀ h', Sep h0 h' (L.set k (aRow enc sz s (xs.take lo ++ (ys ++ xs.drop (lo + ys.length))))) → K (ys.length : Nat) h' Q) : mCopy sz d x K h Q := by
  refine ⟨_, hx, hone, ?_⟩
  rw [← hyn]
  have hfl := flat_length hl xs
  have hyl := flat_length hl ys
  have hle : (lo + ys.length) * sz ≤ xs.length * sz := Nat.mul_le_mul_right _ hlo
  rw [Nat.add_mul] at hle
  by_cases hy0 : ys = []
  · subst hy0
    have hx0 : xs.take lo ++ ([] ++ xs.drop (lo + 0)) = xs := by simp
    have hs' : Sep h0 h (L.set k (aRow enc sz s (xs.take lo ++ ([] ++ xs.drop (lo + 0))))) := by
      rw [hx0]
      exact hs.keep k hk fun F hF => hF
    have hq := hK h hs'
    cases hd : d.p with
    | none => simpa using hq
    | some a =>
      refine ⟨fun j h1 h2 => by simp at h2, ?_⟩
      simpa [hsets] using hq
  have hy1 : 0 < ys.length := by cases ys with
    | nil => exact absurd rfl hy0
    | cons y ys => simp
  obtain ⟨F, hF, _⟩ := hs.holds k hk
  unfold aRow at hF
  obtain ⟨h1, h2⟩ := hF
  rcases h2 with ⟨hn, hc, _⟩ | ⟨b, o, pre, rest, e1, rfl, e3, e4, e5, e6⟩
  · omega
  replace hv : d.p = s.p.map (·.add (lo * sz)) := by
    rcases hv with hv | hv
    · exact hv
    · omega
  rw [hv, e1]
  simp only [Option.map_some, add_mk]
  have hbl : o + lo * sz + 0 + (ys.flatMap enc).length ≤ (pre ++ xs.flatMap enc ++ rest).length := by
    simp only [List.length_append, hfl, hyl]; omega
  obtain ⟨g1, g2⟩ := hsets_blk (ys.flatMap enc) h (o + lo * sz) 0 _ e3 hbl
  refine ⟨fun j hj0 hj => ?_, hK _ (hs.updAt k hk ?_)⟩
  · rw [add_mk, e3.cell, e3.free]
    exact ⟨by rw [List.getElem?_eq_getElem (by omega)]; rfl, rfl⟩
  · unfold aRow
    rintro F ⟨_, ⟨hn0, _⟩ | ⟨b', o', pre', rest', f1, rfl, _⟩⟩
    · omega
    · rw [e1] at f1
      simp only [Option.some.injEq, Addr.mk.injEq, and_true] at f1
      obtain ⟨rfl, rfl⟩ := f1
      refine ⟨[b], ⟨by simp only [List.length_append, List.length_take, List.length_drop]; omega, .inr ⟨b, o, pre, rest, e1, rfl, ?_, e4, e5, e6⟩⟩, g2.mono fun i _ hi => by simp [hi], id, fun b hb => .inl hb⟩
      have hA : ((xs.take lo).flatMap enc).length = lo * sz := by rw [flat_length hl, List.length_take, Nat.min_eq_left (by omega)]
      have hspl : xs = xs.take lo ++ ((xs.drop lo).take ys.length ++ xs.drop (lo + ys.length)) := by rw [← List.drop_drop, List.take_append_drop, List.take_append_drop]
      have hB : (((xs.drop lo).take ys.length).flatMap enc).length = (ys.flatMap enc).length := by rw [flat_length hl, hyl, List.length_take, List.length_drop, Nat.min_eq_left (by omega)]
      have hC : xs.flatMap enc = (xs.take lo).flatMap enc ++ (((xs.drop lo).take ys.length).flatMap enc ++ (xs.drop (lo + ys.length)).flatMap enc) := by rw [← List.flatMap_append, ← List.flatMap_append, ← hspl]
      rw [Nat.add_zero, hC] at g1
      have e7 : o + lo * sz = (pre ++ (xs.take lo).flatMap enc).length := by rw [List.length_append, hA, e4]
      have e8 : pre ++ ((xs.take lo).flatMap enc ++ (((xs.drop lo).take ys.length).flatMap enc ++ (xs.drop (lo + ys.length)).flatMap enc)) ++ rest
          = (pre ++ (xs.take lo).flatMap enc) ++ ((((xs.drop lo).take ys.length).flatMap enc) ++ ((xs.drop (lo + ys.length)).flatMap enc ++ rest)) := by simp only [List.append_assoc]
      rw [e8, e7, List.take_left' rfl, ← List.drop_drop, List.drop_left' rfl, ← hB, List.drop_left' rfl] at g1
      rw [List.flatMap_append, List.flatMap_append, e7]
      simpa only [List.append_assoc] using g1
end view

/-! ### rows of rows -/
abbrev encS : Sl → List Value := fun s => [.slice s.p s.n s.c]
section grid
variable {h0 h : Hp} {R : List As} {X : Type} {enc : X → List Value} {sz : Nat} {s : Sl} {xss : List (List X)}
theorem Sep.alls' : ∀ (R L : List As), Sep h0 h (aAll L :: R) ↔ Sep h0 h (L ++ R)
  | _, [] => Sep.all_nil
  | R, x :: L => by
    rw [Sep.all]
    constructor
    · intro hs
      have h1 := (Sep.alls' (x :: R) L).1 hs.swap
      refine h1.perm ?_
      exact List.perm_middle
    · intro hs
      refine ((Sep.alls' (x :: R) L).2 (hs.perm ?_)).swap
      exact List.perm_middle.symm
theorem Sep.alls {L : List As} : Sep h0 h (aAll L :: R) ↔ Sep h0 h (L ++ R) := Sep.alls' R L
def aGrid (enc : X → List Value) (sz : Nat) (s : Sl) (xss : List (List X)) : As := aEx fun ss : List Sl => aStar (aPure (ss.length = xss.length)) (aStar (aRow encS 1 s ss) (aAll (List.zipWith (aRow enc sz) ss xss)))
theorem aGrid_iff : Sep h0 h (aGrid enc sz s xss :: R) ↔ ∃ ss : List Sl, ss.length = xss.length ∧ Sep h0 h (aRow encS 1 s ss :: aAll (List.zipWith (aRow enc sz) ss xss) :: R) := by
  unfold aGrid; rw [Sep.ex]; simp only [Sep.star, Sep.pure]
theorem Sep.gOpen (hs : Sep h0 h (aGrid enc sz s xss :: R)) (i : Nat) (hi : i < xss.length) : ∃ ss : List Sl, ∃ hl : ss.length = xss.length, Sep h0 h (aRow enc sz (ss[i]'(by omega)) (xss[i]'hi) :: aRow encS 1 s ss :: aAll ((List.zipWith (aRow enc sz) ss xss).eraseIdx i) :: R) := by
  obtain ⟨ss, hl, hs⟩ := aGrid_iff.1 hs
  refine ⟨ss, hl, ?_⟩
  have h1 := Sep.alls.1 hs.swap
  have hk : (List.zipWith (aRow enc sz) ss xss ++ aRow encS 1 s ss :: R)[i]? = some (aRow enc sz (ss[i]'(by omega)) (xss[i]'hi)) := by
    rw [List.getElem?_append_left (by simp; omega)]
    simp [List.getElem?_zipWith, hi, show i < ss.length by omega]
  have h2 := h1.at i hk
  rw [List.eraseIdx_append_of_lt_length (by simp; omega)] at h2
  have h3 : Sep h0 h ((List.zipWith (aRow enc sz) ss xss).eraseIdx i ++ (aRow enc sz (ss[i]'(by omega)) (xss[i]'hi) :: aRow encS 1 s ss :: R)) := h2.perm List.perm_middle.symm
  exact (Sep.alls.2 h3).perm (.trans (.swap _ _ _) (.cons _ (.swap _ _ _)))
theorem Sep.gClose {ss : List Sl} {i : Nat} {x : Sl} {xs : List X} (hs : Sep h0 h (aRow enc sz x xs :: aRow encS 1 s (ss.set i x) :: aAll ((List.zipWith (aRow enc sz) ss xss).eraseIdx i) :: R)) (hl : ss.length = xss.length) (hi : i < xss.length) : Sep h0 h (aGrid enc sz s (xss.set i xs) :: R) := by
  refine aGrid_iff.2 ⟨ss.set i x, by simpa using hl, ?_⟩
  have h1 : Sep h0 h (aAll ((List.zipWith (aRow enc sz) ss xss).eraseIdx i) :: aRow enc sz x xs :: aRow encS 1 s (ss.set i x) :: R) := hs.perm (.trans (.cons _ (.swap _ _ _)) (.swap _ _ _))
  have h2 := (Sep.alls.1 h1).perm List.perm_middle
  have h3 : Sep h0 h (List.zipWith (aRow enc sz) (ss.set i x) (xss.set i xs) ++ aRow encS 1 s (ss.set i x) :: R) := by
    refine Sep.perm h2 ?_
    have e : List.zipWith (aRow enc sz) (ss.set i x) (xss.set i xs) = (List.zipWith (aRow enc sz) ss xss).set i (aRow enc sz x xs) := by
      apply List.ext_getElem?
      intro j
      rw [List.getElem?_zipWith, List.getElem?_set, List.getElem?_set, List.getElem?_set]
      by_cases hij : i = j
      · subst hij
        simp [hi, hl]
      · simp [hij, List.getElem?_zipWith]
    rw [e]
    have := set_perm (x := aRow enc sz x xs) i (List.zipWith (aRow enc sz) ss xss) (by simp; omega)
    exact (this.append_right _)
  exact (Sep.alls.2 h3).swap
/-- nothing was stored -/
theorem Sep.gShut {ss : List Sl} {i : Nat} {xs : List X} (hl : ss.length = xss.length) (hi : i < xss.length) (hs : Sep h0 h (aRow enc sz (ss[i]'(by omega)) xs :: aRow encS 1 s ss :: aAll ((List.zipWith (aRow enc sz) ss xss).eraseIdx i) :: R)) : Sep h0 h (aGrid enc sz s (xss.set i xs) :: R) :=
  Sep.gClose (x := ss[i]'(by omega)) (by rw [List.set_getElem_self]; exact hs) hl hi
theorem Sep.nilRows (enc : X → List Value) (sz : Nat) (hs : Sep h0 h R) : ∀ n : Nat, Sep h0 h (List.zipWith (aRow enc sz) (List.replicate n ⟨none, 0, 0⟩) (List.replicate n []) ++ R)
  | 0 => hs
  | n + 1 => by
    rw [List.replicate_succ, List.replicate_succ, List.zipWith_cons_cons, List.cons_append]
    exact (Sep.nilRows enc sz hs n).nilRow enc sz
/-- rows that are all empty -/
theorem Sep.gNew (enc : X → List Value) (sz : Nat) {n : Nat} (hs : Sep h0 h (aRow encS 1 s (List.replicate n ⟨none, 0, 0⟩) :: R)) : Sep h0 h (aGrid enc sz s (List.replicate n []) :: R) :=
  aGrid_iff.2 ⟨List.replicate n ⟨none, 0, 0⟩, by simp, (Sep.alls.2 (Sep.nilRows enc sz hs n)).swap⟩
theorem Sep.gLen (hs : Sep h0 h (aGrid enc sz s xss :: R)) : s.n = xss.length := by
  obtain ⟨ss, hl, hs⟩ := aGrid_iff.1 hs
  have := hs.rowLen 0 rfl
  omega
section hr
variable {H Y : Type} {enc : H → List Value} {sz : Nat} {f : H → Y → As} {s : Sl} {ys : List Y}
/-- a row of handles, and what each of them owns -/
def aHR (enc : H → List Value) (sz : Nat) (f : H → Y → As) (s : Sl) (ys : List Y) : As := aEx fun hs : List H => aStar (aPure (hs.length = ys.length)) (aStar (aRow enc sz s hs) (aAll (List.zipWith f hs ys)))
theorem aHR_iff : Sep h0 h (aHR enc sz f s ys :: R) ↔ ∃ hs : List H, hs.length = ys.length ∧ Sep h0 h (aRow enc sz s hs :: aAll (List.zipWith f hs ys) :: R) := by
  unfold aHR; rw [Sep.ex]; simp only [Sep.star, Sep.pure]
theorem Sep.hOpen (hs : Sep h0 h (aHR enc sz f s ys :: R)) (i : Nat) (hi : i < ys.length) : ∃ ss : List H, ∃ hl : ss.length = ys.length, Sep h0 h (f (ss[i]'(by omega)) (ys[i]'hi) :: aRow enc sz s ss :: aAll ((List.zipWith f ss ys).eraseIdx i) :: R) := by
  obtain ⟨ss, hl, hs⟩ := aHR_iff.1 hs
  refine ⟨ss, hl, ?_⟩
  have h1 := Sep.alls.1 hs.swap
  have hk : (List.zipWith f ss ys ++ aRow enc sz s ss :: R)[i]? = some (f (ss[i]'(by omega)) (ys[i]'hi)) := by
    rw [List.getElem?_append_left (by simp; omega)]
    simp [List.getElem?_zipWith, hi, show i < ss.length by omega]
  have h2 := h1.at i hk
  rw [List.eraseIdx_append_of_lt_length (by simp; omega)] at h2
  have h3 : Sep h0 h ((List.zipWith f ss ys).eraseIdx i ++ (f (ss[i]'(by omega)) (ys[i]'hi) :: aRow enc sz s ss :: R)) := h2.perm List.perm_middle.symm
  exact (Sep.alls.2 h3).perm (.trans (.swap _ _ _) (.cons _ (.swap _ _ _)))
theorem Sep.hClose {ss : List H} {i : Nat} {x : H} {y : Y} (hs : Sep h0 h (f x y :: aRow enc sz s (ss.set i x) :: aAll ((List.zipWith f ss ys).eraseIdx i) :: R)) (hl : ss.length = ys.length) (hi : i < ys.length) : Sep h0 h (aHR enc sz f s (ys.set i y) :: R) := by
  refine aHR_iff.2 ⟨ss.set i x, by simpa using hl, ?_⟩
  have h1 : Sep h0 h (aAll ((List.zipWith f ss ys).eraseIdx i) :: f x y :: aRow enc sz s (ss.set i x) :: R) := hs.perm (.trans (.cons _ (.swap _ _ _)) (.swap _ _ _))
  have h2 := (Sep.alls.1 h1).perm List.perm_middle
  have h3 : Sep h0 h (List.zipWith f (ss.set i x) (ys.set i y) ++ aRow enc sz s (ss.set i x) :: R) := by
    refine Sep.perm h2 ?_
    have e : List.zipWith f (ss.set i x) (ys.set i y) = (List.zipWith f ss ys).set i (f x y) := by
      apply List.ext_getElem?
      intro j
      rw [List.getElem?_zipWith, List.getElem?_set, List.getElem?_set, List.getElem?_set]
      by_cases hij : i = j
      · subst hij
        simp [hi, hl]
      · simp [hij, List.getElem?_zipWith]
    rw [e]
    have := set_perm (x := f x y) i (List.zipWith f ss ys) (by simp; omega)
    exact (this.append_right _)
  exact (Sep.alls.2 h3).swap
theorem Sep.hShut {ss : List H} {i : Nat} {y : Y} (hl : ss.length = ys.length) (hi : i < ys.length) (hs : Sep h0 h (f (ss[i]'(by omega)) y :: aRow enc sz s ss :: aAll ((List.zipWith f ss ys).eraseIdx i) :: R)) : Sep h0 h (aHR enc sz f s (ys.set i y) :: R) :=
  Sep.hClose (x := ss[i]'(by omega)) (by rw [List.set_getElem_self]; exact hs) hl hi
theorem Sep.hPush {ss : List H} {x : H} {y : Y} {s' : Sl} (hl : ss.length = ys.length) (hs : Sep h0 h (f x y :: aRow enc sz s' (ss ++ [x]) :: aAll (List.zipWith f ss ys) :: R)) : Sep h0 h (aHR enc sz f s' (ys ++ [y]) :: R) := by
  refine aHR_iff.2 ⟨ss ++ [x], by simp [hl], ?_⟩
  have h1 : Sep h0 h (aAll (List.zipWith f ss ys) :: f x y :: aRow enc sz s' (ss ++ [x]) :: R) := hs.perm (.trans (.cons _ (.swap _ _ _)) (.swap _ _ _))
  have h2 := Sep.alls.1 h1
  refine Sep.swap (Sep.alls.2 ?_)
  rw [List.zipWith_append hl]
  simpa using h2
theorem Sep.hNil (hs : Sep h0 h (aRow enc sz s [] :: R)) : Sep h0 h (aHR enc sz f s [] :: R) := by
  refine aHR_iff.2 ⟨[], rfl, ?_⟩
  refine Sep.swap (Sep.alls.2 ?_)
  simpa using hs
theorem Sep.hLen (hs : Sep h0 h (aHR enc sz f s ys :: R)) : s.n = ys.length := by
  obtain ⟨ss, hl, hs⟩ := aHR_iff.1 hs
  have := hs.rowLen 0 rfl
  omega
end hr
theorem Sep.sst {L : List As} {α : Type} {Q : α → Hp → Prop} (hs : Sep h0 h L) (k : Nat) {a : Addr} {i : Nat} {xs : List Sl} {p : Option Addr} {n c : Nat} {K : M α} (hk : L[k]? = some (aRow (fun s : Sl => [.slice s.p s.n s.c]) 1 s xs)) (ha : At s a i 1) (hi : i < xs.length)
    (hK : ∀ h', Sep h0 h' (L.set k (aRow (fun s : Sl => [.slice s.p s.n s.c]) 1 s (xs.set i ⟨p, n, c⟩))) → K h' Q) : mSt a (.slice p n c) K h Q :=
  hs.rst0 k ⟨p, n, c⟩ hk (fun _ => rfl) ha (List.getElem?_eq_getElem hi) Nat.zero_lt_one rfl rfl hK
theorem Sep.pst {L : List As} {α : Type} {Q : α → Hp → Prop} (hs : Sep h0 h L) (k : Nat) {a : Addr} {i : Nat} {xs : List (Option Addr)} {p : Option Addr} {K : M α} (hk : L[k]? = some (aRow (fun s : Option Addr => [.pointer s]) 1 s xs)) (ha : At s a i 1) (hi : i < xs.length)
    (hK : ∀ h', Sep h0 h' (L.set k (aRow (fun s : Option Addr => [.pointer s]) 1 s (xs.set i p))) → K h' Q) : mSt a (.pointer p) K h Q :=
  hs.rst0 k p hk (fun _ => rfl) ha (List.getElem?_eq_getElem hi) Nat.zero_lt_one rfl rfl hK
theorem mAnd_intro {α : Type} {x y : M α} {Q : α → Hp → Prop} (hx : x h Q) (hy : y h Q) : mAnd x y h Q := ⟨hx, hy⟩
/-! guards: the goal begins so -/
section gd
variable {α : Type} {h : Hp} {Q : α → Hp → Prop}
theorem gd_mLdI {kd : IntKind} {a : Addr} {k : Int → M α} (x : mLdI kd a k h Q) : mLdI kd a k h Q := x
theorem gd_mLdB {a : Addr} {k : Bool → M α} (x : mLdB a k h Q) : mLdB a k h Q := x
theorem gd_mLdS {a : Addr} {k : ByteArray → M α} (x : mLdS a k h Q) : mLdS a k h Q := x
theorem gd_mLdP {a : Addr} {k : Option Addr → M α} (x : mLdP a k h Q) : mLdP a k h Q := x
theorem gd_mLdL {a : Addr} {k : Sl → M α} (x : mLdL a k h Q) : mLdL a k h Q := x
theorem gd_mNew {c : Array Value} {T : TypeId} {k : Addr → M α} (x : mNew c T k h Q) : mNew c T k h Q := x
theorem gd_mSt {a : Addr} {v : Value} {k : M α} (x : mSt a v k h Q) : mSt a v k h Q := x
theorem gd_mIdx {s : Sl} {i : Int} {z : Nat} {k : Addr → M α} (x : mIdx s i z k h Q) : mIdx s i z k h Q := x
theorem gd_mApp {T : TypeId} {z b : Nat} {zero : Array Value} {s y : Sl} {k : Sl → M α} (x : mApp T z b zero s y k h Q) : mApp T z b zero s y k h Q := x
end gd
/-- rows of rows of numbers, as an argument -/
theorem open_rdSS {P : Program} {h : Hp} {k : IntKind} {t e f : TypeId} {a : Option Addr} {len cap d : Nat} (ht : P.underlying t = some (.slice e)) (he : P.underlying e = some (.slice f)) (hf : P.underlying f = some (.int k)) (hse : P.cellsOf e = 1) (hsf : P.cellsOf f = 1)
    (hr : RdT P h (d + 3) t [.slice a len cap]) : ∃ ss : List Sl, RdE h.size h encS 1 ⟨a, len, cap⟩ ss ∧ ∀ s ∈ ss, ∃ zs, RdI h.size h k s zs :=
  open_rdEok (X := Sl) (d := d + 2) ht hse (by simp) (fun cs hcs => by
    obtain ⟨s, rfl⟩ := RdT.slice he hcs
    exact ⟨s, rfl, open_rdI he hf hsf hcs⟩) hr
attribute [irreducible] aGrid aHR
end grid
end Go.Sb
