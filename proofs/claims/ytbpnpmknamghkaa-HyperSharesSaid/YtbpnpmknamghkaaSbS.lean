/- What a run owns: rows of assertions over disjoint blocks, all new since the call; rules for each step. Conditions: none. -/
import Derived.Test.YtbpnpmknamghkaaSbR
namespace Go.Sb
open Go

/-- an assertion: which blocks it is about, and what they hold -/
structure As where
  holds : List Nat → Hp → Prop
  frame : ∀ F h h', holds F h → (∀ b ∈ F, h'[b]? = h[b]?) → holds F h'
  lt : ∀ F h, holds F h → ∀ b ∈ F, b < h.size

theorem Blk.frame {h h' : Hp} {b : Nat} {cs : List Value} (hb : Blk h b cs) (he : h'[b]? = h[b]?) : Blk h' b cs := by
  obtain ⟨T, hT⟩ := hb
  exact ⟨T, by rw [he, hT]⟩

def aBlk (b : Nat) (cs : List Value) : As := ⟨fun F h => F = [b] ∧ Blk h b cs, fun F h h' ⟨hF, hb⟩ he => ⟨hF, hb.frame (he b (by simp [hF]))⟩, fun F h ⟨hF, hb⟩ b' hb' => by
  subst hF
  simp only [List.mem_singleton] at hb'
  subst hb'
  exact hb.lt⟩
def aEmp : As := ⟨fun F _ => F = [], fun _ _ _ h _ => h, fun F h hF b hb => by subst hF; simp at hb⟩
def aPure (p : Prop) : As := ⟨fun F _ => F = [] ∧ p, fun _ _ _ h _ => h, fun F h ⟨hF, _⟩ b hb => by subst hF; simp at hb⟩
def aStar (x y : As) : As := ⟨fun F h => ∃ F1 F2, F = F1 ++ F2 ∧ x.holds F1 h ∧ y.holds F2 h,
  fun F h h' ⟨F1, F2, hF, h1, h2⟩ he => ⟨F1, F2, hF, x.frame _ _ _ h1 fun b hb => he b (by simp [hF, hb]), y.frame _ _ _ h2 fun b hb => he b (by simp [hF, hb])⟩,
  fun F h ⟨F1, F2, hF, h1, h2⟩ b hb => by
    subst hF
    rcases List.mem_append.1 hb with hb | hb
    · exact x.lt _ _ h1 b hb
    · exact y.lt _ _ h2 b hb⟩
def aEx {X : Type} (P : X → As) : As := ⟨fun F h => ∃ x, (P x).holds F h, fun F h h' ⟨x, hx⟩ he => ⟨x, (P x).frame F h h' hx he⟩, fun F h ⟨x, hx⟩ => (P x).lt F h hx⟩
/-- a slice whose row is one's own, element by element -/
def aRow {X : Type} (enc : X → List Value) (sz : Nat) (s : Sl) (xs : List X) : As :=
  ⟨fun F h => s.n = xs.length ∧ ((s.n = 0 ∧ s.c = 0 ∧ F = []) ∨ ∃ b o pre rest, s.p = some ⟨b, o, none⟩ ∧ F = [b] ∧ Blk h b (pre ++ xs.flatMap enc ++ rest) ∧ pre.length = o ∧ s.n ≤ s.c ∧ (s.c - s.n) * sz ≤ rest.length),
  fun F h h' ⟨h1, h2⟩ he => ⟨h1, by
    rcases h2 with h2 | ⟨b, o, pre, rest, e1, e2, e3, e4⟩
    · exact .inl h2
    · exact .inr ⟨b, o, pre, rest, e1, e2, e3.frame (he b (by simp [e2])), e4⟩⟩,
  fun F h ⟨h1, h2⟩ b hb => by
    rcases h2 with ⟨_, _, rfl⟩ | ⟨b', o, pre, rest, e1, rfl, e3, e4⟩
    · simp at hb
    · simp only [List.mem_singleton] at hb; subst hb; exact e3.lt⟩
def aAll : List As → As
  | [] => aEmp
  | a :: L => aStar a (aAll L)

/-- what is owned, all of it new since h0; and nothing older turned -/
structure Sep (h0 h : Hp) (L : List As) : Prop where
  under : Under h0.size h0 h
  own : ∃ F, (aAll L).holds F h ∧ F.Nodup ∧ ∀ b ∈ F, h0.size ≤ b

theorem aAll_perm {L L' : List As} (hp : L.Perm L') {h : Hp} : ∀ F, (aAll L).holds F h → ∃ F', F'.Perm F ∧ (aAll L').holds F' h := by
  induction hp with
  | nil => exact fun F hF => ⟨F, .refl _, hF⟩
  | cons x _ ih =>
    rintro F ⟨F1, F2, rfl, h1, h2⟩
    obtain ⟨F', hp, h'⟩ := ih F2 h2
    exact ⟨F1 ++ F', hp.append_left F1, F1, F', rfl, h1, h'⟩
  | swap x y l =>
    rintro F ⟨F1, F2, rfl, h1, F3, F4, rfl, h3, h4⟩
    refine ⟨F3 ++ (F1 ++ F4), ?_, F3, _, rfl, h3, F1, F4, rfl, h1, h4⟩
    rw [← List.append_assoc, ← List.append_assoc]
    exact (List.perm_append_comm).append_right F4
  | trans _ _ ih1 ih2 =>
    intro F hF
    obtain ⟨F', p1, h1⟩ := ih1 F hF
    obtain ⟨F'', p2, h2⟩ := ih2 F' h1
    exact ⟨F'', p2.trans p1, h2⟩

section sep
variable {h0 h h' : Hp} {L L' R : List As} {a x y : As}
theorem Sep.init (h : Hp) : Sep h h [] := ⟨.refl _ _, [], rfl, .nil, by simp⟩
theorem Sep.perm (hs : Sep h0 h L) (hp : L.Perm L') : Sep h0 h L' := by
  obtain ⟨hu, F, h1, h2, h3⟩ := hs
  obtain ⟨F', p, h'⟩ := aAll_perm hp F h1
  exact ⟨hu, F', h', p.nodup_iff.2 h2, fun b hb => h3 b (p.mem_iff.1 hb)⟩
theorem Sep.drop (hs : Sep h0 h (a :: R)) : Sep h0 h R := by
  obtain ⟨hu, F, ⟨F1, F2, rfl, h1, h2⟩, h3, h4⟩ := hs
  exact ⟨hu, F2, h2, (List.nodup_append.1 h3).2.1, fun b hb => h4 b (by simp [hb])⟩
theorem Sep.swap (hs : Sep h0 h (x :: y :: R)) : Sep h0 h (y :: x :: R) := hs.perm (.swap _ _ _)
theorem Sep.star : Sep h0 h (aStar x y :: R) ↔ Sep h0 h (x :: y :: R) := by
  constructor
  · rintro ⟨hu, F, ⟨_, F3, rfl, ⟨F1, F2, rfl, h1, h2⟩, h3⟩, hn, hB⟩
    exact ⟨hu, F1 ++ F2 ++ F3, ⟨F1, F2 ++ F3, by simp, h1, F2, F3, rfl, h2, h3⟩, hn, hB⟩
  · rintro ⟨hu, F, ⟨F1, _, rfl, h1, F2, F3, rfl, h2, h3⟩, hn, hB⟩
    exact ⟨hu, F1 ++ (F2 ++ F3), ⟨F1 ++ F2, F3, by simp, ⟨F1, F2, rfl, h1, h2⟩, h3⟩, hn, hB⟩
theorem Sep.all : Sep h0 h (aAll (x :: L) :: R) ↔ Sep h0 h (x :: aAll L :: R) := Sep.star
theorem Sep.all_nil : Sep h0 h (aAll [] :: R) ↔ Sep h0 h R := by
  constructor
  · exact Sep.drop
  · rintro ⟨hu, F, h1, hn, hB⟩
    exact ⟨hu, F, ⟨[], F, rfl, rfl, h1⟩, hn, hB⟩
theorem Sep.pure {p : Prop} : Sep h0 h (aPure p :: R) ↔ p ∧ Sep h0 h R := by
  constructor
  · rintro ⟨hu, F, ⟨F1, F2, rfl, ⟨rfl, hp⟩, h2⟩, hn, hB⟩
    exact ⟨hp, hu, F2, h2, hn, hB⟩
  · rintro ⟨hp, hu, F, h1, hn, hB⟩
    exact ⟨hu, F, ⟨[], F, rfl, ⟨rfl, hp⟩, h1⟩, hn, hB⟩
theorem Sep.ex {X : Type} {P : X → As} : Sep h0 h (aEx P :: R) ↔ ∃ x, Sep h0 h (P x :: R) := by
  constructor
  · rintro ⟨hu, F, ⟨F1, F2, rfl, ⟨x, hx⟩, h2⟩, hn, hB⟩
    exact ⟨x, hu, _, ⟨F1, F2, rfl, hx, h2⟩, hn, hB⟩
  · rintro ⟨x, hu, _, ⟨F1, F2, rfl, hx, h2⟩, hn, hB⟩
    exact ⟨hu, _, ⟨F1, F2, rfl, ⟨x, hx⟩, h2⟩, hn, hB⟩
/-- the one at place k comes to the head -/
theorem eraseIdx_perm : ∀ (k : Nat) (L : List As), L[k]? = some a → L.Perm (a :: L.eraseIdx k)
  | _, [], h => by simp at h
  | 0, y :: L, h => by simp at h; subst h; simp
  | k + 1, y :: L, h => by
    simp at h
    simp only [List.eraseIdx_cons_succ]
    exact ((eraseIdx_perm k L h).cons y).trans (.swap _ _ _)
theorem set_perm : ∀ (k : Nat) (L : List As), k < L.length → (x :: L.eraseIdx k).Perm (L.set k x)
  | _, [], h => by simp at h
  | 0, y :: L, h => by simp
  | k + 1, y :: L, h => by
    simp at h
    simp only [List.eraseIdx_cons_succ, List.set_cons_succ]
    exact (List.Perm.swap _ _ _).trans ((set_perm k L h).cons y)
theorem Sep.at (k : Nat) (hs : Sep h0 h L) (hk : L[k]? = some a) : Sep h0 h (a :: L.eraseIdx k) := hs.perm (eraseIdx_perm k L hk)
theorem Sep.front (k : Nat) (hs : Sep h0 h L) (hk : L[k]? = some a) : Sep h0 h (a :: L.eraseIdx k) := hs.at k hk
/-- one turns, by a step that touches no block but its own and new ones -/
theorem Sep.upd (hs : Sep h0 h (x :: R)) (hstep : ∀ F, x.holds F h → ∃ F', y.holds F' h' ∧ Keeps (· ∈ F) h h' ∧ (F.Nodup → F'.Nodup) ∧ ∀ b ∈ F', b ∈ F ∨ h.size ≤ b) : Sep h0 h' (y :: R) := by
  obtain ⟨hu, F, ⟨F1, F2, rfl, h1, h2⟩, hn, hB⟩ := hs
  obtain ⟨F', hy, hk, hnd, hsub⟩ := hstep F1 h1
  have hlt := (aAll R).lt _ _ h2
  obtain ⟨n1, n2, n3⟩ := List.nodup_append.1 hn
  refine ⟨hu.trans (Under.of_keeps hk hu.size fun b hb => hB b (by simp [hb])), F' ++ F2, ⟨F', F2, rfl, hy, ?_⟩, ?_, ?_⟩
  · refine (aAll R).frame _ _ _ h2 fun b hb => hk.at_ b (hlt b hb) fun hb' => ?_
    exact n3 b hb' b hb rfl
  · refine List.nodup_append.2 ⟨hnd n1, n2, fun u hu' v hv => ?_⟩
    rcases hsub u hu' with hm | hm
    · exact n3 u hm v hv
    · have := hlt v hv; omega
  · intro b hb
    rcases List.mem_append.1 hb with hb | hb
    · rcases hsub b hb with hm | hm
      · exact hB b (by simp [hm])
      · exact Nat.le_trans hu.size hm
    · exact hB b (by simp [hb])
theorem Sep.updAt (k : Nat) (hs : Sep h0 h L) (hk : L[k]? = some x) (hstep : ∀ F, x.holds F h → ∃ F', y.holds F' h' ∧ Keeps (· ∈ F) h h' ∧ (F.Nodup → F'.Nodup) ∧ ∀ b ∈ F', b ∈ F ∨ h.size ≤ b) : Sep h0 h' (L.set k y) :=
  ((hs.at k hk).upd hstep).perm (set_perm k L (by have := (List.getElem?_eq_some_iff.1 hk).1; exact this))
/-- something new -/
theorem Sep.push (hs : Sep h0 h L) (cs : Array Value) (T : TypeId) : Sep h0 (h.push (.cells cs T)) (aBlk h.size cs.toList :: L) := by
  have hs' : Sep h0 h (aEmp :: L) := by
    obtain ⟨hu, F, h1, hn, hB⟩ := hs
    exact ⟨hu, F, ⟨[], F, rfl, rfl, h1⟩, hn, hB⟩
  refine hs'.upd ?_
  rintro F rfl
  exact ⟨[h.size], ⟨rfl, Blk.new' h cs T⟩, .push _ _ _, by simp, by simp⟩
theorem Sep.holds (k : Nat) (hs : Sep h0 h L) (hk : L[k]? = some x) : ∃ F, x.holds F h ∧ F.Nodup ∧ ∀ b ∈ F, h0.size ≤ b := by
  obtain ⟨hu, F, ⟨F1, F2, rfl, h1, h2⟩, hn, hB⟩ := hs.at k hk
  exact ⟨F1, h1, (List.nodup_append.1 hn).1, fun b hb => hB b (by simp [hb])⟩
theorem Sep.blk (k : Nat) {b : Nat} {cs : List Value} (hs : Sep h0 h L) (hk : L[k]? = some (aBlk b cs)) : Blk h b cs := by
  obtain ⟨F, ⟨_, hb⟩, _⟩ := hs.holds k hk
  exact hb
theorem Sep.keep (k : Nat) (hs : Sep h0 h L) (hk : L[k]? = some x) (himp : ∀ F, x.holds F h → y.holds F h) : Sep h0 h (L.set k y) :=
  hs.updAt k hk fun F hF => ⟨F, himp F hF, .refl _ _, id, fun b hb => .inl hb⟩

theorem Sep.emp (hs : Sep h0 h R) : Sep h0 h (aEmp :: R) := by
  obtain ⟨hu, F, h1, hn, hB⟩ := hs
  exact ⟨hu, F, ⟨[], F, rfl, rfl, h1⟩, hn, hB⟩
/-- something new that a call left -/
theorem Sep.fresh (hs : Sep h0 h R) (hu : Under h.size h h') {F' : List Nat} (hy : y.holds F' h') (hn : F'.Nodup) (hF : ∀ b ∈ F', h.size ≤ b) : Sep h0 h' (y :: R) := by
  refine hs.emp.upd ?_
  rintro F rfl
  exact ⟨F', hy, ⟨hu.size, fun i hi _ => hu.at_ i hi⟩, fun _ => hn, fun b hb => .inr (hF b hb)⟩
/-- a step that only leaves new blocks behind -/
theorem Sep.more (hs : Sep h0 h R) (hu : Under h.size h h') : Sep h0 h' R := (hs.fresh (y := aEmp) hu rfl .nil (by simp)).drop

/-- what a call owned, told from its own begin, beside what was owned at its call -/
theorem aAll_append : ∀ (L R : List As) (F G : List Nat) (h : Hp), (aAll L).holds F h → (aAll R).holds G h → (aAll (L ++ R)).holds (F ++ G) h
  | [], R, F, G, h, hF, hG => by
    have : F = [] := hF
    subst this
    exact hG
  | a :: L, R, F, G, h, ⟨F1, F2, hF, h1, h2⟩, hG => by
    subst hF
    exact ⟨F1, F2 ++ G, by simp, h1, aAll_append L R F2 G h h2 hG⟩
theorem Sep.rebase {h1 : Hp} (hs : Sep h0 h1 R) (hs' : Sep h1 h L) : Sep h0 h (L ++ R) := by
  obtain ⟨hu, F, g1, g2, g3⟩ := hs
  obtain ⟨hu', G, k1, k2, k3⟩ := hs'
  have hlt := (aAll R).lt _ _ g1
  refine ⟨hu.trans ⟨hu'.size, fun i hi => hu'.at_ i (Nat.lt_of_lt_of_le hi hu.size)⟩, G ++ F, aAll_append L R G F h k1 ((aAll R).frame _ _ _ g1 fun b hb => hu'.at_ b (hlt b hb)), ?_, ?_⟩
  · refine List.nodup_append.2 ⟨k2, g2, fun u hu v hv => ?_⟩
    have := k3 u hu
    have := hlt v hv
    omega
  · intro b hb
    rcases List.mem_append.1 hb with hb | hb
    · exact Nat.le_trans hu.size (k3 b hb)
    · exact g3 b hb

variable {α : Type} {Q : α → Hp → Prop} {b o : Nat} {cs : List Value}
theorem Sep.ldI (hs : Sep h0 h L) (k : Nat) {kd : IntKind} {n : Int} {K : Int → M α} (hk : L[k]? = some (aBlk b cs)) (hc : cs[o]? = some (.int kd n)) (hK : K n h Q) : mLdI kd ⟨b, o, none⟩ K h Q :=
  mLdI_of (by rw [(hs.blk k hk).cell, hc]) hK
theorem Sep.ldB (hs : Sep h0 h L) (k : Nat) {n : Bool} {K : Bool → M α} (hk : L[k]? = some (aBlk b cs)) (hc : cs[o]? = some (.bool n)) (hK : K n h Q) : mLdB ⟨b, o, none⟩ K h Q :=
  mLdB_of (by rw [(hs.blk k hk).cell, hc]) hK
theorem Sep.ldS (hs : Sep h0 h L) (k : Nat) {n : ByteArray} {K : ByteArray → M α} (hk : L[k]? = some (aBlk b cs)) (hc : cs[o]? = some (.string n)) (hK : K n h Q) : mLdS ⟨b, o, none⟩ K h Q :=
  mLdS_of (by rw [(hs.blk k hk).cell, hc]) hK
theorem Sep.ldP (hs : Sep h0 h L) (k : Nat) {n : Option Addr} {K : Option Addr → M α} (hk : L[k]? = some (aBlk b cs)) (hc : cs[o]? = some (.pointer n)) (hK : K n h Q) : mLdP ⟨b, o, none⟩ K h Q :=
  mLdP_of (by rw [(hs.blk k hk).cell, hc]) hK
theorem Sep.ldL (hs : Sep h0 h L) (k : Nat) {s : Sl} {K : Sl → M α} (hk : L[k]? = some (aBlk b cs)) (hc : cs[o]? = some (.slice s.p s.n s.c)) (hK : K s h Q) : mLdL ⟨b, o, none⟩ K h Q :=
  mLdL_of (p := s.p) (n := s.n) (c := s.c) (by rw [(hs.blk k hk).cell, hc]) hK
theorem Sep.ldL' (hs : Sep h0 h L) (k : Nat) {p : Option Addr} {n c : Nat} {K : Sl → M α} (hk : L[k]? = some (aBlk b cs)) (hc : cs[o]? = some (.slice p n c)) (hK : K ⟨p, n, c⟩ h Q) : mLdL ⟨b, o, none⟩ K h Q :=
  mLdL_of (by rw [(hs.blk k hk).cell, hc]) hK
theorem Sep.ldF (hs : Sep h0 h L) (k : Nat) {g : Nat} {f c : Array Value} {K : Nat → Array Value → Array Value → M α} (hk : L[k]? = some (aBlk b cs)) (hc : cs[o]? = some (.func (.func g) f c)) (hK : K g f c h Q) : mLdF ⟨b, o, none⟩ K h Q :=
  ⟨g, f, c, by rw [(hs.blk k hk).cell, hc], hK⟩
theorem Sep.st (hs : Sep h0 h L) (k : Nat) {v : Value} {K : M α} (hk : L[k]? = some (aBlk b cs)) (hc : cs[o]?.isSome = true) (hv : v.oneCell' = true) (hK : ∀ h', Sep h0 h' (L.set k (aBlk b (cs.set o v))) → K h' Q) : mSt ⟨b, o, none⟩ v K h Q := by
  have hb := hs.blk k hk
  refine ⟨hv, by rw [hb.cell]; exact hc, hb.free _, hK _ (hs.updAt k hk ?_)⟩
  rintro F ⟨rfl, _⟩
  exact ⟨[b], ⟨rfl, hb.set o v⟩, .set _ _ _ (by simp), id, fun b hb => .inl hb⟩
theorem Sep.new (hs : Sep h0 h L) {cells : Array Value} {T : TypeId} {K : Addr → M α} (hK : ∀ b h', Sep h0 h' (aBlk b cells.toList :: L) → K ⟨b, 0, none⟩ h' Q) : mNew cells T K h Q :=
  hK _ _ (hs.push cells T)

/-! ### rows -/
variable {X : Type} {enc : X → List Value} {sz : Nat} {s : Sl} {xs : List X}
/-- the address of an element -/
def At (s : Sl) (a : Addr) (i sz : Nat) : Prop := ∃ p, s.p = some p ∧ a = p.add (i * sz)
theorem Addr.add_zero' (a : Addr) : a.add 0 = a := by unfold Addr.add; split <;> simp_all
theorem Sep.rowLen (hs : Sep h0 h L) (k : Nat) (hk : L[k]? = some (aRow enc sz s xs)) : s.n = xs.length := by
  obtain ⟨F, hF, _⟩ := hs.holds k hk
  exact hF.1
theorem Sep.rowCap (hs : Sep h0 h L) (k : Nat) (hk : L[k]? = some (aRow enc sz s xs)) : s.n ≤ s.c := by
  obtain ⟨F, ⟨h1, h2⟩, _⟩ := hs.holds k hk
  rcases h2 with ⟨hn, hc, _⟩ | ⟨b, o, pre, rest, e1, rfl, e3, e4, e5, e6⟩
  · omega
  · exact e5
theorem Sep.idx (hs : Sep h0 h L) (k : Nat) {i : Int} {K : Addr → M α} (hk : L[k]? = some (aRow enc sz s xs)) (i0 : 0 ≤ i) (i1 : i < xs.length) (hK : ∀ a, At s a i.toNat sz → K a h Q) : mIdx s i sz K h Q := by
  obtain ⟨F, ⟨h1, h2⟩, _⟩ := hs.holds k hk
  rcases h2 with ⟨hn, hc, _⟩ | ⟨b, o, pre, rest, e1, rfl, e3, e4, e5, e6⟩
  · omega
  · exact ⟨_, e1, i0, by omega, hK _ ⟨_, e1, rfl⟩⟩
theorem Sep.rcell (hs : Sep h0 h L) (k : Nat) {a : Addr} {i j : Nat} {x : X} {v : Value} (hk : L[k]? = some (aRow enc sz s xs)) (hl : ∀ x, (enc x).length = sz) (ha : At s a i sz) (hx : xs[i]? = some x) (hv : (enc x)[j]? = some v) :
    hcell h (a.add j) = some v ∧ hfrozen h (a.add j) = false := by
  obtain ⟨F, ⟨h1, h2⟩, _⟩ := hs.holds k hk
  have hlt := (List.getElem?_eq_some_iff.1 hx).1
  rcases h2 with ⟨hn, hc, _⟩ | ⟨b, o, pre, rest, e1, rfl, e3, e4, e5, e6⟩
  · omega
  · obtain ⟨p, hp, rfl⟩ := ha
    rw [e1] at hp
    obtain rfl := Option.some.inj hp
    have hj : j < sz := by have := (List.getElem?_eq_some_iff.1 hv).1; rw [hl] at this; exact this
    have hle : i * sz + j < xs.length * sz := by
      have : (i + 1) * sz ≤ xs.length * sz := Nat.mul_le_mul_right _ (by omega)
      rw [Nat.add_mul] at this; omega
    rw [add_mk, add_mk, e3.cell, e3.free]
    refine ⟨?_, rfl⟩
    rw [List.append_assoc, List.getElem?_append_right (by omega), List.getElem?_append_left (by rw [flat_length hl]; omega)]
    rw [show o + i * sz + j - pre.length = i * sz + j by omega, flat_get hl xs i j x hx hj, hv]
theorem Sep.rst_ (hs : Sep h0 h L) (k : Nat) {a : Addr} {i j : Nat} {x x' : X} {v : Value} (hk : L[k]? = some (aRow enc sz s xs)) (hl : ∀ x, (enc x).length = sz) (ha : At s a i sz) (hx : xs[i]? = some x) (hj : j < sz) (he : enc x' = (enc x).set j v) :
    Sep h0 (hset h (a.add j) v) (L.set k (aRow enc sz s (xs.set i x'))) := by
  refine hs.updAt k hk ?_
  rintro F ⟨h1, h2⟩
  have hlt := (List.getElem?_eq_some_iff.1 hx).1
  rcases h2 with ⟨hn, hc, _⟩ | ⟨b, o, pre, rest, e1, rfl, e3, e4, e5, e6⟩
  · omega
  · obtain ⟨p, hp, rfl⟩ := ha
    rw [e1] at hp
    obtain rfl := Option.some.inj hp
    rw [add_mk, add_mk]
    have hle : i * sz + j < xs.length * sz := by
      have : (i + 1) * sz ≤ xs.length * sz := Nat.mul_le_mul_right _ (by omega)
      rw [Nat.add_mul] at this; omega
    refine ⟨[b], ⟨by simpa using h1, .inr ⟨b, o, pre, rest, e1, rfl, ?_, e4, e5, e6⟩⟩, .set _ _ _ (by simp), id, fun b hb => .inl hb⟩
    have := e3.set (o + i * sz + j) v
    rw [List.append_assoc, List.set_append_right _ _ (by omega), List.set_append_left _ _ (by rw [flat_length hl]; omega)] at this
    rw [show o + i * sz + j - pre.length = i * sz + j by omega, flat_set hl xs i j x x' v hx hj he] at this
    rw [List.append_assoc]
    exact this
theorem Sep.rldI (hs : Sep h0 h L) (k : Nat) {a : Addr} {i j : Nat} {x : X} {kd : IntKind} {n : Int} {K : Int → M α} (hk : L[k]? = some (aRow enc sz s xs)) (hl : ∀ x, (enc x).length = sz) (ha : At s a i sz) (hx : xs[i]? = some x) (hv : (enc x)[j]? = some (.int kd n)) (hK : K n h Q) : mLdI kd (a.add j) K h Q :=
  mLdI_of (hs.rcell k hk hl ha hx hv).1 hK
theorem Sep.rldB (hs : Sep h0 h L) (k : Nat) {a : Addr} {i j : Nat} {x : X} {n : Bool} {K : Bool → M α} (hk : L[k]? = some (aRow enc sz s xs)) (hl : ∀ x, (enc x).length = sz) (ha : At s a i sz) (hx : xs[i]? = some x) (hv : (enc x)[j]? = some (.bool n)) (hK : K n h Q) : mLdB (a.add j) K h Q :=
  mLdB_of (hs.rcell k hk hl ha hx hv).1 hK
theorem Sep.rldS (hs : Sep h0 h L) (k : Nat) {a : Addr} {i j : Nat} {x : X} {n : ByteArray} {K : ByteArray → M α} (hk : L[k]? = some (aRow enc sz s xs)) (hl : ∀ x, (enc x).length = sz) (ha : At s a i sz) (hx : xs[i]? = some x) (hv : (enc x)[j]? = some (.string n)) (hK : K n h Q) : mLdS (a.add j) K h Q :=
  mLdS_of (hs.rcell k hk hl ha hx hv).1 hK
theorem Sep.rldL (hs : Sep h0 h L) (k : Nat) {a : Addr} {i j : Nat} {x : X} {n : Sl} {K : Sl → M α} (hk : L[k]? = some (aRow enc sz s xs)) (hl : ∀ x, (enc x).length = sz) (ha : At s a i sz) (hx : xs[i]? = some x) (hv : (enc x)[j]? = some (.slice n.p n.n n.c)) (hK : K n h Q) : mLdL (a.add j) K h Q :=
  mLdL_of (p := n.p) (n := n.n) (c := n.c) (hs.rcell k hk hl ha hx hv).1 hK
theorem Sep.rldP (hs : Sep h0 h L) (k : Nat) {a : Addr} {i j : Nat} {x : X} {n : Option Addr} {K : Option Addr → M α} (hk : L[k]? = some (aRow enc sz s xs)) (hl : ∀ x, (enc x).length = sz) (ha : At s a i sz) (hx : xs[i]? = some x) (hv : (enc x)[j]? = some (.pointer n)) (hK : K n h Q) : mLdP (a.add j) K h Q :=
  mLdP_of (hs.rcell k hk hl ha hx hv).1 hK
theorem Sep.rst (hs : Sep h0 h L) (k : Nat) {a : Addr} {i j : Nat} {x : X} (x' : X) {v : Value} {K : M α} (hk : L[k]? = some (aRow enc sz s xs)) (hl : ∀ x, (enc x).length = sz) (ha : At s a i sz) (hx : xs[i]? = some x) (hj : j < sz) (he : enc x' = (enc x).set j v) (hv : v.oneCell' = true)
    (hK : ∀ h', Sep h0 h' (L.set k (aRow enc sz s (xs.set i x'))) → K h' Q) : mSt (a.add j) v K h Q := by
  have hlen := hl x
  obtain ⟨u, hu⟩ : ∃ u, (enc x)[j]? = some u := ⟨(enc x)[j], List.getElem?_eq_getElem (by omega)⟩
  obtain ⟨c1, c2⟩ := hs.rcell k hk hl ha hx hu
  exact ⟨hv, by rw [c1]; rfl, c2, hK _ (hs.rst_ k hk hl ha hx hj he)⟩
/-- rows of one cell each: an element's load and store at its own address -/
theorem At.zero {a : Addr} {i : Nat} (ha : At s a i sz) : a = a.add 0 := (Addr.add_zero' a).symm
theorem Sep.ild (hs : Sep h0 h L) (k : Nat) {a : Addr} {i : Nat} {kd : IntKind} {xs : List Int} {K : Int → M α} (hk : L[k]? = some (aRow (fun z => [.int kd z]) 1 s xs)) (ha : At s a i 1) (hi : i < xs.length) (hK : K (xs[i]'hi) h Q) : mLdI kd a K h Q := by
  have := hs.rldI k (a := a) (i := i) (j := 0) (K := K) (Q := Q) hk (fun _ => rfl) ha (List.getElem?_eq_getElem hi) rfl hK
  rwa [Addr.add_zero'] at this
theorem Sep.bld (hs : Sep h0 h L) (k : Nat) {a : Addr} {i : Nat} {xs : List Bool} {K : Bool → M α} (hk : L[k]? = some (aRow (fun z => [.bool z]) 1 s xs)) (ha : At s a i 1) (hi : i < xs.length) (hK : K (xs[i]'hi) h Q) : mLdB a K h Q := by
  have := hs.rldB k (a := a) (i := i) (j := 0) (K := K) (Q := Q) hk (fun _ => rfl) ha (List.getElem?_eq_getElem hi) rfl hK
  rwa [Addr.add_zero'] at this
theorem Sep.ist (hs : Sep h0 h L) (k : Nat) {a : Addr} {i : Nat} {kd : IntKind} {xs : List Int} {v : Int} {K : M α} (hk : L[k]? = some (aRow (fun z => [.int kd z]) 1 s xs)) (ha : At s a i 1) (hi : i < xs.length)
    (hK : ∀ h', Sep h0 h' (L.set k (aRow (fun z => [.int kd z]) 1 s (xs.set i v))) → K h' Q) : mSt a (.int kd v) K h Q := by
  have := hs.rst k (a := a) (i := i) (j := 0) (K := K) (Q := Q) v hk (fun _ => rfl) ha (List.getElem?_eq_getElem hi) (Nat.zero_lt_one) rfl rfl hK
  rwa [Addr.add_zero'] at this
theorem Sep.bst (hs : Sep h0 h L) (k : Nat) {a : Addr} {i : Nat} {xs : List Bool} {v : Bool} {K : M α} (hk : L[k]? = some (aRow (fun z => [.bool z]) 1 s xs)) (ha : At s a i 1) (hi : i < xs.length)
    (hK : ∀ h', Sep h0 h' (L.set k (aRow (fun z => [.bool z]) 1 s (xs.set i v))) → K h' Q) : mSt a (.bool v) K h Q := by
  have := hs.rst k (a := a) (i := i) (j := 0) (K := K) (Q := Q) v hk (fun _ => rfl) ha (List.getElem?_eq_getElem hi) (Nat.zero_lt_one) rfl rfl hK
  rwa [Addr.add_zero'] at this
theorem Blk.row (hs : Sep h0 h L) (k : Nat) {b n : Nat} {cs : List Value} (hk : L[k]? = some (aBlk b cs)) (hcs : cs = xs.flatMap enc) (hn : n = xs.length) : Sep h0 h (L.set k (aRow enc sz ⟨some ⟨b, 0, none⟩, n, n⟩ xs)) := by
  refine hs.keep k hk ?_
  rintro F ⟨rfl, hb⟩
  exact ⟨hn, .inr ⟨b, 0, [], [], rfl, rfl, by rw [hcs] at hb; simpa using hb, rfl, Nat.le_refl _, by simp⟩⟩
theorem mRow_flat (zero : Array Value) (n : Nat) : (mRow zero n).toList = (List.replicate n zero.toList).flatten := by
  induction n with
  | zero => simp [mRow]
  | succ n ih =>
    rw [List.replicate_succ', List.flatten_append, ← ih]
    unfold mRow
    rw [Nat.add_mul, Nat.one_mul]
    simp only [Array.toList_map, Array.toList_range, List.range_add, List.map_append, List.map_map, List.flatten_cons, List.flatten_nil, List.append_nil]
    congr 1
    apply List.ext_getElem
    · simp
    · intro i h1 h2
      simp at h1
      simp [Nat.mul_add_mod, Nat.mod_eq_of_lt h1, h1]
theorem Sep.make (hs : Sep h0 h L) (enc : X → List Value) (sz : Nat) (z : X) {zero : Array Value} {T bytes : Nat} {l : Int} {K : Sl → M α} (he : enc z = zero.toList) (l0 : 0 ≤ l) (l1 : bytes * l ≤ 2 ^ 48) (l2 : l ≤ 9223372036854775807)
    (hK : ∀ s h', s.n = l.toNat → Sep h0 h' (aRow enc sz s (List.replicate l.toNat z) :: L) → K s h' Q) : mMake T bytes zero l l K h Q := by
  refine ⟨l0, Int.le_refl _, l1, by rw [show IntKind.i64.max = 9223372036854775807 by decide]; exact l2, hK _ _ rfl ?_⟩
  have h1 := hs.push (mRow zero l.toNat) T
  exact Blk.row (enc := enc) (xs := List.replicate l.toNat z) (sz := sz) h1 0 rfl (by rw [mRow_flat, ← he]; induction l.toNat with
    | zero => rfl
    | succ n ih => simp [List.replicate_succ, ih]) (by simp)
/-- a nil row -/
theorem Sep.nilRow' (hs : Sep h0 h L) (enc : X → List Value) (sz : Nat) (s : Sl) (hn : s.n = 0) (hc : s.c = 0) : Sep h0 h (aRow enc sz s [] :: L) := by
  obtain ⟨hu, F, h1, hnd, hB⟩ := hs
  exact ⟨hu, F, ⟨[], F, rfl, ⟨hn, .inl ⟨hn, hc, rfl⟩⟩, h1⟩, hnd, hB⟩
theorem Sep.nilRow (hs : Sep h0 h L) (enc : X → List Value) (sz : Nat) : Sep h0 h (aRow enc sz ⟨none, 0, 0⟩ [] :: L) := hs.nilRow' enc sz ⟨none, 0, 0⟩ rfl rfl
end sep

section row0
variable {h0 h : Hp} {L : List As} {α : Type} {Q : α → Hp → Prop} {X : Type} {enc : X → List Value} {sz : Nat} {s : Sl} {xs : List X}
theorem Sep.rldI0 (hs : Sep h0 h L) (k : Nat) {a : Addr} {i : Nat} {x : X} {kd : IntKind} {n : Int} {K : Int → M α} (hk : L[k]? = some (aRow enc sz s xs)) (hl : ∀ x, (enc x).length = sz) (ha : At s a i sz) (hx : xs[i]? = some x) (hv : (enc x)[0]? = some (.int kd n)) (hK : K n h Q) : mLdI kd a K h Q := by
  rw [← Addr.add_zero' a]; exact hs.rldI k hk hl ha hx hv hK
theorem Sep.rldB0 (hs : Sep h0 h L) (k : Nat) {a : Addr} {i : Nat} {x : X} {n : Bool} {K : Bool → M α} (hk : L[k]? = some (aRow enc sz s xs)) (hl : ∀ x, (enc x).length = sz) (ha : At s a i sz) (hx : xs[i]? = some x) (hv : (enc x)[0]? = some (.bool n)) (hK : K n h Q) : mLdB a K h Q := by
  rw [← Addr.add_zero' a]; exact hs.rldB k hk hl ha hx hv hK
theorem Sep.rldS0 (hs : Sep h0 h L) (k : Nat) {a : Addr} {i : Nat} {x : X} {n : ByteArray} {K : ByteArray → M α} (hk : L[k]? = some (aRow enc sz s xs)) (hl : ∀ x, (enc x).length = sz) (ha : At s a i sz) (hx : xs[i]? = some x) (hv : (enc x)[0]? = some (.string n)) (hK : K n h Q) : mLdS a K h Q := by
  rw [← Addr.add_zero' a]; exact hs.rldS k hk hl ha hx hv hK
theorem Sep.rldL0 (hs : Sep h0 h L) (k : Nat) {a : Addr} {i : Nat} {x : X} {n : Sl} {K : Sl → M α} (hk : L[k]? = some (aRow enc sz s xs)) (hl : ∀ x, (enc x).length = sz) (ha : At s a i sz) (hx : xs[i]? = some x) (hv : (enc x)[0]? = some (.slice n.p n.n n.c)) (hK : K n h Q) : mLdL a K h Q := by
  rw [← Addr.add_zero' a]; exact hs.rldL k hk hl ha hx hv hK
theorem Sep.rldP0 (hs : Sep h0 h L) (k : Nat) {a : Addr} {i : Nat} {x : X} {n : Option Addr} {K : Option Addr → M α} (hk : L[k]? = some (aRow enc sz s xs)) (hl : ∀ x, (enc x).length = sz) (ha : At s a i sz) (hx : xs[i]? = some x) (hv : (enc x)[0]? = some (.pointer n)) (hK : K n h Q) : mLdP a K h Q := by
  rw [← Addr.add_zero' a]; exact hs.rldP k hk hl ha hx hv hK
theorem Sep.rst0 (hs : Sep h0 h L) (k : Nat) {a : Addr} {i : Nat} {x : X} (x' : X) {v : Value} {K : M α} (hk : L[k]? = some (aRow enc sz s xs)) (hl : ∀ x, (enc x).length = sz) (ha : At s a i sz) (hx : xs[i]? = some x) (hj : 0 < sz) (he : enc x' = (enc x).set 0 v) (hv : v.oneCell' = true)
    (hK : ∀ h', Sep h0 h' (L.set k (aRow enc sz s (xs.set i x'))) → K h' Q) : mSt a v K h Q := by
  rw [← Addr.add_zero' a]; exact hs.rst k x' hk hl ha hx hj he hv hK
end row0

/-! ### appending -/
theorem aRow_cells {X : Type} {enc : X → List Value} {sz : Nat} {s : Sl} {xs : List X} {F : List Nat} {h : Hp} (hl : ∀ x, (enc x).length = sz) (hF : (aRow enc sz s xs).holds F h) : slcells h s s.n sz = some (xs.flatMap enc) := by
  obtain ⟨h1, h2⟩ := hF
  rcases h2 with ⟨hn, hc, _⟩ | ⟨b, o, pre, rest, e1, rfl, e3, e4, e5, e6⟩
  · unfold slcells
    have : xs = [] := List.length_eq_zero_iff.1 (by omega)
    subst this
    rw [hn]
    cases s.p with
    | none => rfl
    | some a => simp [hcells]
  · unfold slcells
    rw [e1]
    simp only []
    have hfl := flat_length hl xs
    rw [hcells_blk e3 _ o 0 (by simp only [List.length_append, hfl]; rw [h1]; omega), h1, ← hfl]
    simp [← e4, List.append_assoc]
section app
variable {h0 h : Hp} {L : List As} {α : Type} {Q : α → Hp → Prop} {X : Type} {enc : X → List Value} {sz : Nat} {s : Sl} {xs : List X}
theorem Sep.app_ (hs : Sep h0 h L) (k : Nat) {T bytes : Nat} {zero : Array Value} {x : Sl} {K : Sl → M α} (ys : List X) (hk : L[k]? = some (aRow enc sz s xs)) (hl : ∀ x, (enc x).length = sz) (hx : slcells h x x.n sz = some (ys.flatMap enc)) (hxn : x.n = ys.length) (hone : ∀ v ∈ ys.flatMap enc, v.oneCell' = true)
    (hz : zero.size = sz) (hb : 0 < bytes) (hroom : (2 * (xs.length + ys.length) + 192) * bytes ≤ 2 ^ 48)
    (hK : ∀ s' h', s'.n = xs.length + ys.length → Sep h0 h' (L.set k (aRow enc sz s' (xs ++ ys))) → K s' h' Q) : mApp T sz bytes zero s x K h Q := by
  obtain ⟨F, hF, hn, hB⟩ := hs.holds k hk
  have hold := aRow_cells hl hF
  obtain ⟨h1, h2⟩ := hF
  have hyl := flat_length hl ys
  have hxl := flat_length hl xs
  refine ⟨_, hx, hone, ?_⟩
  by_cases hle : s.n + x.n ≤ s.c
  · rw [if_pos hle]
    rcases h2 with ⟨hn, hc, _⟩ | ⟨b, o, pre, rest, e1, rfl, e3, e4, e5, e6⟩
    · have hx0 : ys = [] := List.length_eq_zero_iff.1 (by omega)
      have hxs0 : xs = [] := List.length_eq_zero_iff.1 (by omega)
      subst hx0 hxs0
      have hx0n : x.n = 0 := hxn
      have hs2 : Sep h0 h (L.set k (aRow enc sz ⟨s.p, s.n + x.n, s.c⟩ ([] ++ []))) := by
        refine hs.keep k hk ?_
        rintro F ⟨g1, g2⟩
        refine ⟨by simp; omega, ?_⟩
        rw [hx0n, Nat.add_zero]
        exact g2
      have hq := hK ⟨s.p, s.n + x.n, s.c⟩ h (by simp; omega) hs2
      cases hp : s.p with
      | none => rw [hp] at hq; exact hq
      | some a =>
        rw [hp] at hq
        exact ⟨fun j h1 h2 => by simp at h2, by simpa [hsets] using hq⟩
    · simp only [e1, add_mk]
      have hroom2 : (s.n) * sz + (ys.flatMap enc).length ≤ xs.length * sz + rest.length := by
        have : (s.c - s.n) * sz ≥ x.n * sz := Nat.mul_le_mul_right _ (by omega)
        rw [hyl, ← hxn, h1]; rw [h1] at this e6; omega
      have hbl : o + s.n * sz + (ys.flatMap enc).length ≤ (pre ++ xs.flatMap enc ++ rest).length := by
        simp only [List.length_append, hxl]; omega
      obtain ⟨g1, g2⟩ := hsets_blk (ys.flatMap enc) h (o + s.n * sz) 0 _ e3 (by omega)
      refine ⟨fun j hj0 hj => ?_, hK _ _ (by simp only; omega) (hs.updAt k hk ?_)⟩
      · rw [add_mk, e3.cell, e3.free]
        exact ⟨by rw [List.getElem?_eq_getElem (by omega)]; rfl, rfl⟩
      · rintro F ⟨_, ⟨hn0, hc0, hF0⟩ | ⟨b', o', pre', rest', f1, rfl, _⟩⟩
        · have hx0 : ys = [] := List.length_eq_zero_iff.1 (by omega)
          have hxs0 : xs = [] := List.length_eq_zero_iff.1 (by omega)
          subst hx0 hxs0 hF0
          exact ⟨[], ⟨by simp; omega, .inl ⟨by simp; omega, hc0, rfl⟩⟩, by simpa [hsets] using Keeps.refl _ h, id, fun b hb => .inl hb⟩
        · rw [e1] at f1
          simp only [Option.some.injEq, Addr.mk.injEq, and_true] at f1
          obtain ⟨rfl, rfl⟩ := f1
          refine ⟨[b], ⟨by simp only [List.length_append]; omega, .inr ⟨b, o, pre, rest.drop (ys.flatMap enc).length, rfl, rfl, ?_, e4, hle, ?_⟩⟩, g2.mono fun i _ hi => by simp [hi], id, fun b hb => .inl hb⟩
          · rw [Nat.add_zero] at g1
            have e : o + s.n * sz = (pre ++ xs.flatMap enc).length := by rw [List.length_append, hxl, h1, e4]
            rw [e, List.take_left' rfl] at g1
            have e2 : (pre ++ xs.flatMap enc ++ rest).drop ((pre ++ xs.flatMap enc).length + (ys.flatMap enc).length) = rest.drop (ys.flatMap enc).length := by
              rw [← List.drop_drop, List.drop_left' rfl]
            rw [e2] at g1
            rw [List.flatMap_append, ← List.append_assoc]
            rw [← e] at g1
            exact g1
          · rw [List.length_drop, hyl, ← hxn]
            have : (s.c - s.n) * sz - x.n * sz = (s.c - (s.n + x.n)) * sz := by rw [← Nat.sub_mul]; congr 1; omega
            simp only
            omega
  · rw [if_neg hle]
    have hnc := nextcap_le (s.n + x.n) s.c (by omega)
    refine ⟨hb, Nat.le_trans (Nat.mul_le_mul_right _ hnc) (by rw [h1, hxn]; exact hroom), _, hold, fun c hc => ?_⟩
    refine hK _ _ (by simp only; omega) ?_
    refine hs.updAt k hk fun F' hF' => ⟨[h.size], ⟨by simp only [List.length_append]; omega, .inr ⟨h.size, 0, [], (mRow zero (c - (s.n + x.n))).toList, rfl, rfl, ?_, rfl, hc, ?_⟩⟩, .push _ _ _, by simp, by simp⟩
    · have := Blk.new' h ((xs.flatMap enc ++ ys.flatMap enc).toArray ++ mRow zero (c - (s.n + x.n))) T
      simpa using this
    · rw [Array.length_toList, mRow_length, hz]
      exact Nat.le_refl _
theorem Sep.app1 (hs : Sep h0 h L) (k k2 : Nat) {T bytes b : Nat} {zero : Array Value} {K : Sl → M α} (y : X) (hk : L[k]? = some (aRow enc sz s xs)) (hk2 : L[k2]? = some (aBlk b (enc y))) (hl : ∀ x, (enc x).length = sz) (hone : ∀ v ∈ enc y, v.oneCell' = true)
    (hz : zero.size = sz) (hb : 0 < bytes) (hroom : (2 * (xs.length + 1) + 192) * bytes ≤ 2 ^ 48)
    (hK : ∀ s' h', s'.n = xs.length + 1 → Sep h0 h' (L.set k (aRow enc sz s' (xs ++ [y]))) → K s' h' Q) : mApp T sz bytes zero s ⟨some ⟨b, 0, none⟩, 1, 1⟩ K h Q := by
  refine hs.app_ k [y] hk hl ?_ rfl (by simpa using hone) hz hb (by simpa using hroom) (by simpa using hK)
  unfold slcells
  simp only []
  rw [hcells_blk (hs.blk k2 hk2) _ 0 0 (by rw [hl]; omega)]
  have := hl y
  simp [← this]
theorem Sep.slc (hs : Sep h0 h L) (k : Nat) {lo hi mx : Int} {K : Sl → M α} (hk : L[k]? = some (aRow enc sz s xs)) (hl : ∀ x, (enc x).length = sz) (h1 : 0 ≤ lo) (h2 : lo ≤ hi) (h3 : hi ≤ xs.length) (hmx : mx = s.c)
    (hK : ∀ s' : Sl, s'.n = hi.toNat - lo.toNat → Sep h0 h (L.set k (aRow enc sz s' ((xs.take hi.toNat).drop lo.toNat))) → K s' h Q) : mSlc s sz lo hi mx K h Q := by
  have hcap := hs.rowCap k hk
  have hln := hs.rowLen k hk
  refine ⟨h1, h2, by omega, by omega, hK _ rfl (hs.keep k hk ?_)⟩
  rintro F ⟨g1, g2⟩
  refine ⟨by simp; omega, ?_⟩
  rcases g2 with ⟨hn, hc, hF⟩ | ⟨b, o, pre, rest, e1, e2, e3, e4, e5, e6⟩
  · exact .inl ⟨by show hi.toNat - lo.toNat = 0; omega, by show mx.toNat - lo.toNat = 0; omega, hF⟩
  · have hspl : xs = xs.take lo.toNat ++ ((xs.take hi.toNat).drop lo.toNat ++ xs.drop hi.toNat) := by
      have : xs.take lo.toNat = (xs.take hi.toNat).take lo.toNat := by rw [List.take_take]; congr 1; omega
      rw [this, ← List.append_assoc, List.take_append_drop, List.take_append_drop]
    have hlr : ((xs.drop hi.toNat).flatMap enc).length = (xs.length - hi.toNat) * sz := by rw [flat_length hl, List.length_drop]
    have hl0 : ((xs.take lo.toNat).flatMap enc).length = lo.toNat * sz := by rw [flat_length hl, List.length_take, Nat.min_eq_left (by omega)]
    have hroom : (mx.toNat - lo.toNat - (hi.toNat - lo.toNat)) * sz ≤ (xs.length - hi.toNat) * sz + rest.length := by
      have e : mx.toNat - lo.toNat - (hi.toNat - lo.toNat) = (xs.length - hi.toNat) + (s.c - s.n) := by omega
      rw [e, Nat.add_mul]; omega
    have hb : Blk h b ((pre ++ (xs.take lo.toNat).flatMap enc) ++ ((xs.take hi.toNat).drop lo.toNat).flatMap enc ++ ((xs.drop hi.toNat).flatMap enc ++ rest)) := by
      have : xs.flatMap enc = (xs.take lo.toNat).flatMap enc ++ (((xs.take hi.toNat).drop lo.toNat).flatMap enc ++ (xs.drop hi.toNat).flatMap enc) := by
        rw [← List.flatMap_append, ← List.flatMap_append, ← hspl]
      rw [this] at e3
      simpa [List.append_assoc] using e3
    by_cases hz : mx.toNat = lo.toNat
    · simp only [if_pos hz]
      have hlo : lo.toNat = hi.toNat := by omega
      have he : (xs.take hi.toNat).drop lo.toNat = [] := by apply List.length_eq_zero_iff.1; simp; omega
      refine .inr ⟨b, o, pre, (xs.flatMap enc ++ rest), e1, e2, ?_, e4, by show hi.toNat - lo.toNat ≤ mx.toNat - lo.toNat; omega, by show (mx.toNat - lo.toNat - (hi.toNat - lo.toNat)) * sz ≤ _; rw [show mx.toNat - lo.toNat - (hi.toNat - lo.toNat) = 0 by omega]; omega⟩
      rw [he]
      simpa [List.append_assoc] using e3
    · simp only [if_neg hz]
      refine .inr ⟨b, o + lo.toNat * sz, pre ++ (xs.take lo.toNat).flatMap enc, (xs.drop hi.toNat).flatMap enc ++ rest, by simp [e1], e2, hb, by rw [List.length_append, hl0, e4], by show hi.toNat - lo.toNat ≤ mx.toNat - lo.toNat; omega, ?_⟩
      rw [List.length_append, hlr]
      exact hroom
end app

/-! ### branches -/
section br
variable {α : Type} {h : Hp} {Q : α → Hp → Prop}
theorem mIf_dec {p : Prop} [Decidable p] {x y : M α} (hx : p → x h Q) (hy : ¬ p → y h Q) : mIf (decide p) x y h Q := by
  by_cases hp : p
  · rw [decide_eq_true hp]; exact hx hp
  · rw [decide_eq_false hp]; exact hy hp
theorem mIf_pos {b : Bool} {x y : M α} (hb : b = true) (hx : x h Q) : mIf b x y h Q := by rw [hb]; exact hx
theorem mIf_neg {b : Bool} {x y : M α} (hb : b = false) (hx : y h Q) : mIf b x y h Q := by rw [hb]; exact hx
end br
theorem Sep.argI {α : Type} {h0 h : Hp} {L : List As} {Q : α → Hp → Prop} {k : IntKind} {s : Sl} {zs : List Int} (hs : Sep h0 h L) (hr : RdI h0.size h0 k s zs) {i : Int} {K : Int → M α} (i0 : 0 ≤ i) (i1 : i < zs.length)
    (hk : K (zs[i.toNat]'(by omega)) h Q) : mIdx s i 1 (fun a => mLdI k a K) h Q := by
  refine (hr.under hs.under).idx i0 i1 fun a ha => mLdI_of ha ?_
  have : zs.getD i.toNat 0 = zs[i.toNat]'(by omega) := by simp [show i.toNat < zs.length by omega]
  rw [this]; exact hk
theorem Sep.argB {α : Type} {h0 h : Hp} {L : List As} {Q : α → Hp → Prop} {s : Sl} {zs : List Bool} (hs : Sep h0 h L) (hr : RdB h0.size h0 s zs) {i : Int} {K : Bool → M α} (i0 : 0 ≤ i) (i1 : i < zs.length)
    (hk : K (zs[i.toNat]'(by omega)) h Q) : mIdx s i 1 (fun a => mLdB a K) h Q := by
  refine (hr.under hs.under).idx i0 i1 fun a ha => mLdB_of ha ?_
  have : zs.getD i.toNat false = zs[i.toNat]'(by omega) := by simp [show i.toNat < zs.length by omega]
  rw [this]; exact hk
theorem Sep.argE {X α : Type} {h0 h : Hp} {L : List As} {Q : α → Hp → Prop} {enc : X → List Value} {sz : Nat} {s : Sl} {xs : List X} (hs : Sep h0 h L) (hr : RdE h0.size h0 enc sz s xs) {i : Int} {K : Addr → M α} (i0 : 0 ≤ i) (i1 : i < xs.length)
    (hk : ∀ a, (∀ j v, (enc (xs[i.toNat]'(by omega)))[j]? = some v → hcell h (a.add j) = some v) → K a h Q) : mIdx s i sz K h Q := by
  refine (hr.under hs.under).idx i0 i1 fun x a hx ha => hk a ?_
  have : xs[i.toNat]'(by omega) = x := (List.getElem?_eq_some_iff.1 hx).2
  rw [this]; exact ha
theorem RdB.blk {B b : Nat} {h : Hp} {zs : List Bool} {c : Nat} (hb : Blk h b (zs.map (.bool ·))) (hB : b < B) : RdB B h ⟨some ⟨b, 0, none⟩, zs.length, c⟩ zs :=
  ⟨rfl, fun i z hz => ⟨_, rfl, hB, by
    rw [add_mk, hb.cell, Nat.zero_add]
    simp [hz]⟩⟩
theorem fin_of {h0 h : Hp} {L : List As} (hs : Sep h0 h L) : (Value.bool true) = .bool true ∧ Under h0.size h0 h := ⟨rfl, hs.under⟩

/-! ### rows of structs, as arguments -/
def fieldsOf (P : Program) (t : TypeId) : Option (List (TypeId × Nat)) := match P.underlying t with
  | some (.struct fs) => some (fs.toList.map fun f => (f.type, f.offset))
  | _ => none
section fields
variable {P : Program} {h : Hp}
theorem RdT.fields {t : TypeId} {d : Nat} {cs : List Value} {l : List (TypeId × Nat)} (hl : fieldsOf P t = some l) (hr : RdT P h (d + 1) t cs) :
    cs.length = P.cellsOf t ∧ ∀ (i : Nat) (e : TypeId) (o : Nat), l[i]? = some (e, o) → RdT P h d e ((cs.drop o).take (P.cellsOf e)) := by
  unfold fieldsOf at hl
  unfold RdT at hr
  split at hl
  · rename_i fs hu
    rw [hu] at hr
    simp only [Option.some.injEq] at hl
    subst hl
    refine ⟨hr.1, fun i e o hi => ?_⟩
    rw [List.getElem?_map] at hi
    cases hf : fs.toList[i]? with
    | none => simp [hf] at hi
    | some f =>
      simp only [hf, Option.map_some, Option.some.injEq, Prod.mk.injEq] at hi
      obtain ⟨rfl, rfl⟩ := hi
      exact hr.2 i f (by simpa using hf)
  · cases hl
theorem RdT.int {t : TypeId} {d : Nat} {k : IntKind} {cs : List Value} (hu : P.underlying t = some (.int k)) (hr : RdT P h (d + 1) t cs) : ∃ n, cs = [.int k n] ∧ k.min ≤ n ∧ n ≤ k.max := by
  unfold RdT at hr; rw [hu] at hr; exact hr
theorem RdT.bool {t : TypeId} {d : Nat} {cs : List Value} (hu : P.underlying t = some .bool) (hr : RdT P h (d + 1) t cs) : ∃ n, cs = [.bool n] := by
  unfold RdT at hr; rw [hu] at hr; exact hr
theorem RdT.string {t : TypeId} {d : Nat} {cs : List Value} (hu : P.underlying t = some .string) (hr : RdT P h (d + 1) t cs) : ∃ n, cs = [.string n] := by
  unfold RdT at hr; rw [hu] at hr; exact hr
theorem open_rdEok {X : Type} {enc : X → List Value} {ok : X → Prop} {sz : Nat} {t e : TypeId} {a : Option Addr} {len cap d : Nat} (ht : P.underlying t = some (.slice e)) (hsz : P.cellsOf e = sz) (hpos : ∀ x, (enc x) ≠ [])
    (henc : ∀ cs, RdT P h d e cs → ∃ x, cs = enc x ∧ ok x) (hr : RdT P h (d + 1) t [.slice a len cap]) : ∃ xs, RdE h.size h enc sz ⟨a, len, cap⟩ xs ∧ ∀ x ∈ xs, ok x := by
  obtain ⟨xs, hx⟩ := open_rdE (X := { x : X // ok x }) (enc := fun x => enc x.1) (sz := sz) ht hsz (fun x => hpos x.1) (fun cs hcs => by
    obtain ⟨x, e, o⟩ := henc cs hcs
    exact ⟨⟨x, o⟩, e⟩) hr
  refine ⟨xs.map (·.1), ⟨by rw [List.length_map]; exact hx.n, fun i z hz => ?_⟩, ?_⟩
  · rw [List.getElem?_map] at hz
    cases hxi : xs[i]? with
    | none => simp [hxi] at hz
    | some x =>
      simp only [hxi, Option.map_some, Option.some.injEq] at hz
      subst hz
      exact hx.at_ i x hxi
  · intro z hz
    obtain ⟨x, _, rfl⟩ := List.mem_map.1 hz
    exact x.2
end fields

/-- in another order -/
theorem range_filterMap {X : Type} (L : List X) : (List.range L.length).filterMap (L[·]?) = L := by
  induction L with
  | nil => rfl
  | cons x l ih =>
    rw [List.length_cons, List.range_succ_eq_map, List.filterMap_cons]
    simp only [List.getElem?_cons_zero, List.filterMap_map, Function.comp_def, List.getElem?_cons_succ]
    rw [ih]
theorem Sep.re {h0 h : Hp} {L : List As} (hs : Sep h0 h L) (is : List Nat) (hp : is.isPerm (List.range L.length) = true) : Sep h0 h (is.filterMap (L[·]?)) := by
  refine hs.perm ?_
  have h1 : (is.filterMap (L[·]?)).Perm ((List.range L.length).filterMap (L[·]?)) := (List.isPerm_iff.1 hp).filterMap _
  rw [range_filterMap] at h1
  exact h1.symm
/-! ### maps -/
theorem HMap.frame {h h' : Hp} {r : Nat} {kd : IntKind} {f : Int → Option Value} {n : Nat} (hm : HMap h r kd f n) (he : h'[r]? = h[r]?) : HMap h' r kd f n := by
  obtain ⟨m, c, h1, h2⟩ := hm
  exact ⟨m, c, by rw [he, h1], h2⟩
theorem HMap.lt {h : Hp} {r : Nat} {kd : IntKind} {f : Int → Option Value} {n : Nat} (hm : HMap h r kd f n) : r < h.size := by
  obtain ⟨m, c, h1, h2⟩ := hm
  exact (Array.getElem?_eq_some_iff.1 h1).1
theorem HMap.new' (h : Hp) (kd : IntKind) : HMap (h.push (.map #[] 0)) h.size kd (fun _ => none) 0 := ⟨[], 0, by simp, by simp, rfl, by simp⟩
/-- a map that is one's own -/
def aMap (r : Nat) (kd : IntKind) (f : Int → Option Value) (n : Nat) : As := ⟨fun F h => F = [r] ∧ HMap h r kd f n, fun F h h' ⟨hF, hb⟩ he => ⟨hF, hb.frame (he r (by simp [hF]))⟩, fun F h ⟨hF, hb⟩ b' hb' => by
  subst hF
  simp only [List.mem_singleton] at hb'
  subst hb'
  exact hb.lt⟩
section map
variable {α : Type} {h0 h : Hp} {L : List As} {Q : α → Hp → Prop} {r n : Nat} {kd : IntKind} {f : Int → Option Value} {key : Int} {v z : Value}
theorem Sep.mapNew (hs : Sep h0 h L) (kd : IntKind) {K : Nat → M α} (hK : ∀ r h', Sep h0 h' (aMap r kd (fun _ => none) 0 :: L) → K r h' Q) : mMapNew K h Q := by
  refine hK _ _ (hs.emp.upd ?_)
  rintro F rfl
  exact ⟨[h.size], ⟨rfl, .new' h kd⟩, .push _ _ _, by simp, by simp⟩
theorem Sep.map (hs : Sep h0 h L) (k : Nat) (hk : L[k]? = some (aMap r kd f n)) : HMap h r kd f n := by
  obtain ⟨F, ⟨_, hm⟩, _⟩ := hs.holds k hk
  exact hm
theorem Sep.mapGet (hs : Sep h0 h L) (k : Nat) {K : Value → Bool → M α} (hk : L[k]? = some (aMap r kd f n)) (hK : K ((f key).getD z) (f key).isSome h Q) : mMapGet kd r key z K h Q := ⟨f, n, hs.map k hk, hK⟩
theorem Sep.mapLen (hs : Sep h0 h L) (k : Nat) {K : Nat → M α} (hk : L[k]? = some (aMap r kd f n)) (hK : K n h Q) : mMapLen kd r K h Q := ⟨f, n, hs.map k hk, hK⟩
theorem Sep.mapUpd (hs : Sep h0 h L) (k : Nat) {f' : Int → Option Value} {n' : Nat} {h' : Hp} (hk : L[k]? = some (aMap r kd f n)) (hz : h'.size = h.size) (he : ∀ b, b ≠ r → h'[b]? = h[b]?) (hm : HMap h' r kd f' n') : Sep h0 h' (L.set k (aMap r kd f' n')) := by
  refine hs.updAt k hk ?_
  rintro F ⟨rfl, _⟩
  exact ⟨[r], ⟨rfl, hm⟩, ⟨by omega, fun i _ hi => he i (by simpa using hi)⟩, id, fun b hb => .inl hb⟩
theorem Sep.mapSet (hs : Sep h0 h L) (k : Nat) {K : M α} (hk : L[k]? = some (aMap r kd f n)) (hK : ∀ h', Sep h0 h' (L.set k (aMap r kd (fun j => if j = key then some v else f j) (if (f key).isSome then n else n + 1))) → K h' Q) : mMapSet kd r key v K h Q :=
  ⟨f, n, hs.map k hk, fun h' h1 h2 h3 => hK h' (hs.mapUpd k hk h1 h2 h3)⟩
theorem Sep.mapDel (hs : Sep h0 h L) (k : Nat) {K : M α} (hk : L[k]? = some (aMap r kd f n)) (hK : ∀ h', Sep h0 h' (L.set k (aMap r kd (fun j => if j = key then none else f j) (if (f key).isSome then n - 1 else n))) → K h' Q) : mMapDel kd r key K h Q :=
  ⟨f, n, hs.map k hk, fun h' h1 h2 h3 => hK h' (hs.mapUpd k hk h1 h2 h3)⟩
@[simp] theorem mNilM_some {α : Type} (a : Nat) (k : Nat → M α) : mNilM (some a) k = k a := id rfl
@[simp] theorem unM_map {α : Type} (b : Option Nat) (k : Option Nat → M α) : unM (.map b) k = k b := id rfl
theorem Sep.ldM (hs : Sep h0 h L) (k : Nat) {b o : Nat} {cs : List Value} {p : Option Nat} {K : Option Nat → M α} (hk : L[k]? = some (aBlk b cs)) (hc : cs[o]? = some (.map p)) (hK : K p h Q) : mLdM ⟨b, o, none⟩ K h Q :=
  ⟨p, by rw [(hs.blk k hk).cell, hc], hK⟩
end map
/-! ### arguments, by natural numbers -/
theorem Sep.argIn {α : Type} {h0 h : Hp} {L : List As} {Q : α → Hp → Prop} {k : IntKind} {s : Sl} {zs : List Int} (hs : Sep h0 h L) (hr : RdI h0.size h0 k s zs) {j : Nat} {K : Int → M α} (hj : j < zs.length) (hk : K (zs[j]'hj) h Q) : mIdx s (j : Int) 1 (fun a => mLdI k a K) h Q :=
  hs.argI hr (by omega) (by omega) hk
theorem Sep.argBn {α : Type} {h0 h : Hp} {L : List As} {Q : α → Hp → Prop} {s : Sl} {zs : List Bool} (hs : Sep h0 h L) (hr : RdB h0.size h0 s zs) {j : Nat} {K : Bool → M α} (hj : j < zs.length) (hk : K (zs[j]'hj) h Q) : mIdx s (j : Int) 1 (fun a => mLdB a K) h Q :=
  hs.argB hr (by omega) (by omega) hk
/-- an element that is told: its cells -/
structure Arg {X : Type} (h : Hp) (enc : X → List Value) (x : X) (a : Addr) : Prop where
  at_ : ∀ j v, (enc x)[j]? = some v → hcell h (a.add j) = some v
section arg
variable {X : Type} {h : Hp} {enc : X → List Value} {x : X} {a : Addr} {α : Type} {Q : α → Hp → Prop} {j : Nat}
theorem Sep.argEn {L : List As} {h0 : Hp} {sz : Nat} {s : Sl} {xs : List X} (hs : Sep h0 h L) (hr : RdE h0.size h0 enc sz s xs) {j : Nat} {K : Addr → M α} (hj : j < xs.length) (hk : ∀ a, Arg h enc (xs[j]'hj) a → K a h Q) : mIdx s (j : Int) sz K h Q :=
  hs.argE hr (by omega) (by omega) fun a ha => hk a ⟨ha⟩
theorem Arg.ldI (ha : Arg h enc x a) {kd : IntKind} {n : Int} {K : Int → M α} (hc : (enc x)[j]? = some (.int kd n)) (hK : K n h Q) : mLdI kd (a.add j) K h Q := mLdI_of (ha.at_ _ _ hc) hK
theorem Arg.ldB (ha : Arg h enc x a) {n : Bool} {K : Bool → M α} (hc : (enc x)[j]? = some (.bool n)) (hK : K n h Q) : mLdB (a.add j) K h Q := mLdB_of (ha.at_ _ _ hc) hK
theorem Arg.ldS (ha : Arg h enc x a) {n : ByteArray} {K : ByteArray → M α} (hc : (enc x)[j]? = some (.string n)) (hK : K n h Q) : mLdS (a.add j) K h Q := mLdS_of (ha.at_ _ _ hc) hK
theorem Arg.ldL (ha : Arg h enc x a) {p : Option Addr} {n c : Nat} {K : Sl → M α} (hc : (enc x)[j]? = some (.slice p n c)) (hK : K ⟨p, n, c⟩ h Q) : mLdL (a.add j) K h Q := mLdL_of (ha.at_ _ _ hc) hK
theorem Arg.ldI0 (ha : Arg h enc x a) {kd : IntKind} {n : Int} {K : Int → M α} (hc : (enc x)[0]? = some (.int kd n)) (hK : K n h Q) : mLdI kd a K h Q := by rw [← Addr.add_zero' a]; exact ha.ldI hc hK
theorem Arg.ldB0 (ha : Arg h enc x a) {n : Bool} {K : Bool → M α} (hc : (enc x)[0]? = some (.bool n)) (hK : K n h Q) : mLdB a K h Q := by rw [← Addr.add_zero' a]; exact ha.ldB hc hK
theorem Arg.ldS0 (ha : Arg h enc x a) {n : ByteArray} {K : ByteArray → M α} (hc : (enc x)[0]? = some (.string n)) (hK : K n h Q) : mLdS a K h Q := by rw [← Addr.add_zero' a]; exact ha.ldS hc hK
theorem Arg.ldL0 (ha : Arg h enc x a) {p : Option Addr} {n c : Nat} {K : Sl → M α} (hc : (enc x)[0]? = some (.slice p n c)) (hK : K ⟨p, n, c⟩ h Q) : mLdL a K h Q := by rw [← Addr.add_zero' a]; exact ha.ldL hc hK
end arg

attribute [irreducible] aBlk aRow aStar aEx aPure aEmp aMap
end Go.Sb
