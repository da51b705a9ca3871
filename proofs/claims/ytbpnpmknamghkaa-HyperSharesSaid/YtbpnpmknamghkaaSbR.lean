/- From a row's arguments to the small logic: what an argument that can be read as data holds, cell by cell; and from the small logic back to the row. Conditions: none. -/
import Derived.Test.YtbpnpmknamghkaaSbU
import Derived.WalkKit
import Derived.ProofKit
import Derived.OpenShut
import Derived.ShutString
import Derived.ChangeOld
import Derived.Below
import Derived.Deep.Slices
namespace Go.Sb
open Go

def RdT (P : Program) (h : Hp) : Nat → TypeId → List Value → Prop
  | 0, _, _ => True
  | d + 1, t, cs => match P.underlying t with
    | some .bool => ∃ b, cs = [.bool b]
    | some (.int k) => ∃ n, cs = [.int k n] ∧ k.min ≤ n ∧ n ≤ k.max
    | some .string => ∃ s, cs = [.string s]
    | some (.slice e) => cs = [.slice none 0 0] ∨ ∃ a len cap, cs = [.slice (some a) len cap] ∧ len ≤ cap ∧ cap ≤ maxLen ∧
        ∀ i, i < len → ∃ cs', cs'.length = P.cellsOf e ∧ (∀ j v, cs'[j]? = some v → hcell h ((a.add (i * P.cellsOf e)).add j) = some v) ∧ RdT P h d e cs'
    | some (.struct fs) => cs.length = P.cellsOf t ∧ ∀ (i : Nat) (f : Field), fs[i]? = some f → RdT P h d f.type ((cs.drop f.offset).take (P.cellsOf f.type))
    | some (.array n e) => cs.length = P.cellsOf t ∧ ∀ i, i < n → RdT P h d e ((cs.drop (i * P.cellsOf e)).take (P.cellsOf e))
    | _ => True

section
variable {H : Type} {enc : TypeId × Value → H} {P : Program} {w : World} {base : Nat} {spare : Nat → Bool} {held : Bool}
theorem RdT_of_trod : ∀ (d : Nat) (t : TypeId) (cs : List Value) (fuel : Nat) (x : DataW H × List MemPlace), DataW.trod enc P w base spare held fuel t cs = some x → RdT P w.heap d t cs
  | 0, _, _, _, _, _ => trivial
  | d + 1, t, cs, fuel, x, h => by
    unfold RdT
    cases hu : P.underlying t with
    | none => trivial
    | some ty =>
      cases ty <;> simp only [] <;> try trivial
      case bool =>
        cases fuel with
        | zero => simp [DataW.trod] at h
        | succ n =>
          unfold DataW.trod at h
          rw [hu] at h
          split at h <;> simp_all
      case int k =>
        cases fuel with
        | zero => simp [DataW.trod] at h
        | succ n =>
          unfold DataW.trod at h
          rw [hu] at h
          split at h <;> simp_all [Lit.wf]
      case string =>
        cases fuel with
        | zero => simp [DataW.trod] at h
        | succ n =>
          unfold DataW.trod at h
          rw [hu] at h
          split at h <;> simp_all
      case slice e =>
        rcases Go.Deep.open_slice hu h with ⟨h0, _⟩ | ⟨a, len, cap, m, n, D, Pl, rfl, _, hl, hm, hmm, _, hi⟩
        · exact .inl h0
        · refine .inr ⟨a, len, cap, rfl, hl, hm, fun i hil => ?_⟩
          have : i < m := by rw [hmm]; split <;> omega
          obtain ⟨cs', hc, ht⟩ := hi i this
          obtain ⟨_, hcl, hat⟩ := World.cells?_some hc
          refine ⟨cs', hcl, fun j v hj => ?_, RdT_of_trod d e cs' n _ ht⟩
          have hjl : j < P.cellsOf e := by have := (List.getElem?_eq_some_iff.1 hj).1; omega
          have := hat j hjl
          rw [hj] at this
          exact this
      case struct fs =>
        obtain ⟨xs, n, _, _, hlen, _, hf⟩ := DataW.trod_struct hu h
        refine ⟨hlen, fun i f hif => ?_⟩
        have h1 := hf i f hif
        have hlt : i < xs.length := by have := (Array.getElem?_eq_some_iff.1 hif).1; omega
        rw [List.getElem?_eq_getElem hlt] at h1
        exact RdT_of_trod d f.type _ n _ h1
      case array n e =>
        cases fuel with
        | zero => simp [DataW.trod] at h
        | succ m =>
          unfold DataW.trod at h
          rw [hu] at h
          simp only [] at h
          by_cases hlen : cs.length = P.cellsOf t
          · refine ⟨hlen, fun i hi => ?_⟩
            rw [if_pos hlen] at h
            cases hm : (List.range n).mapM fun i => DataW.trod enc P w base spare held m e ((cs.drop (i * P.cellsOf e)).take (P.cellsOf e)) with
            | none => rw [hm] at h; cases h
            | some xs =>
              have hx : ∀ (l : List Nat) (ys : List (DataW H × List MemPlace)), (l.mapM fun i => DataW.trod enc P w base spare held m e ((cs.drop (i * P.cellsOf e)).take (P.cellsOf e))) = some ys → ∀ i ∈ l, ∃ y, DataW.trod enc P w base spare held m e ((cs.drop (i * P.cellsOf e)).take (P.cellsOf e)) = some y := by
                intro l
                induction l with
                | nil => intro ys _ i hi; cases hi
                | cons k l ih =>
                  intro ys hys i hi
                  rw [List.mapM_cons] at hys
                  cases hk : DataW.trod enc P w base spare held m e ((cs.drop (k * P.cellsOf e)).take (P.cellsOf e)) with
                  | none => rw [hk] at hys; cases hys
                  | some y =>
                    rw [hk] at hys
                    cases hl : l.mapM fun i => DataW.trod enc P w base spare held m e ((cs.drop (i * P.cellsOf e)).take (P.cellsOf e)) with
                    | none => simp only [Option.bind_eq_bind, Option.bind_some, hl] at hys; cases hys
                    | some ys' =>
                      rcases List.mem_cons.1 hi with rfl | hi
                      · exact ⟨y, hk⟩
                      · exact ih ys' hl i hi
              obtain ⟨y, hy⟩ := hx _ _ hm i (List.mem_range.2 hi)
              exact RdT_of_trod d e _ m _ hy
          · rw [if_neg hlen] at h; cases h
theorem RdT_of_Trod {t : TypeId} {v : Value} {dd : DataW H} {ps : List MemPlace} (d : Nat) (h : DataW.Trod enc P w base spare held t v dd ps) : RdT P w.heap d t v.cells.toList := by
  obtain ⟨fuel, hf⟩ := h
  exact RdT_of_trod d t _ fuel _ hf
end

theorem list_of {X : Type} {R : Nat → X → Prop} : ∀ n, (∀ i, i < n → ∃ x, R i x) → ∃ xs : List X, xs.length = n ∧ ∀ i x, xs[i]? = some x → R i x
  | 0, _ => ⟨[], rfl, by simp⟩
  | n + 1, h => by
    obtain ⟨xs, h1, h2⟩ := list_of n fun i hi => h i (by omega)
    obtain ⟨x, hx⟩ := h n (by omega)
    refine ⟨xs ++ [x], by simp [h1], fun i y hy => ?_⟩
    by_cases hi : i < xs.length
    · rw [List.getElem?_append_left hi] at hy; exact h2 i y hy
    · rw [List.getElem?_append_right (by omega)] at hy
      have : i - xs.length = 0 := by
        have := (List.getElem?_eq_some_iff.1 hy).1
        simp at this; omega
      rw [this] at hy
      simp at hy
      subst hy
      rwa [show i = n by omega]

/-- a row of elements that can be read, below block B -/
structure RdE {X : Type} (B : Nat) (h : Hp) (enc : X → List Value) (sz : Nat) (s : Sl) (xs : List X) : Prop where
  n : s.n = xs.length
  at_ : ∀ i x, xs[i]? = some x → ∃ a, s.p = some a ∧ a.block < B ∧ ∀ j v, (enc x)[j]? = some v → hcell h ((a.add (i * sz)).add j) = some v
theorem RdE.under {X : Type} {B : Nat} {h h' : Hp} {enc : X → List Value} {sz : Nat} {s : Sl} {xs : List X} (hr : RdE B h enc sz s xs) (hu : Under B h h') : RdE B h' enc sz s xs :=
  ⟨hr.n, fun i x hx => by
    obtain ⟨a, h1, h2, h3⟩ := hr.at_ i x hx
    exact ⟨a, h1, h2, fun j v hv => by rw [hu.cell (by rw [add_block, add_block]; exact h2)]; exact h3 j v hv⟩⟩
theorem RdE.idx {X α : Type} {B : Nat} {h : Hp} {enc : X → List Value} {sz : Nat} {s : Sl} {xs : List X} (hr : RdE B h enc sz s xs) {i : Int} {K : Addr → M α} {Q : α → Hp → Prop} (h0 : 0 ≤ i) (h1 : i < xs.length)
    (hk : ∀ (x : X) (a : Addr), xs[i.toNat]? = some x → (∀ j v, (enc x)[j]? = some v → hcell h (a.add j) = some v) → K a h Q) : mIdx s i sz K h Q := by
  have hlt : i.toNat < xs.length := by omega
  obtain ⟨a, e1, _, e3⟩ := hr.at_ i.toNat _ (List.getElem?_eq_getElem hlt)
  exact ⟨a, e1, h0, by rw [hr.n]; exact h1, hk _ _ (List.getElem?_eq_getElem hlt) e3⟩

theorem hcell_lt {h : Hp} {a : Addr} {v : Value} (hc : hcell h a = some v) : a.block < h.size := by
  unfold hcell at hc
  rcases Nat.lt_or_ge a.block h.size with h' | h'
  · exact h'
  · simp [Array.getElem?_eq_none h'] at hc
section open_
variable {P : Program} {h : Hp}
theorem open_rdE {X : Type} {enc : X → List Value} {sz : Nat} {t e : TypeId} {a : Option Addr} {len cap d : Nat} (ht : P.underlying t = some (.slice e)) (hsz : P.cellsOf e = sz) (hpos : ∀ x, (enc x) ≠ [])
    (henc : ∀ cs, RdT P h d e cs → ∃ x, cs = enc x) (hr : RdT P h (d + 1) t [.slice a len cap]) : ∃ xs, RdE h.size h enc sz ⟨a, len, cap⟩ xs := by
  unfold RdT at hr
  rw [ht] at hr
  simp only [] at hr
  rcases hr with h0 | ⟨ad, l, c, hcs, _, _, hi⟩
  · simp only [List.cons.injEq, Value.slice.injEq, and_true] at h0
    obtain ⟨rfl, rfl, rfl⟩ := h0
    exact ⟨[], rfl, by simp⟩
  · simp only [List.cons.injEq, Value.slice.injEq, and_true] at hcs
    obtain ⟨rfl, rfl, rfl⟩ := hcs
    obtain ⟨xs, h1, h2⟩ := list_of (R := fun i x => ∀ j v, (enc x)[j]? = some v → hcell h ((ad.add (i * sz)).add j) = some v) len fun i hil => by
      obtain ⟨cs', hl, hc, hrd⟩ := hi i hil
      obtain ⟨x, rfl⟩ := henc cs' hrd
      rw [hsz] at hc
      exact ⟨x, hc⟩
    refine ⟨xs, h1.symm, fun i x hx => ⟨ad, rfl, ?_, h2 i x hx⟩⟩
    cases hex : enc x with
    | nil => exact absurd hex (hpos x)
    | cons v vs =>
      have := h2 i x hx 0 v (by rw [hex]; rfl)
      have := hcell_lt this
      rwa [add_block, add_block] at this
theorem open_rdI {k : IntKind} {t e : TypeId} {a : Option Addr} {len cap d : Nat} (ht : P.underlying t = some (.slice e)) (he : P.underlying e = some (.int k)) (hsz : P.cellsOf e = 1)
    (hr : RdT P h (d + 2) t [.slice a len cap]) : ∃ zs, RdI h.size h k ⟨a, len, cap⟩ zs := by
  obtain ⟨xs, hx⟩ := open_rdE (X := { n : Int // k.min ≤ n ∧ n ≤ k.max }) (enc := fun x => [.int k x.1]) ht hsz (by simp) (fun cs hcs => by
    unfold RdT at hcs
    rw [he] at hcs
    obtain ⟨n, rfl, h1, h2⟩ := hcs
    exact ⟨⟨n, h1, h2⟩, rfl⟩) hr
  refine ⟨xs.map (·.1), by rw [List.length_map]; exact hx.n, fun i z hz => ?_, ?_⟩
  · rw [List.getElem?_map] at hz
    cases hxi : xs[i]? with
    | none => simp [hxi] at hz
    | some x =>
      simp only [hxi, Option.map_some, Option.some.injEq] at hz
      subst hz
      obtain ⟨ad, h1, h2, h3⟩ := hx.at_ i x hxi
      refine ⟨ad, h1, h2, ?_⟩
      have := h3 0 (.int k x.1) rfl
      simpa [Addr.add] using this
  · intro z hz
    obtain ⟨x, _, rfl⟩ := List.mem_map.1 hz
    exact x.2
theorem open_rdB {t e : TypeId} {a : Option Addr} {len cap d : Nat} (ht : P.underlying t = some (.slice e)) (he : P.underlying e = some .bool) (hsz : P.cellsOf e = 1)
    (hr : RdT P h (d + 2) t [.slice a len cap]) : ∃ zs, RdB h.size h ⟨a, len, cap⟩ zs := by
  obtain ⟨xs, hx⟩ := open_rdE (X := Bool) (enc := fun x => [.bool x]) ht hsz (by simp) (fun cs hcs => by
    unfold RdT at hcs
    rw [he] at hcs
    obtain ⟨n, rfl⟩ := hcs
    exact ⟨n, rfl⟩) hr
  refine ⟨xs, hx.n, fun i z hz => ?_⟩
  obtain ⟨ad, h1, h2, h3⟩ := hx.at_ i z hz
  refine ⟨ad, h1, h2, ?_⟩
  have := h3 0 (.bool z) rfl
  simpa [Addr.add] using this
end open_

theorem wf_i64 {a : Int} (h : (Lit.int .i64 a).wf = true) : -9223372036854775808 ≤ a ∧ a ≤ 9223372036854775807 := by
  have h1 : IntKind.i64.min = -9223372036854775808 := by decide
  have h2 : IntKind.i64.max = 9223372036854775807 := by decide
  simpa [Lit.wf, h1, h2] using h
theorem wf_u64 {a : Int} (h : (Lit.int .u64 a).wf = true) : 0 ≤ a ∧ a ≤ 18446744073709551615 := by
  have h1 : IntKind.u64.min = 0 := by decide
  have h2 : IntKind.u64.max = 18446744073709551615 := by decide
  simpa [Lit.wf, h1, h2] using h
theorem wf_u8 {a : Int} (h : (Lit.int .u8 a).wf = true) : 0 ≤ a ∧ a ≤ 255 := by
  have h1 : IntKind.u8.min = 0 := by decide
  have h2 : IntKind.u8.max = 255 := by decide
  simpa [Lit.wf, h1, h2] using h
theorem wf_u16 {a : Int} (h : (Lit.int .u16 a).wf = true) : 0 ≤ a ∧ a ≤ 65535 := by
  have h1 : IntKind.u16.min = 0 := by decide
  have h2 : IntKind.u16.max = 65535 := by decide
  simpa [Lit.wf, h1, h2] using h
theorem wf_u32 {a : Int} (h : (Lit.int .u32 a).wf = true) : 0 ≤ a ∧ a ≤ 4294967295 := by
  have h1 : IntKind.u32.min = 0 := by decide
  have h2 : IntKind.u32.max = 4294967295 := by decide
  simpa [Lit.wf, h1, h2] using h
/-- from the small logic to the row: what is asked of the walk -/
theorem Nf.below {P : Program} {f : FuncId} {args : Array Value} {W : World} {r : Value} (hc : Callable P f) (hn : Nf P f args W.heap fun v h' => v = r ∧ Under W.heap.size W.heap h') : Calls P f args W fun e w' => e = .returned r ∧ RowKit.Below W.heap.size W w' :=
  match hn with
  | .inl hn => (hn.2 W rfl).mono fun _ _ ⟨_, he, hk, hv, hu⟩ => ⟨by rw [he, hv], hk.2.1, hk.1, hk.2.2, hu.size, hu.at_⟩
  | .inr (.inl ⟨v, h1, _⟩) => by
    have h2 := hc args W
    rw [h1 W rfl] at h2
    cases h2
  | .inr (.inr hn) => by
    obtain ⟨v, w', h1, _⟩ := hn W rfl
    have h2 := hc args W
    rw [h1] at h2
    cases h2
end Go.Sb
