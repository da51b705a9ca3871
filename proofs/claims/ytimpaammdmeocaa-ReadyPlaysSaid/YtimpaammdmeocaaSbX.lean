/- Taking an element out of a row in place (the rest moved up, the last cell cleared). Conditions: none. -/
import Derived.Test.YtimpaammdmeocaaSbW
namespace Go.Sb
open Go
set_option linter.unusedSimpArgs false
set_option linter.unusedVariables false
section
variable {α : Type} {h0 h : Hp} {L : List As} {Q : α → Hp → Prop} {X : Type} {enc : X → List Value} {sz : Nat} {s : Sl} {xs : List X}
/-- cells are laid into a row, from element lo on -/
theorem Sep.vset (hs : Sep h0 h L) (k : Nat) {lo : Nat} (ys : List X) (hk : L[k]? = some (aRow enc sz s xs)) (hl : ∀ x, (enc x).length = sz) (hlo : lo + ys.length ≤ xs.length) (hne : 0 < ys.length) :
    ∃ a, s.p = some a ∧ hfree h (a.add (lo * sz)) 0 (ys.flatMap enc).length ∧ Sep h0 (hsets h (a.add (lo * sz)) 0 (ys.flatMap enc)) (L.set k (aRow enc sz s (xs.take lo ++ (ys ++ xs.drop (lo + ys.length))))) := by
  have hfl := flat_length hl xs
  have hyl := flat_length hl ys
  have hle : (lo + ys.length) * sz ≤ xs.length * sz := Nat.mul_le_mul_right _ hlo
  rw [Nat.add_mul] at hle
  obtain ⟨F, hF, _⟩ := hs.holds k hk
  unfold aRow at hF
  obtain ⟨h1, h2⟩ := hF
  rcases h2 with ⟨hn, hc, _⟩ | ⟨b, o, pre, rest, e1, rfl, e3, e4, e5, e6⟩
  · omega
  refine ⟨_, e1, ?_⟩
  simp only [add_mk]
  have hbl : o + lo * sz + 0 + (ys.flatMap enc).length ≤ (pre ++ xs.flatMap enc ++ rest).length := by
    simp only [List.length_append, hfl, hyl]; omega
  obtain ⟨g1, g2⟩ := hsets_blk (ys.flatMap enc) h (o + lo * sz) 0 _ e3 hbl
  refine ⟨fun j hj0 hj => ?_, hs.updAt k hk ?_⟩
  · rw [add_mk, e3.cell, e3.free]
    exact ⟨by rw [List.getElem?_eq_getElem (by omega)]; rfl, rfl⟩
  · unfold aRow
    rintro F ⟨_, ⟨hn0, _⟩ | ⟨b', o', pre', rest', f1, rfl, _⟩⟩
    · omega
    · rw [e1] at f1
      simp only [Option.some.injEq, Addr.mk.injEq, and_true] at f1
      obtain ⟨rfl, rfl⟩ := f1
      refine ⟨[b], ⟨by simp only [List.length_append, List.length_take, List.length_drop]; omega, .inr ⟨b, o, pre, rest, e1, rfl, ?_, e4, e5, e6⟩⟩, g2.mono fun i _ hi => by simp [hi], id, fun b hb => .inl hb⟩
      have hA : ((xs.take lo).flatMap enc).length = lo * sz := by rw [flat_length hl, List.length_take, Nat.min_eq_left (by omega)]
      have hspl : xs = xs.take lo ++ ((xs.drop lo).take ys.length ++ xs.drop (lo + ys.length)) := by rw [← List.drop_drop, List.take_append_drop, List.take_append_drop]
      have hB : (((xs.drop lo).take ys.length).flatMap enc).length = (ys.flatMap enc).length := by rw [flat_length hl, hyl, List.length_take, List.length_drop, Nat.min_eq_left (by omega)]
      have hC : xs.flatMap enc = (xs.take lo).flatMap enc ++ (((xs.drop lo).take ys.length).flatMap enc ++ (xs.drop (lo + ys.length)).flatMap enc) := by rw [← List.flatMap_append, ← List.flatMap_append, ← hspl]
      rw [Nat.add_zero, hC] at g1
      have e7 : o + lo * sz = (pre ++ (xs.take lo).flatMap enc).length := by rw [List.length_append, hA, e4]
      have e8 : pre ++ ((xs.take lo).flatMap enc ++ (((xs.drop lo).take ys.length).flatMap enc ++ (xs.drop (lo + ys.length)).flatMap enc)) ++ rest
          = (pre ++ (xs.take lo).flatMap enc) ++ ((((xs.drop lo).take ys.length).flatMap enc) ++ ((xs.drop (lo + ys.length)).flatMap enc ++ rest)) := by simp only [List.append_assoc]
      rw [e8, e7, List.take_left' rfl, ← List.drop_drop, List.drop_left' rfl, ← hB, List.drop_left' rfl] at g1
      rw [List.flatMap_append, List.flatMap_append, e7]
      simpa only [List.append_assoc] using g1
/-- the first m of a row -/
theorem Sep.cut (hs : Sep h0 h L) (k : Nat) (hk : L[k]? = some (aRow enc sz s xs)) (hl : ∀ x, (enc x).length = sz) {m : Nat} (hm : m ≤ xs.length) : Sep h0 h (L.set k (aRow enc sz ⟨s.p, m, s.c⟩ (xs.take m))) := by
  have := (Sep.slc (α := Unit) hs k (lo := 0) (hi := m) (mx := s.c) (K := fun s' h' _ => Sep h0 h' (L.set k (aRow enc sz s' ((xs.take m).drop 0)))) (Q := fun _ _ => True) hk hl (by omega) (by omega) (by omega) rfl (fun s' _ hs => by simpa using hs)).2.2.2.2
  have e : (⟨if (s.c : Int).toNat = (0 : Int).toNat then s.p else s.p.map (·.add ((0 : Int).toNat * sz)), (m : Int).toNat - (0 : Int).toNat, (s.c : Int).toNat - (0 : Int).toNat⟩ : Sl) = ⟨s.p, m, s.c⟩ := by
    congr 1
    split
    · rfl
    · cases s.p with
      | none => rfl
      | some a => simp [Addr.add_zero']
  rw [e] at this
  simpa using this
/-- one element is taken out -/
theorem Sep.delete (hs : Sep h0 h L) (k : Nat) (hk : L[k]? = some (aRow enc sz s xs)) (hl : ∀ x, (enc x).length = sz) {i : Nat} (hi : i < xs.length) {T bytes : Nat} {zero : Array Value} {A : M α} {K : Sl → M α} (z : X) (hz : zero.toList = enc z) (hone : ∀ x, ∀ v ∈ enc x, v.oneCell' = true)
    (hK : ∀ s' h', s'.n = xs.length - 1 → Sep h0 h' (L.set k (aRow enc sz s' (xs.eraseIdx i))) → K s' h' Q) :
    (mSlc s sz (i : Int) ((i : Int) + 1) (s.n : Int) fun _ => mIf ((i : Int) == (i : Int) + 1) A (mSlc s sz 0 (i : Int) (s.c : Int) fun x22 => mSlc s sz ((i : Int) + 1) (s.n : Int) (s.c : Int) fun x25 =>
      mApp T sz bytes zero x22 x25 fun x26 => mSlc x26 sz (x26.n : Int) (s.n : Int) (x26.c : Int) fun x31 => mClear sz zero x31 (K x26))) h Q := by
  have hcap := hs.rowCap k hk
  have hln := hs.rowLen k hk
  have hkl : k < L.length := by
    rcases Nat.lt_or_ge k L.length with h | h
    · exact h
    · rw [List.getElem?_eq_none h] at hk; cases hk
  refine ⟨by omega, by omega, by omega, by omega, ?_⟩
  rw [show ((i : Int) == (i : Int) + 1) = false by simp; omega]
  refine mIf_neg rfl ?_
  have e0 : ∀ m : Nat, (⟨if (s.c : Int).toNat = (0 : Int).toNat then s.p else s.p.map (·.add ((0 : Int).toNat * sz)), (m : Int).toNat - (0 : Int).toNat, (s.c : Int).toNat - (0 : Int).toNat⟩ : Sl) = ⟨s.p, m, s.c⟩ := by
    intro m
    congr 1
    split
    · rfl
    · cases s.p with
      | none => rfl
      | some a => simp [Addr.add_zero']
  refine ⟨by omega, by omega, by omega, by omega, ?_⟩
  rw [e0 i]
  refine vslc (sz := sz) (by omega) (by omega) (by omega) (by omega) fun x25 hv hn hc => ?_
  have hxn : x25.n = xs.length - (i + 1) := by omega
  have hcells := hs.vcells k (x := x25) (m := x25.n) hk hl hv (Nat.le_refl _) (by omega)
  rw [show ((i : Int) + 1).toNat = i + 1 by omega, List.take_of_length_le (by rw [List.length_drop]; omega)] at hcells
  have hzr : (mRow zero 1).toList = zero.toList := by
    unfold mRow
    apply List.ext_getElem?
    intro j
    simp only [Array.toList_map, List.getElem?_map, Array.toList_range, Nat.one_mul]
    by_cases hj : j < zero.size
    · rw [List.getElem?_range hj]
      simp [Nat.mod_eq_of_lt hj, getElem!_pos zero j hj]
    · rw [List.getElem?_eq_none (by simpa using hj), List.getElem?_eq_none (by simpa using hj)]
      rfl
  -- the last cell is cleared
  have fin : ∀ h' (ws : List X), ws.length = xs.length → ws.take (xs.length - 1) = xs.eraseIdx i → Sep h0 h' (L.set k (aRow enc sz s ws)) →
      (mSlc ⟨s.p, i + x25.n, s.c⟩ sz ((i + x25.n : Nat) : Int) (s.n : Int) (s.c : Int) fun x31 => mClear sz zero x31 (K ⟨s.p, i + x25.n, s.c⟩)) h' Q := by
    intro h' ws hwn hwt hs'
    refine ⟨by omega, by omega, by omega, by show (s.c : Int) ≤ s.c; omega, ?_⟩
    have hk' : (L.set k (aRow enc sz s ws))[k]? = some (aRow enc sz s ws) := List.getElem?_set_self hkl
    obtain ⟨a, e1, e2, e3⟩ := hs'.vset k (lo := xs.length - 1) [z] hk' hl (by simp; omega) (by simp)
    rw [if_neg (by omega)]
    show match (s.p.map (·.add (((i + x25.n : Nat) : Int).toNat * sz))) with | some a => _ | none => _
    rw [e1]
    simp only [Option.map_some]
    have e4 : ((i + x25.n : Nat) : Int).toNat = xs.length - 1 := by omega
    have e5 : (s.n : Int).toNat - ((i + x25.n : Nat) : Int).toNat = 1 := by omega
    rw [e4]
    rw [List.flatMap_cons, List.flatMap_nil, List.append_nil, ← hz] at e2 e3
    rw [show (s.n : Int).toNat - (xs.length - 1) = 1 by omega, hzr]
    refine ⟨?_, ?_, e2, ?_⟩
    · intro v hv
      rw [hz] at hv
      exact hone z v hv
    · rw [hz, hl, Nat.one_mul]
    · rw [List.set_set] at e3
      have e6 := e3.cut k (List.getElem?_set_self hkl) hl (m := xs.length - 1) (by simp; omega)
      rw [List.set_set] at e6
      have e7 : (ws.take (xs.length - 1) ++ ([z] ++ ws.drop (xs.length - 1 + [z].length))).take (xs.length - 1) = xs.eraseIdx i := by
        rw [List.take_append_of_le_length (by rw [List.length_take]; omega), List.take_take, Nat.min_self, hwt]
      rw [e7] at e6
      have e8 : (⟨some a, i + x25.n, s.c⟩ : Sl) = ⟨s.p, xs.length - 1, s.c⟩ := by
        rw [e1]; congr 1 <;> omega
      rw [e8]
      exact hK _ _ rfl e6
  refine ⟨_, hcells, ?_, ?_⟩
  · intro v hv
    obtain ⟨w, _, hw⟩ := List.mem_flatMap.1 hv
    exact hone w v hw
  · rw [if_pos (by show i + x25.n ≤ s.c; omega)]
    have her : xs.eraseIdx i = xs.take i ++ xs.drop (i + 1) := List.eraseIdx_eq_take_drop_succ xs i
    by_cases h0n : i + 1 = xs.length
    · have hd : xs.drop (i + 1) = [] := List.drop_of_length_le (by omega)
      rw [hd]
      have hq := fin h xs rfl (by rw [her, hd, List.append_nil]; congr 1; omega) (hs.keep k hk fun F hF => hF)
      cases hp : s.p with
      | none => rw [hp] at hq; exact hq
      | some a =>
        rw [hp] at hq
        exact ⟨fun j h1 h2 => by simp at h2, hq⟩
    · obtain ⟨a, e1, e2, e3⟩ := hs.vset k (lo := i) (xs.drop (i + 1)) hk hl (by rw [List.length_drop]; omega) (by rw [List.length_drop]; omega)
      have hq := fin _ (xs.take i ++ (xs.drop (i + 1) ++ xs.drop (i + (xs.drop (i + 1)).length))) (by simp only [List.length_append, List.length_take, List.length_drop]; omega) (by
        rw [← List.append_assoc, ← her, List.take_append_of_le_length (by rw [List.length_eraseIdx_of_lt hi] <;> omega), List.take_of_length_le (by rw [List.length_eraseIdx_of_lt hi] <;> omega)]) e3
      rw [e1] at hq ⊢
      exact ⟨e2, hq⟩
end
end Go.Sb
