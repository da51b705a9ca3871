/- The small logic is sound: maps with whole numbers as keys. Conditions: none. -/
import Derived.Test.YtbpnpmknamghkaaSbI
namespace Go.Sb
open Go

section maps
variable {P : Program} {w : World} {kd : IntKind}
theorem findNow_none (key : Int) : ∀ (m : List (Int × Value × Nat)) (i : Nat), m.find? (·.1 == key) = none → Instr.findNow (.int kd) (.int kd key) (m.map (ment kd)) i = some none
  | [], i, _ => rfl
  | e :: m, i, h => by
    rw [List.find?_cons] at h
    cases he : (e.1 == key) with
    | true => rw [he] at h; simp at h
    | false =>
      rw [he] at h
      have : (key == e.1) = false := by simp at he ⊢; exact fun h => he h.symm
      simp only [List.map_cons, Instr.findNow, Instr.sameNow, ment, if_true, this]
      exact findNow_none key m (i + 1) h
theorem findNow_some (key : Int) : ∀ (m : List (Int × Value × Nat)) (i : Nat) (e : Int × Value × Nat), m.find? (·.1 == key) = some e → ∃ j, Instr.findNow (.int kd) (.int kd key) (m.map (ment kd)) i = some (some (i + j, e.2.1)) ∧ m[j]? = some e ∧ e.1 = key
  | [], i, e, h => by simp at h
  | e' :: m, i, e, h => by
    rw [List.find?_cons] at h
    cases he : (e'.1 == key) with
    | true =>
      rw [he] at h
      simp at h
      subst h
      have : e'.1 = key := by simpa using he
      refine ⟨0, ?_, rfl, this⟩
      simp [Instr.findNow, Instr.sameNow, ment, this]
    | false =>
      rw [he] at h
      have : (key == e'.1) = false := by simp at he ⊢; exact fun h => he h.symm
      obtain ⟨j, h1, h2, h3⟩ := findNow_some key m (i + 1) e h
      refine ⟨j + 1, ?_, by simpa using h2, h3⟩
      simp only [List.map_cons, Instr.findNow, Instr.sameNow, ment, if_true, this]
      rw [h1]
      simp only [Option.some.injEq, Prod.mk.injEq, and_true]
      omega
theorem run_checkKey {kt : TypeId} {key : Int} {b : Bool} (hk : P.underlying kt = some (.int kd)) : (Instr.checkKey b 10000 kt (.int kd key)).run P w = .ok () w := by
  rw [Instr.checkKey]
  simp only [Sem.run_bind, run_underlying hk, Result.andThen_ok, Sem.run_pure]
theorem run_getMap {r : Nat} {es : Array MapEntry} {c : Nat} (hb : w.heap[r]? = some (.map es c)) : (getObj r).run P w = .ok (.map es c) w := by
  simp only [getObj, Sem.run, hb]
theorem run_setMap {r : Nat} {o : Obj} {es : Array MapEntry} {c : Nat} (hb : w.heap[r]? = some (.map es c)) : (setObj r o).run P w = .ok () { w with heap := w.heap.setIfInBounds r o } := by
  simp only [setObj, Sem.run, hb]
theorem find_nodup {m : List (Int × Value × Nat)} (hn : (m.map (·.1)).Nodup) {j : Nat} {e : Int × Value × Nat} (h : m[j]? = some e) : m.find? (·.1 == e.1) = some e := by
  induction m generalizing j with
  | nil => simp at h
  | cons e' m ih =>
    rw [List.find?_cons]
    simp only [List.map_cons, List.nodup_cons] at hn
    cases j with
    | zero => simp at h; subst h; simp
    | succ j =>
      simp at h
      have hne : ¬ e'.1 = e.1 := fun hc => hn.1 (hc ▸ List.mem_map_of_mem (List.mem_of_getElem? h))
      rw [show (e'.1 == e.1) = false by simpa using hne]
      exact ih hn.2 h
theorem find_set (key : Int) (v : Value) (c : Nat) : ∀ (m : List (Int × Value × Nat)) (j : Nat) (e : Int × Value × Nat) (k : Int), (m.map (·.1)).Nodup → m[j]? = some e → e.1 = key →
    ((m.set j (key, v, c)).find? (·.1 == k)).map (·.2.1) = if k = key then some v else (m.find? (·.1 == k)).map (·.2.1)
  | [], j, e, k, hn, h, he => by simp at h
  | e' :: m, 0, e, k, hn, h, he => by
    simp at h; subst h
    rw [List.set_cons_zero, List.find?_cons, List.find?_cons]
    by_cases hk : k = key
    · subst hk; simp
    · have h1 : (key == k) = false := by simpa using fun h => hk h.symm
      have h2 : (e'.1 == k) = false := by rw [he]; exact h1
      simp [h1, h2, hk]
  | e' :: m, j + 1, e, k, hn, h, he => by
    simp only [List.map_cons, List.nodup_cons] at hn
    simp at h
    rw [List.set_cons_succ, List.find?_cons, List.find?_cons]
    have hne : ¬ e'.1 = key := fun hc => hn.1 (by rw [hc, ← he]; exact List.mem_map_of_mem (List.mem_of_getElem? h))
    cases hb : (e'.1 == k) with
    | true =>
      have : e'.1 = k := by simpa using hb
      simp [show ¬ k = key from fun h => hne (this.trans h)]
    | false => exact find_set key v c m j e k hn.2 h he
theorem find_erase (key : Int) : ∀ (m : List (Int × Value × Nat)) (j : Nat) (e : Int × Value × Nat) (k : Int), (m.map (·.1)).Nodup → m[j]? = some e → e.1 = key →
    ((m.eraseIdx j).find? (·.1 == k)).map (·.2.1) = if k = key then none else (m.find? (·.1 == k)).map (·.2.1)
  | [], j, e, k, hn, h, he => by simp at h
  | e' :: m, 0, e, k, hn, h, he => by
    simp only [List.map_cons, List.nodup_cons] at hn
    simp at h; subst h
    rw [List.eraseIdx_cons_zero, List.find?_cons]
    by_cases hk : k = key
    · subst hk
      simp only [if_true, Option.map_eq_none_iff, List.find?_eq_none]
      intro x hx hc
      have : x.1 = k := by simpa using hc
      exact hn.1 (by rw [he, ← this]; exact List.mem_map_of_mem hx)
    · have h2 : (e'.1 == k) = false := by rw [he]; simpa using fun h => hk h.symm
      simp [h2, hk]
  | e' :: m, j + 1, e, k, hn, h, he => by
    simp only [List.map_cons, List.nodup_cons] at hn
    simp at h
    rw [List.eraseIdx_cons_succ, List.find?_cons, List.find?_cons]
    have hne : ¬ e'.1 = key := fun hc => hn.1 (by rw [hc, ← he]; exact List.mem_map_of_mem (List.mem_of_getElem? h))
    cases hb : (e'.1 == k) with
    | true =>
      have : e'.1 = k := by simpa using hb
      simp [show ¬ k = key from fun h => hne (this.trans h)]
    | false => exact find_erase key m j e k hn.2 h he
theorem find_map {k : Int} {m : List (Int × Value × Nat)} {f : Int → Option Value} (hf : ∀ k, f k = (m.find? (·.1 == k)).map (·.2.1)) :
    (f k = none ∧ m.find? (·.1 == k) = none) ∨ ∃ e, f k = some e.2.1 ∧ m.find? (·.1 == k) = some e := by
  rw [hf]
  cases m.find? (·.1 == k) with
  | none => exact .inl ⟨rfl, rfl⟩
  | some e => exact .inr ⟨e, rfl, rfl⟩
theorem run_findKey {kt : TypeId} {key : Int} {m : List (Int × Value × Nat)} {f : Int → Option Value} (hk : P.underlying kt = some (.int kd)) (hf : ∀ k, f k = (m.find? (·.1 == k)).map (·.2.1)) :
    (f key = none ∧ m.find? (·.1 == key) = none ∧ (Instr.findKey kt (.int kd key) (m.map (ment kd))).run P w = .ok none w) ∨
      ∃ j e, f key = some e.2.1 ∧ m[j]? = some e ∧ e.1 = key ∧ (Instr.findKey kt (.int kd key) (m.map (ment kd))).run P w = .ok (some (j, e.2.1)) w := by
  rcases find_map (k := key) hf with ⟨h1, h2⟩ | ⟨e, h1, h2⟩
  · refine .inl ⟨h1, h2, ?_⟩
    unfold Instr.findKey
    simp only [Sem.run_bind, run_underlying hk, Result.andThen_ok, findNow_none key m 0 h2, Sem.run_pure]
  · obtain ⟨j, h3, h4, h5⟩ := findNow_some (kd := kd) key m 0 e h2
    refine .inr ⟨j, e, h1, h4, h5, ?_⟩
    unfold Instr.findKey
    simp only [Sem.run_bind, run_underlying hk, Result.andThen_ok, h3, Sem.run_pure, Nat.zero_add]
theorem run_lookup {t kt e : TypeId} {r : Nat} {key : Int} {f : Int → Option Value} {n : Nat} {z : Value} (hu : P.underlying t = some (.map kt e)) (hk : P.underlying kt = some (.int kd)) (hz : zeroT P e = some z)
    (hm : HMap w.heap r kd f n) (ok : Bool) : (Instr.lookup t (.map (some r)) (.int kd key) ok).run P w = .ok (match ok with
      | true => .tuple #[(f key).getD z, .bool (f key).isSome]
      | false => (f key).getD z) w := by
  obtain ⟨m, clock, hb, hnd, hn, hf⟩ := hm
  unfold Instr.lookup
  simp only [Sem.run_bind, run_underlying hu, Result.andThen_ok, run_getMap hb, Sem.run_pure, run_checkKey hk]
  rcases run_findKey (w := w) (key := key) hk hf with ⟨h1, _, h2⟩ | ⟨j, e', h1, h2, h3, h4⟩
  · rw [h2]
    simp only [Result.andThen_ok, Sem.run_bind, run_zeroValue hz, Sem.run_pure, h1]
    cases ok <;> rfl
  · rw [h4]
    simp only [Result.andThen_ok, Sem.run_pure, h1]
    cases ok <;> rfl
theorem run_mapUpdate {t kt e : TypeId} {r : Nat} {key : Int} {f : Int → Option Value} {n : Nat} {v : Value} (hu : P.underlying t = some (.map kt e)) (hk : P.underlying kt = some (.int kd))
    (hm : HMap w.heap r kd f n) : ∃ h', (Instr.mapUpdate t (.map (some r)) (.int kd key) v).run P w = .ok () { w with heap := h' } ∧ h'.size = w.heap.size ∧ (∀ b, b ≠ r → h'[b]? = w.heap[b]?) ∧
      HMap h' r kd (fun j => if j = key then some v else f j) (if (f key).isSome then n else n + 1) := by
  obtain ⟨m, clock, hb, hnd, hn, hf⟩ := hm
  have hlt : r < w.heap.size := (Array.getElem?_eq_some_iff.1 hb).1
  rcases run_findKey (w := w) (key := key) hk hf with ⟨h1, h0, h2⟩ | ⟨j, e', h1, h2, h3, h4⟩
  · refine ⟨w.heap.setIfInBounds r (.map ((m ++ [(key, v, clock)]).map (ment kd)).toArray (clock + 1)), ?_, by simp, fun b hne => by rw [Array.getElem?_setIfInBounds_ne (Ne.symm hne)], m ++ [(key, v, clock)], clock + 1, by rw [Array.getElem?_setIfInBounds_self_of_lt hlt], ?_, ?_, ?_⟩
    · unfold Instr.mapUpdate
      simp only [Sem.run_bind, run_underlying hu, Result.andThen_ok, run_getMap hb, Sem.run_pure, run_checkKey hk]
      rw [h2]
      simp only [Result.andThen_ok]
      rw [run_setMap hb]
      simp [ment]
    · rw [List.map_append, List.nodup_append]
      refine ⟨hnd, by simp, fun a ha b hb' hab => ?_⟩
      simp at hb'
      subst hb' hab
      obtain ⟨x, hx, hx'⟩ := List.mem_map.1 ha
      have := List.find?_eq_none.1 h0 x hx
      simp [hx'] at this
    · simp [h1, hn]
    · intro k
      rw [List.find?_append]
      by_cases hk' : k = key
      · subst hk'; simp [h0]
      · have : (key == k) = false := by simpa using fun h => hk' h.symm
        simp [hk', hf, this]
  · refine ⟨w.heap.setIfInBounds r (.map ((m.set j (key, v, e'.2.2)).map (ment kd)).toArray clock), ?_, by simp, fun b hne => by rw [Array.getElem?_setIfInBounds_ne (Ne.symm hne)], m.set j (key, v, e'.2.2), clock, by rw [Array.getElem?_setIfInBounds_self_of_lt hlt], ?_, ?_, ?_⟩
    · unfold Instr.mapUpdate
      simp only [Sem.run_bind, run_underlying hu, Result.andThen_ok, run_getMap hb, Sem.run_pure, run_checkKey hk]
      rw [h4]
      simp only [Result.andThen_ok, Sem.run_bind]
      have hj : ((m.map (ment kd)).toArray)[j]? = some (ment kd e') := by simp [h2]
      rw [hj]
      have hstay : (Instr.keyThatStays (((some (ment kd e')).map (·.key)).getD (.int kd key)) (.int kd key)).run P w = .ok (.int kd key) w := by
        simp [Instr.keyThatStays, ment, h3, Instr.sameBits]
      rw [hstay]
      simp only [Result.andThen_ok]
      rw [run_setMap hb]
      congr 3
      have hjl : j < m.length := (List.getElem?_eq_some_iff.1 h2).1
      have hje := (List.getElem?_eq_some_iff.1 h2).2
      apply congrArg (fun x => Obj.map x clock)
      apply Array.ext
      · simp
      · intro i hi1 hi2
        simp only [Array.getElem_modify, List.getElem_toArray, List.getElem_map, List.getElem_set]
        split
        · rename_i hij
          have hje' : m[i]'(by omega) = e' := by simp only [← hij]; exact hje
          simp [ment, hje', hij]
        · rfl
    · have : (m.set j (key, v, e'.2.2)).map (·.1) = m.map (·.1) := by
        rw [List.map_set]
        have : (m.map (·.1))[j]? = some key := by simp [h2, h3]
        apply List.ext_getElem?
        intro i
        rw [List.getElem?_set]
        split
        · subst_vars; rw [this]; simp [(List.getElem?_eq_some_iff.1 h2).1]
        · rfl
      rw [this]; exact hnd
    · simp [h1, hn]
    · intro k
      show (if k = key then some v else f k) = _
      rw [find_set key v e'.2.2 m j e' k hnd h2 h3, hf]
theorem eraseIdx_map' {α β : Type} (g : α → β) : ∀ (l : List α) (j : Nat), (l.map g).eraseIdx j = (l.eraseIdx j).map g
  | [], _ => rfl
  | _ :: _, 0 => rfl
  | x :: l, j + 1 => by simp [eraseIdx_map' g l j]
theorem run_mapDelete {t kt e : TypeId} {ty : TypeId} {ts : Array TypeId} {r : Nat} {key : Int} {f : Int → Option Value} {n : Nat} (ht : ts[0]? = some t) (hu : P.underlying t = some (.map kt e)) (hk : P.underlying kt = some (.int kd))
    (hm : HMap w.heap r kd f n) : ∃ h', (Builtin.delete_ ts ty #[.map (some r), .int kd key]).run P w = .ok (.tuple #[]) { w with heap := h' } ∧ h'.size = w.heap.size ∧ (∀ b, b ≠ r → h'[b]? = w.heap[b]?) ∧
      HMap h' r kd (fun j => if j = key then none else f j) (if (f key).isSome then n - 1 else n) := by
  obtain ⟨m, clock, hb, hnd, hn, hf⟩ := hm
  have hlt : r < w.heap.size := (Array.getElem?_eq_some_iff.1 hb).1
  rcases run_findKey (w := w) (key := key) hk hf with ⟨h1, h0, h2⟩ | ⟨j, e', h1, h2, h3, h4⟩
  · refine ⟨w.heap.setIfInBounds r (.map (m.map (ment kd)).toArray clock), ?_, by simp, fun b hne => by rw [Array.getElem?_setIfInBounds_ne (Ne.symm hne)], m, clock, by rw [Array.getElem?_setIfInBounds_self_of_lt hlt], hnd, ?_, ?_⟩
    · unfold Builtin.delete_
      simp only [ht, List.getElem?_toArray, List.getElem?_cons_zero, List.getElem?_cons_succ, Sem.run_bind, run_underlying hu, Result.andThen_ok, run_getMap hb, run_checkKey hk]
      rw [h2]
      dsimp only [Result.andThen_ok]
      rw [Sem.run_bind, run_setMap hb]
      simp only [Result.andThen_ok, Sem.run_pure]
    · simp [h1, hn]
    · intro k
      by_cases hk' : k = key
      · subst hk'; simp [h0]
      · simp [hk', hf]
  · refine ⟨w.heap.setIfInBounds r (.map ((m.eraseIdx j).map (ment kd)).toArray clock), ?_, by simp, fun b hne => by rw [Array.getElem?_setIfInBounds_ne (Ne.symm hne)], m.eraseIdx j, clock, by rw [Array.getElem?_setIfInBounds_self_of_lt hlt], ?_, ?_, ?_⟩
    · unfold Builtin.delete_
      simp only [ht, List.getElem?_toArray, List.getElem?_cons_zero, List.getElem?_cons_succ, Sem.run_bind, run_underlying hu, Result.andThen_ok, run_getMap hb, run_checkKey hk]
      rw [h4]
      dsimp only [Result.andThen_ok]
      rw [Sem.run_bind, run_setMap hb]
      simp only [Result.andThen_ok, Sem.run_pure]
      congr 3
      have hjl : j < (m.map (ment kd)).toArray.size := by simpa using (List.getElem?_eq_some_iff.1 h2).1
      simp only [Array.eraseIdxIfInBounds, hjl, dif_pos]
      apply congrArg (fun x => Obj.map x clock)
      apply Array.ext'
      simp [eraseIdx_map']
    · exact hnd.sublist ((List.eraseIdx_sublist _ _).map _)
    · have hjl : j < m.length := (List.getElem?_eq_some_iff.1 h2).1
      rw [List.length_eraseIdx_of_lt hjl, hn, h1]; rfl
    · intro k
      show (if k = key then none else f k) = _
      rw [find_erase key m j e' k hnd h2 h3, hf]
theorem HMap.new (h : Hp) (kd : IntKind) : HMap (h.push (.map #[] 0)) h.size kd (fun _ => none) 0 := ⟨[], 0, by simp, by simp, rfl, by simp⟩
end maps
end Go.Sb
