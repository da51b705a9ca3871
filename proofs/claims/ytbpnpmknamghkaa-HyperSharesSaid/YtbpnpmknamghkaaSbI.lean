/- The small logic is sound: the evaluator's step over one operation. Conditions: none. -/
import Derived.Test.YtbpnpmknamghkaaSbH
import Derived.Laws.BytesString
import Derived.Lib.ConvBytes
import Derived.IntWalk
namespace Go.Sb
open Go

section op
variable {P : Program} {α : Type} {a : Act} {w : World} {next : Act → World → Prop} {Qx : Exit → Act → World → Prop}

theorem run_append {st xt e : TypeId} {z b : Nat} {zv : Value} {s x : Sl} {ty : TypeId} {w : World} {xs : List Value}
    (hst : P.underlying st = some (.slice e)) {e' : TypeId} (hxt : P.underlying xt = some (.slice e')) (hz : sizeT P e = some z) (hb : bytesT P e = some b) (hzv : zeroT P e = some zv)
    (hxs : slcells w.heap x x.n z = some xs) (hone : ∀ v ∈ xs, v.oneCell' = true) :
    (s.n + x.n ≤ s.c → ∀ h', (match s.p with
        | some a => hfree w.heap (a.add (s.n * z)) 0 xs.length ∧ h' = hsets w.heap (a.add (s.n * z)) 0 xs
        | none => h' = w.heap) → (Builtin.append_ #[st, xt] ty #[.slice s.p s.n s.c, .slice x.p x.n x.c]).run P w = .ok (.slice s.p (s.n + x.n) s.c) { w with heap := h' }) ∧
    (¬ s.n + x.n ≤ s.c → 0 < b → Builtin.nextslicecap (s.n + x.n) s.c * b ≤ 2 ^ 48 → ∀ old, slcells w.heap s s.n z = some old → ∃ c, s.n + x.n ≤ c ∧ ∃ w', Kept w w' ∧
      w'.heap = w.heap.push (.cells ((old ++ xs).toArray ++ mRow zv.cells (c - (s.n + x.n))) e) ∧ (Builtin.append_ #[st, xt] ty #[.slice s.p s.n s.c, .slice x.p x.n x.c]).run P w = .ok (.slice (some ⟨w.heap.size, 0, none⟩) (s.n + x.n) c) w') := by
  obtain ⟨ib, hib, rfl⟩ := bytesT_info hb
  have hfx : ∀ w' : World, w'.heap = w.heap → (Builtin.firstCells z x.n (.slice x.p x.n x.c)).run P w' = .ok xs.toArray w' := fun w' hw' => slcells_sound hxs w' hw'
  constructor
  · intro hle h' hh'
    unfold Builtin.append_
    simp only [List.getElem?_toArray, List.getElem?_cons_zero, List.getElem?_cons_succ, Sem.run_bind, run_underlying hst, Result.andThen_ok, run_sizeOf hz, run_underlying hxt, Sem.run_pure, Bool.false_eq_true, if_false, Builtin.lenOf, hle, if_true, Bool.not_false, hfx w rfl]
    cases hp : s.p with
    | none => rw [hp] at hh'; subst hh'; rfl
    | some p =>
      rw [hp] at hh'
      obtain ⟨h1, rfl⟩ := hh'
      simp only [Sem.run_bind]
      rw [hfree_sound xs 0 w.heap hone h1 w rfl]
      rfl
  · intro hle hbp hcap old hold
    have hfo : ∀ w' : World, w'.heap = w.heap → (Builtin.firstCells z s.n (.slice s.p s.n s.c)).run P w' = .ok old.toArray w' := fun w' hw' => slcells_sound hold w' hw'
    let q : Question := .appendCap (s.n + x.n) s.c e
    refine ⟨q.cut (w.tape w.drawn q), by simp [q, Question.cut], { w with drawn := w.drawn + 1, heap := w.heap.push (.cells ((old ++ xs).toArray ++ mRow zv.cells (q.cut (w.tape w.drawn q) - (s.n + x.n))) e) }, ⟨rfl, rfl, rfl⟩, rfl, ?_⟩
    unfold Builtin.append_
    have hb0 : ib.bytes ≠ 0 := by omega
    have hcap' : ¬ (Builtin.nextslicecap (s.n + x.n) s.c * ib.bytes > 2 ^ 48) := by omega
    simp only [List.getElem?_toArray, List.getElem?_cons_zero, List.getElem?_cons_succ, Sem.run_bind, run_underlying hst, Result.andThen_ok, run_sizeOf hz, run_underlying hxt, Sem.run_pure, Bool.false_eq_true, if_false, Builtin.lenOf, hle, Bool.not_false, if_true, run_typeInfo hib, hb0, or_self, and_false, hcap',
      run_choose, Question.forced, run_askRoom]
    rw [hfo { w with drawn := w.drawn + 1 } rfl, Result.andThen_ok, hfx { w with drawn := w.drawn + 1 } rfl, Result.andThen_ok, run_zeroValue hzv]
    simp only [Result.andThen_ok, newRow, Sem.run_bind, run_newObj, Sem.run_pure, zeroCells_eq]
    simp [q]
theorem bytesWorld_heap (w : World) (e : TypeId) (s : ByteArray) : ∃ c, s.size ≤ c ∧ Lib.bytesWorld w e s = { w with drawn := w.drawn + 1, heap := w.heap.push (.cells ((s.data.map fun b => Value.int .u8 b.toNat) ++ Array.replicate (c - s.size) (.int .u8 0)) e (c, c + 1)) } ∧ grownCap w s.size 0 e = c := by
  refine ⟨grownCap w s.size 0 e, ?_, ?_, rfl⟩
  · simp [grownCap, Question.cut]
  · have hc : (Lib.bytesCells w e s).size = grownCap w s.size 0 e := by
      have : s.size ≤ grownCap w s.size 0 e := by simp [grownCap, Question.cut]
      simp [Lib.bytesCells]; omega
    unfold Lib.bytesWorld World.freeze
    rw [hc]
    simp only [if_neg (by decide : ¬ (1 : Nat) = 0)]
    have h2 : (w.drew.alloc (.cells (Lib.bytesCells w e s) e)).heap = w.heap.push (.cells (Lib.bytesCells w e s) e) := rfl
    simp only [h2]
    show World.mk _ _ _ _ _ = World.mk _ _ _ _ _
    congr 1
    apply Array.ext (by simp)
    intro i h1 h2
    rw [Array.getElem_modify]
    by_cases hi : w.heap.size = i
    · subst hi; simp [Lib.bytesCells]
    · simp only [hi, if_false]
      have : i < w.heap.size := by simp at h1; omega
      simp [Array.getElem_push, this]
theorem run_markRow {P : Program} {w : World} {t e : TypeId} {b o n c : Nat} {cs : Array Value} {T : TypeId} (ht : P.underlying t = some (.slice e)) (he : P.underlying e = some (.int .u8)) (hb : w.heap[b]? = some (.cells cs T (0, 0))) :
    (convert t t (.slice (some ⟨b, o, none⟩) n c)).run P w = .ok (.slice (some ⟨b, o, none⟩) n c) { w with heap := w.heap.setIfInBounds b (.cells cs T (cs.size, cs.size + 1)) } := by
  have hsh : w.shape? b = some (T, cs.size) := by
    unfold World.shape?
    rw [hb]
  have hfr : w.freeze ⟨b, cs.size, none⟩ 1 = { w with heap := w.heap.setIfInBounds b (.cells cs T (cs.size, cs.size + 1)) } := by
    unfold World.freeze
    rw [if_neg (by decide)]
    have hlt : b < w.heap.size := by
      rcases Nat.lt_or_ge b w.heap.size with h | h
      · exact h
      · rw [Array.getElem?_eq_none h] at hb; cases hb
    rw [Array.getElem?_eq_getElem hlt] at hb
    congr 1
    apply Array.ext (by simp)
    intro i h1 h2
    rw [Array.getElem_modify, Array.getElem_setIfInBounds]
    rotate_left
    · simpa using h1
    by_cases hi : b = i
    · subst hi
      simp only [if_true]
      rw [Option.some.inj hb]
      simp
    · simp [hi]
  simp [convert, run_underlying ht, run_underlying he, markStringish, hsh]
  exact hfr
theorem run_str {x : Sl} {w : World} {bs : List UInt8} (h : slcells w.heap x x.n 1 = some (bs.map fun b => .int .u8 b.toNat)) : (Conv.bytesToString (.slice x.p x.n x.c)).run P w = .ok (.string ⟨bs.toArray⟩) w := by
  obtain ⟨p, n, c⟩ := x
  cases p with
  | none =>
    simp only [slcells, Option.some.injEq] at h
    have : bs = [] := by cases bs with
      | nil => rfl
      | cons b bs => simp at h
    subst this; rfl
  | some a =>
    have h1 := slcells_sound (P := P) h w rfl
    simp only [Builtin.firstCells, Nat.mul_one] at h1
    have h2 : (bs.map fun b => Value.int .u8 b.toNat) = ((bs.map fun b => (b.toNat : Int)).map (Value.int .u8)) := by rw [List.map_map]; rfl
    rw [h2] at h1
    rw [run_bytesToString w a n c _ h1]
    congr 2
    have : ∀ (bs : List UInt8) (s : ByteArray), (bs.map fun b => (b.toNat : Int)).foldl (fun r n => r.push (UInt8.ofNat n.toNat)) s = ⟨s.data ++ bs.toArray⟩ := by
      intro bs
      induction bs with
      | nil => intro s; simp
      | cons b bs ih =>
        intro s
        rw [List.map_cons, List.foldl_cons, ih]
        simp [ByteArray.push]
    rw [this]
    simp
theorem run_makeSlice {t e : TypeId} {n b : Nat} {z : Value} {k k' : IntKind} {l c : Int} (hu : P.underlying t = some (.slice e)) (hsz : sizeT P e = some n) (hz : zeroT P e = some z) (hb : bytesT P e = some b)
    (hlen : z.cells.size = n) (h0 : 0 ≤ l) (h1 : l ≤ c) (h2 : b * c ≤ 2 ^ 48) (h3 : c ≤ IntKind.i64.max) (w : World) :
    (Instr.makeSlice t (.int k l) (.int k' c)).run P w = .ok (.slice (some ⟨w.heap.size, 0, none⟩) l.toNat c.toNat) { w with heap := w.heap.push (.cells (mRow z.cells c.toNat) e) } := by
  obtain ⟨ib, hib, rfl⟩ := bytesT_info hb
  have hmax : IntKind.i64.max = 9223372036854775807 := by decide
  rw [hmax] at h3
  have wr : ∀ i : Int, 0 ≤ i → i ≤ 9223372036854775807 → IntKind.i64.wrap i = i := by
    intro i hi0 hi1
    exact IntWalk.i64_in _ (by omega)
  unfold Instr.makeSlice
  simp only [Sem.run_bind, run_underlying hu, Result.andThen_ok, asInt, asIntOf, Sem.run_pure, run_typeInfo hib, wr l h0 (by omega), wr c (by omega) h3]
  have t1 : ((decide (c < 0) || decide (↑ib.bytes * c > 2 ^ 48)) || decide (l < 0) || decide (l > c)) = false := by simp; omega
  rw [t1]
  simp only [Bool.false_eq_true, if_false, Sem.run_bind, run_askRoom, Result.andThen_ok, run_sizeOf hsz]
  by_cases hn : c.toNat * n = 0
  · simp only [hn, if_true, pure_bind]
    have : (Array.range 0).map (fun i => (#[] : Array Value)[i % (#[] : Array Value).size]!) = mRow z.cells c.toNat := by
      unfold mRow; rw [hlen, hn]; simp
    simp only [Sem.run_bind, newRow, run_newObj, Result.andThen_ok, Sem.run_pure, this]
  · simp only [hn, if_false, Sem.run_bind, run_zeroValue hz, Result.andThen_ok, Sem.run_pure, newRow, run_newObj]
    have : (Array.range (c.toNat * n)).map (fun i => z.cells[i % z.cells.size]!) = mRow z.cells c.toNat := by
      unfold mRow; rw [hlen]
    rw [this]
end op
end Go.Sb
