/- Turns of equal length, as plain lists. Conditions: none. -/
import Derived.Test.YtinjifhjjkdmoaaSbW
namespace Go.Sb
open Go
structure Trn where
  who : Nat
  fr : Int
  to_ : Int
def Trn.enc (t : Trn) : List Value := [.int .i64 (t.who : Int), .int .i64 t.fr, .int .i64 t.to_]
def gt (l : List Int) (i : Nat) : Int := l.getD i 0
theorem gt_set {l : List Int} {i : Nat} (hi : i < l.length) (v : Int) (j : Nat) : gt (l.set i v) j = if i = j then v else gt l j := by
  unfold gt
  rw [List.getD_eq_getElem?_getD, List.getD_eq_getElem?_getD, List.getElem?_set]
  by_cases h : i = j
  · subst h; simp [hi]
  · simp [h]
theorem gt_at {l : List Int} {i : Nat} (hi : i < l.length) : gt l i = l[i] := by
  unfold gt; rw [List.getD_eq_getElem?_getD, List.getElem?_eq_getElem hi]; rfl
theorem gt_out {l : List Int} {i : Nat} (hi : l.length ≤ i) : gt l i = 0 := by
  unfold gt; rw [List.getD_eq_getElem?_getD, List.getElem?_eq_none hi]; rfl
def turns (q : Int) : Nat → List Int → List Nat → Int → List Trn
  | 0, _, _, _ => []
  | _ + 1, _, [], _ => []
  | f + 1, lf, i :: row, now => ⟨i, now, now + min (gt lf i) q⟩ :: turns q f (lf.set i (gt lf i - min (gt lf i) q)) (if gt lf i - min (gt lf i) q > 0 then row ++ [i] else row) (now + min (gt lf i) q)
def ticks (q : Int) : Nat → List Int → List Nat → List Nat
  | 0, _, _ => []
  | _ + 1, _, [] => []
  | f + 1, lf, i :: row => List.replicate (min (gt lf i) q).toNat i ++ ticks q f (lf.set i (gt lf i - min (gt lf i) q)) (if gt lf i - min (gt lf i) q > 0 then row ++ [i] else row)
def sm : List Int → Int
  | [] => 0
  | x :: l => x + sm l
theorem sm_set : ∀ (l : List Int) (i : Nat) (v : Int), i < l.length → sm (l.set i v) = sm l - gt l i + v
  | [], i, v, h => by simp at h
  | x :: l, 0, v, h => by
    show v + sm l = x + sm l - x + v
    omega
  | x :: l, i + 1, v, h => by
    have := sm_set l i v (by simpa using h)
    simp only [List.set_cons_succ, sm, this]
    show _ = x + sm l - gt l i + v
    omega
theorem sm_nonneg : ∀ (l : List Int), (∀ x ∈ l, 0 ≤ x) → 0 ≤ sm l
  | [], _ => by simp [sm]
  | x :: l, h => by
    have := sm_nonneg l fun y hy => h y (by simp [hy])
    have := h x (by simp)
    simp only [sm]; omega
theorem sm_ge : ∀ (l : List Int) (i : Nat), (∀ x ∈ l, 0 ≤ x) → gt l i ≤ sm l
  | [], i, h => by simp [gt, sm]
  | x :: l, 0, h => by
    have := sm_nonneg l fun y hy => h y (by simp [hy])
    show x ≤ x + sm l
    omega
  | x :: l, i + 1, h => by
    have h1 := sm_ge l i fun y hy => h y (by simp [hy])
    have h2 := h x (by simp)
    show gt l i ≤ x + sm l
    omega
/-- what goes with a run: who has some left stands in the row, once -/
structure SI (lf : List Int) (row : List Nat) : Prop where
  nn : ∀ i, 0 ≤ gt lf i
  nd : row.Nodup
  mem : ∀ i, i ∈ row ↔ 0 < gt lf i
theorem SI.lt {lf : List Int} {row : List Nat} (h : SI lf row) {i : Nat} (hi : i ∈ row) : i < lf.length := by
  have := (h.mem i).1 hi
  rcases Nat.lt_or_ge i lf.length with h1 | h1
  · exact h1
  · rw [gt_out h1] at this; omega
theorem SI.all {lf : List Int} {row : List Nat} (h : SI lf row) : ∀ x ∈ lf, 0 ≤ x := by
  intro x hx
  obtain ⟨i, hi, rfl⟩ := List.getElem_of_mem hx
  rw [← gt_at hi]; exact h.nn i
theorem SI.step {q : Int} {lf : List Int} {i : Nat} {row : List Nat} (_hq : 1 ≤ q) (h : SI lf (i :: row)) : SI (lf.set i (gt lf i - min (gt lf i) q)) (if gt lf i - min (gt lf i) q > 0 then row ++ [i] else row) := by
  have hi := h.lt (i := i) (by simp)
  have hp := (h.mem i).1 (by simp)
  have hnd := List.nodup_cons.1 h.nd
  refine ⟨fun j => ?_, ?_, fun j => ?_⟩
  · rw [gt_set hi]
    split
    · omega
    · exact h.nn j
  · split
    · rw [List.nodup_append]
      refine ⟨hnd.2, by simp, ?_⟩
      intro a ha b hb hab
      simp at hb
      subst hb hab
      exact hnd.1 ha
    · exact hnd.2
  · rw [gt_set hi]
    have hm := h.mem j
    simp only [List.mem_cons] at hm
    by_cases hij : i = j
    · subst hij
      rw [if_pos rfl]
      split
      · simp; omega
      · constructor
        · intro hc; exact absurd hc hnd.1
        · intro hc; omega
    · rw [if_neg hij, ← hm]
      split
      · simp [Ne.symm hij]
      · simp [Ne.symm hij]
theorem SI.sum {q : Int} {lf : List Int} {i : Nat} {row : List Nat} (h : SI lf (i :: row)) : sm (lf.set i (gt lf i - min (gt lf i) q)) = sm lf - min (gt lf i) q := by
  rw [sm_set _ _ _ (h.lt (by simp))]; omega
/-- what the turns are worth -/
def TOk (w : List Int) (q : Int) : List Trn → List Int → Int → Prop
  | [], _, _ => True
  | t :: ts, so, now => t.who < so.length ∧ t.fr = now ∧ now < t.to_ ∧ t.to_ ≤ 1500 ∧ t.to_ - now ≤ q ∧ gt so t.who + (t.to_ - now) ≤ gt w t.who ∧ TOk w q ts (so.set t.who (gt so t.who + (t.to_ - now))) t.to_
/-- had: left and had together are the work -/
def Hd (w lf so : List Int) : Prop := so.length = lf.length ∧ w.length = lf.length ∧ ∀ i, gt so i = gt w i - gt lf i
theorem Hd.step {w lf so : List Int} (h : Hd w lf so) {i : Nat} (hi : i < lf.length) (n : Int) : Hd w (lf.set i (gt lf i - n)) (so.set i (gt so i + n)) := by
  refine ⟨by simpa using h.1, by simpa using h.2.1, fun j => ?_⟩
  rw [gt_set (by rw [h.1]; exact hi), gt_set hi]
  split
  · rename_i hij
    subst hij
    have := h.2.2 i
    omega
  · exact h.2.2 j
theorem turns_ok {w : List Int} {q : Int} (hq : 1 ≤ q) : ∀ (f : Nat) (lf : List Int) (row : List Nat) (so : List Int) (now : Int), SI lf row → Hd w lf so → now + sm lf ≤ 1500 → TOk w q (turns q f lf row now) so now
  | 0, lf, row, so, now, h, hd, hs => by unfold turns; exact trivial
  | f + 1, lf, [], so, now, h, hd, hs => by unfold turns; exact trivial
  | f + 1, lf, i :: row, so, now, h, hd, hs => by
    have hi := h.lt (i := i) (by simp)
    have hp := (h.mem i).1 (by simp)
    have hge := sm_ge lf i h.all
    have hsum := h.sum (q := q)
    have hso := hd.2.2 i
    have hn0 := sm_nonneg _ (h.step hq).all
    unfold turns
    have e : now + min (gt lf i) q - now = min (gt lf i) q := by omega
    refine ⟨by rw [hd.1]; exact hi, rfl, by show now < now + _; omega, by show now + _ ≤ 1500; omega, by show now + _ - now ≤ q; omega, ?_, ?_⟩
    · show gt so i + (now + _ - now) ≤ gt w i
      omega
    · show TOk w q _ (so.set i (gt so i + (now + min (gt lf i) q - now))) _
      rw [e]
      exact turns_ok hq f _ _ _ _ (h.step hq) (hd.step hi _) (by omega)
/-- each turn is a turn's ticks -/
def tk (ts : List Trn) : List Nat := ts.flatMap fun t => List.replicate (t.to_ - t.fr).toNat t.who
theorem ticks_turns (q : Int) : ∀ (f : Nat) (lf : List Int) (row : List Nat) (now : Int), ticks q f lf row = tk (turns q f lf row now)
  | 0, lf, row, now => by unfold ticks turns; rfl
  | f + 1, lf, [], now => by unfold ticks turns; rfl
  | f + 1, lf, i :: row, now => by
    unfold ticks turns
    rw [ticks_turns q f _ _ (now + min (gt lf i) q)]
    show _ = List.replicate (now + min (gt lf i) q - now).toNat i ++ _
    rw [show now + min (gt lf i) q - now = min (gt lf i) q by omega]
    rfl
theorem turns_len (q : Int) (hq : 1 ≤ q) : ∀ (f : Nat) (lf : List Int) (row : List Nat) (now : Int), SI lf row → (turns q f lf row now).length ≤ (sm lf).toNat
  | 0, lf, row, now, h => by unfold turns; simp
  | f + 1, lf, [], now, h => by unfold turns; simp
  | f + 1, lf, i :: row, now, h => by
    have hp := (h.mem i).1 (by simp)
    have hsum := h.sum (q := q)
    have hn0 := sm_nonneg _ (h.step hq).all
    have := turns_len q hq f _ _ (now + min (gt lf i) q) (h.step hq)
    unfold turns
    simp only [List.length_cons]
    omega
/-! ends -/
def lastI (i : Nat) : List Nat → Int → Int → Int
  | [], _, last => last
  | x :: l, k, last => lastI i l (k + 1) (if x = i then k + 1 else last)
theorem lastI_append (i : Nat) : ∀ (a b : List Nat) (k last : Int), lastI i (a ++ b) k last = lastI i b (k + a.length) (lastI i a k last)
  | [], b, k, last => by simp [lastI]
  | x :: a, b, k, last => by
    rw [List.cons_append, lastI, lastI, lastI_append i a b, List.length_cons]
    congr 1
    omega
theorem lastI_ne {i j : Nat} (hij : j ≠ i) : ∀ (n : Nat) (k last : Int), lastI i (List.replicate n j) k last = last
  | 0, k, last => rfl
  | n + 1, k, last => by
    rw [List.replicate_succ, lastI, if_neg hij]; exact lastI_ne hij n _ _
theorem lastI_eq {i : Nat} : ∀ (n : Nat) (k last : Int), 0 < n → lastI i (List.replicate n i) k last = k + n
  | 0, k, last, h => by omega
  | 1, k, last, h => by simp [lastI]
  | n + 2, k, last, h => by
    rw [List.replicate_succ, lastI, if_pos rfl, lastI_eq (n + 1) _ _ (by omega)]
    omega
def cl (n : Int) : Int := min (max n 0) 1048576
theorem cl_b (n : Int) : 0 ≤ cl n ∧ cl n ≤ 1048576 := by unfold cl; omega
def shr (l : List Int) (n : Int) : Int := sm (l.map fun x => min x n)
theorem sm_append : ∀ (a b : List Int), sm (a ++ b) = sm a + sm b
  | [], b => by simp [sm]
  | x :: a, b => by rw [List.cons_append, sm, sm, sm_append a b]; omega
theorem sm_le : ∀ (a : List Int) (c : Int), (∀ x ∈ a, x ≤ c) → sm a ≤ a.length * c
  | [], c, _ => by simp [sm]
  | x :: a, c, h => by
    have h1 := sm_le a c fun y hy => h y (by simp [hy])
    have h2 := h x (by simp)
    rw [sm, List.length_cons, Int.natCast_add, Int.add_mul]
    omega
theorem gt_map_cl (l : List Int) (i : Nat) : gt (l.map cl) i = if i < l.length then cl (gt l i) else 0 := by
  by_cases h : i < l.length
  · rw [if_pos h, gt_at (by simpa using h), gt_at h, List.getElem_map]
  · rw [if_neg h, gt_out (by simpa using h)]
/-- who has some work, in order -/
def row0 (w : List Int) (k : Nat) : List Nat := (List.range k).filter fun i => decide (0 < gt w i)
theorem row0_succ (w : List Int) (k : Nat) : row0 w (k + 1) = if 0 < gt w k then row0 w k ++ [k] else row0 w k := by
  unfold row0
  rw [List.range_succ, List.filter_append]
  by_cases h : 0 < gt w k
  · simp [h]
  · simp [h]
theorem SI.first {w : List Int} (h : ∀ i, 0 ≤ gt w i) : SI w (row0 w w.length) := by
  refine ⟨h, (List.nodup_range).filter _, fun i => ?_⟩
  unfold row0
  simp only [List.mem_filter, List.mem_range, decide_eq_true_eq]
  constructor
  · exact fun h => h.2
  · intro hp
    refine ⟨?_, hp⟩
    rcases Nat.lt_or_ge i w.length with h1 | h1
    · exact h1
    · rw [gt_out h1] at hp; omega
theorem Hd.first {w : List Int} : Hd w w (List.replicate w.length 0) := by
  refine ⟨by simp, rfl, fun i => ?_⟩
  rw [Int.sub_self]
  by_cases h : i < w.length
  · rw [gt_at (by simpa using h), List.getElem_replicate]
  · rw [gt_out (by simpa using h)]
/-- a fold over the turns -/
def hadF {β : Type} (stepf : Trn → List Int → β → β) : List Trn → List Int → β → β
  | [], _, st => st
  | t :: ts, so, st => hadF stepf ts (so.set t.who (gt so t.who + (t.to_ - t.fr))) (stepf t (so.set t.who (gt so t.who + (t.to_ - t.fr))) st)
def endsF (w : List Int) : List Trn → List Int → List Int → List Int
  | [], _, out => out
  | t :: ts, so, out => endsF w ts (so.set t.who (gt so t.who + (t.to_ - t.fr))) (if gt so t.who + (t.to_ - t.fr) = gt w t.who then out.set t.who t.to_ else out)
theorem endsF_len (w : List Int) : ∀ (ts : List Trn) (so out : List Int), (endsF w ts so out).length = out.length
  | [], so, out => rfl
  | t :: ts, so, out => by
    unfold endsF
    rw [endsF_len w ts]
    split <;> simp
theorem ends_ok {w : List Int} {q : Int} (hq : 1 ≤ q) : ∀ (f : Nat) (lf : List Int) (row : List Nat) (so out : List Int) (now : Int) (done : List Nat), SI lf row → Hd w lf so → sm lf ≤ f → out.length = lf.length → (done.length : Int) = now → (∀ i, gt lf i = 0 → gt out i = lastI i done 0 0) →
    ∀ i, gt (endsF w (turns q f lf row now) so out) i = lastI i (done ++ tk (turns q f lf row now)) 0 0
  | 0, lf, row, so, out, now, done, h, hd, hf, hl, hn, hI, i => by
    have h0 : gt lf i = 0 := by
      have := sm_ge lf i h.all
      have := h.nn i
      omega
    unfold turns
    rw [show tk [] = [] from rfl, List.append_nil]
    exact hI i h0
  | f + 1, lf, [], so, out, now, done, h, hd, hf, hl, hn, hI, i => by
    have h0 : gt lf i = 0 := by
      have h1 := h.nn i
      have h2 := (h.mem i).2
      by_cases h3 : 0 < gt lf i
      · exact absurd (h2 h3) (by simp)
      · omega
    unfold turns
    rw [show tk [] = [] from rfl, List.append_nil]
    exact hI i h0
  | f + 1, lf, j :: row, so, out, now, done, h, hd, hf, hl, hn, hI, i => by
    have hj := h.lt (i := j) (by simp)
    have hp := (h.mem j).1 (by simp)
    have hsum := h.sum (q := q)
    have hso := hd.2.2 j
    have e : now + min (gt lf j) q - now = min (gt lf j) q := by omega
    unfold turns
    show gt (endsF w (_ :: _) so out) i = _
    unfold endsF
    simp only [e]
    have := ends_ok hq f _ _ _ (if gt so j + min (gt lf j) q = gt w j then out.set j (now + min (gt lf j) q) else out) (now + min (gt lf j) q) (done ++ List.replicate (min (gt lf j) q).toNat j) (h.step hq) (hd.step hj (min (gt lf j) q)) (by omega) (by split <;> simp [hl]) (by simp; omega) (fun k hk => ?_) i
    · rw [this, List.append_assoc]
      congr 2
      show _ = List.replicate (now + min (gt lf j) q - now).toNat j ++ _
      rw [e]
      rfl
    · rw [gt_set hj] at hk
      rw [lastI_append]
      by_cases hjk : j = k
      · subst hjk
        rw [if_pos rfl] at hk
        rw [if_pos (by omega), gt_set (by rw [hl]; exact hj), if_pos rfl, lastI_eq _ _ _ (by omega)]
        omega
      · rw [if_neg hjk] at hk
        rw [lastI_ne hjk]
        split
        · rw [gt_set (by rw [hl]; exact hj), if_neg hjk]; exact hI k hk
        · exact hI k hk
theorem endsF_had {w : List Int} {q : Int} : ∀ (ts : List Trn) (so out : List Int) (now : Int), TOk w q ts so now → endsF w ts so out = hadF (fun t so out => if gt so t.who = gt w t.who then out.set t.who t.to_ else out) ts so out
  | [], so, out, now, h => rfl
  | t :: ts, so, out, now, h => by
    obtain ⟨h1, h2, h3, h4, h5, h6, h7⟩ := h
    unfold endsF hadF
    rw [gt_set h1, if_pos rfl, h2]
    exact endsF_had ts _ _ _ h7
/-! who is ahead -/
def wk (n : Int) : List Int → Int → Int
  | [], worst => worst
  | m :: l, worst => wk n l (if m - n > worst then m - n else worst)
def wi (w so : List Int) : List Nat → Int → Int
  | [], worst => worst
  | i :: l, worst => wi w so l (if gt so i = gt w i then worst else wk (gt so i) so worst)
def fairF (w : List Int) : List Trn → List Int → Int → Int
  | [], _, worst => worst
  | t :: ts, so, worst => fairF w ts (so.set t.who (gt so t.who + (t.to_ - t.fr))) (wi w (so.set t.who (gt so t.who + (t.to_ - t.fr))) (List.range so.length) worst)
theorem fairF_had {w : List Int} {n : Nat} : ∀ (ts : List Trn) (so : List Int) (worst : Int), so.length = n → fairF w ts so worst = hadF (fun _ so worst => wi w so (List.range n) worst) ts so worst
  | [], so, worst, h => rfl
  | t :: ts, so, worst, h => by
    unfold fairF hadF
    rw [h]
    exact fairF_had ts _ _ (by simpa using h)
theorem wk_le {n q : Int} : ∀ (l : List Int) (worst : Int), (∀ m ∈ l, m - n ≤ q) → worst ≤ q → wk n l worst ≤ q
  | [], worst, _, h => h
  | m :: l, worst, hm, h => by
    unfold wk
    refine wk_le l _ (fun x hx => hm x (by simp [hx])) ?_
    have := hm m (by simp)
    split <;> omega
theorem wi_le {w so : List Int} {q : Int} : ∀ (l : List Nat) (worst : Int), (∀ i, gt so i ≠ gt w i → ∀ m ∈ so, m - gt so i ≤ q) → worst ≤ q → wi w so l worst ≤ q
  | [], worst, _, h => h
  | i :: l, worst, hm, h => by
    unfold wi
    refine wi_le l _ hm ?_
    split
    · exact h
    · rename_i hne
      exact wk_le so _ (hm i hne) h
/-- rounds -/
def Rnd (q : Int) (so : List Int) (row : List Nat) : Prop := ∃ (r : Int) (a b : List Nat), row = a ++ b ∧ 0 ≤ r ∧ (∀ i ∈ a, gt so i = r) ∧ (∀ i ∈ b, gt so i = r + q) ∧ ∀ k, gt so k ≤ r + q
theorem Rnd.first {w : List Int} {q : Int} (hq : 1 ≤ q) (row : List Nat) : Rnd q (List.replicate w.length 0) row := by
  have hz : ∀ i, gt (List.replicate w.length 0) i = 0 := by
    intro i
    by_cases h : i < w.length
    · rw [gt_at (by simpa using h), List.getElem_replicate]
    · rw [gt_out (by simpa using h)]
  exact ⟨0, row, [], by simp, by omega, fun i _ => hz i, by simp, fun k => by rw [hz]; omega⟩
theorem fair_ok {w : List Int} {q : Int} (hq : 1 ≤ q) : ∀ (f : Nat) (lf : List Int) (row : List Nat) (so : List Int) (now worst : Int), SI lf row → Hd w lf so → Rnd q so row → worst ≤ q → fairF w (turns q f lf row now) so worst ≤ q
  | 0, lf, row, so, now, worst, h, hd, hr, hw => by unfold turns; exact hw
  | f + 1, lf, [], so, now, worst, h, hd, hr, hw => by unfold turns; exact hw
  | f + 1, lf, j :: row, so, now, worst, h, hd, hr, hw => by
    have hj := h.lt (i := j) (by simp)
    have hp := (h.mem j).1 (by simp)
    have hso := hd.2.2 j
    have e : now + min (gt lf j) q - now = min (gt lf j) q := by omega
    have hjs : j < so.length := by rw [hd.1]; exact hj
    obtain ⟨r, a, b, hab, h0, ha, hb, hk⟩ : ∃ (r : Int) (a b : List Nat), row = a ++ b ∧ 0 ≤ r ∧ (∀ i ∈ j :: a, gt so i = r) ∧ (∀ i ∈ b, gt so i = r + q) ∧ ∀ k, gt so k ≤ r + q := by
      obtain ⟨r, a, b, hab, h0, ha, hb, hk⟩ := hr
      cases a with
      | cons x a =>
        rw [List.cons_append] at hab
        obtain ⟨rfl, rfl⟩ := List.cons.inj hab
        exact ⟨r, a, b, rfl, h0, ha, hb, hk⟩
      | nil =>
        rw [List.nil_append] at hab
        refine ⟨r + q, row, [], by simp, by omega, ?_, by simp, fun k => by have := hk k; omega⟩
        rw [hab]; exact hb
    have hsoj := ha j (by simp)
    have hstep := h.step hq
    have hdst := hd.step hj (min (gt lf j) q)
    -- a further turn: all is a round's
    have hr' : ∀ k, gt (so.set j (gt so j + min (gt lf j) q)) k ≤ r + q := by
      intro k
      rw [gt_set hjs]
      have := hk k
      split <;> omega
    have hlow : ∀ i, gt (so.set j (gt so j + min (gt lf j) q)) i ≠ gt w i → r ≤ gt (so.set j (gt so j + min (gt lf j) q)) i := by
      intro i hne
      have h1 := hdst.2.2 i
      have h2 := hstep.nn i
      have h3 : 0 < gt (lf.set j (gt lf j - min (gt lf j) q)) i := by omega
      have h4 := (hstep.mem i).2 h3
      rw [gt_set hjs]
      by_cases hij : j = i
      · rw [if_pos hij]; omega
      · rw [if_neg hij]
        have h5 : i ∈ row := by
          split at h4
          · simp only [List.mem_append, List.mem_singleton] at h4
            rcases h4 with h4 | h4
            · exact h4
            · exact absurd h4.symm hij
          · exact h4
        rw [hab] at h5
        rcases List.mem_append.1 h5 with h5 | h5
        · have := ha i (by simp [h5]); omega
        · have := hb i h5; omega
    unfold turns
    show fairF w (_ :: _) so worst ≤ q
    unfold fairF
    simp only [e]
    refine fair_ok hq f _ _ _ _ _ hstep hdst ?_ ?_
    · refine ⟨r, a, if gt lf j - min (gt lf j) q > 0 then b ++ [j] else b, ?_, h0, ?_, ?_, hr'⟩
      · rw [hab]; split <;> simp
      · intro i hi
        have hne : j ≠ i := by
          intro he
          subst he
          exact (List.nodup_cons.1 h.nd).1 (by rw [hab]; simp [hi])
        rw [gt_set hjs, if_neg hne]
        exact ha i (by simp [hi])
      · intro i hi
        rw [gt_set hjs]
        by_cases hij : j = i
        · rw [if_pos hij]
          by_cases hc : gt lf j - min (gt lf j) q > 0
          · omega
          · rw [if_neg hc] at hi
            have := hb i hi
            rw [← hij] at this
            omega
        · rw [if_neg hij]
          by_cases hc : gt lf j - min (gt lf j) q > 0
          · rw [if_pos hc] at hi
            simp only [List.mem_append, List.mem_singleton] at hi
            rcases hi with hi | hi
            · exact hb i hi
            · exact absurd hi.symm hij
          · rw [if_neg hc] at hi
            exact hb i hi
    · refine wi_le _ _ (fun i hne m hm => ?_) hw
      obtain ⟨k, hk', rfl⟩ := List.getElem_of_mem hm
      have h1 := hr' k
      rw [gt_at hk'] at h1
      have h2 := hlow i hne
      omega
end Go.Sb
