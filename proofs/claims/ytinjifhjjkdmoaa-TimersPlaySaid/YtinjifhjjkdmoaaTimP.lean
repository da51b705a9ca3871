/- Timers, as plain lists. Conditions: none. -/
import Derived.Test.YtinjifhjjkdmoaaDelP
namespace Go.Sb
open Go
def absF : Int → DL → List (Int × Int)
  | _, [] => []
  | s, (k, g) :: r => (k, s + g) :: absF (s + g) r
theorem absF_len : ∀ (s : Int) (l : DL), (absF s l).length = l.length
  | _, [] => rfl
  | s, (k, g) :: r => by simp [absF, absF_len (s + g) r]
theorem absF_keys : ∀ (s : Int) (l : DL), (absF s l).map (·.1) = l.map (·.1)
  | _, [] => rfl
  | s, (k, g) :: r => by simp [absF, absF_keys (s + g) r]
theorem abs_ge : ∀ (l : DL) (s : Int), (∀ p ∈ l, 0 ≤ p.2) → ∀ q ∈ absF s l, s ≤ q.2
  | [], s, h, q, hq => by simp [absF] at hq
  | (k, g) :: r, s, h, q, hq => by
    have h1 := h (k, g) (by simp)
    simp only at h1
    rcases List.mem_cons.1 hq with hq | hq
    · subst hq; show s ≤ s + g; omega
    · have := abs_ge r (s + g) (fun p hp => h p (by simp [hp])) q hq
      omega
theorem abs_le : ∀ (l : DL) (s : Int), (∀ p ∈ l, 0 ≤ p.2) → ∀ q ∈ absF s l, q.2 ≤ s + dsum l
  | [], s, h, q, hq => by simp [absF] at hq
  | (k, g) :: r, s, h, q, hq => by
    have hr : ∀ p ∈ r, 0 ≤ p.2 := fun p hp => h p (by simp [hp])
    have hn := dsum_nn hr
    simp only [dsum]
    rcases List.mem_cons.1 hq with hq | hq
    · subst hq; show s + g ≤ _; omega
    · have := abs_le r (s + g) hr q hq
      omega
/-- a row: who, when it is due, its gap -/
structure Tr where
  id : Int
  due : Int
  gap : Int
def Tr.enc (r : Tr) : List Value := [.int .i64 r.id, .int .i64 r.due, .int .i64 r.gap]
def cleT (t : Int) : List Tr → Nat
  | [] => 0
  | r :: l => if r.due ≤ t then cleT t l + 1 else 0
theorem cleT_le (t : Int) : ∀ l, cleT t l ≤ l.length
  | [] => by simp [cleT]
  | r :: l => by
    have := cleT_le t l
    unfold cleT
    split <;> simp <;> omega
def putT (r : Tr) (l : List Tr) : List Tr := l.take (cleT r.due l) ++ r :: l.drop (cleT r.due l)
theorem putT_len (r : Tr) (l : List Tr) : (putT r l).length = l.length + 1 := by
  have := cleT_le r.due l
  unfold putT
  simp; omega
def isDue (t : Int) (r : Tr) : Bool := r.due == t
def firedT (t : Int) (l : List Tr) : List Tr := l.takeWhile (isDue t)
def restT (t : Int) (l : List Tr) : List Tr := l.dropWhile (isDue t)
def againT (t : Int) (l : List Tr) : List Tr := (l.filter fun r => decide (r.gap > 0)).map fun r => ⟨r.id, t + r.gap, r.gap⟩
def putsT : List Tr → List Tr → List Tr
  | [], acc => acc
  | r :: fs, acc => putsT fs (putT r acc)
def tickT (t : Int) (l : List Tr) : List Tr := putsT (againT t (firedT t l)) (restT t l)
def outT (t : Int) (l : List Tr) : List (Int × Int) := (firedT t l).map fun r => (r.id, t)
def tkN : Nat → Int → List Tr → List Tr
  | 0, _, l => l
  | n + 1, now, l => tkN n (now + 1) (tickT (now + 1) l)
def otN : Nat → Int → List Tr → List (Int × Int)
  | 0, _, _ => []
  | n + 1, now, l => outT (now + 1) l ++ otN n (now + 1) (tickT (now + 1) l)
theorem tkN_add : ∀ (a b : Nat) (now : Int) (l : List Tr), tkN (a + b) now l = tkN b (now + a) (tkN a now l)
  | 0, b, now, l => by simp [tkN]
  | a + 1, b, now, l => by
    rw [show a + 1 + b = (a + b) + 1 by omega, tkN, tkN, tkN_add a b]
    congr 1
    omega
theorem otN_add : ∀ (a b : Nat) (now : Int) (l : List Tr), otN (a + b) now l = otN a now l ++ otN b (now + a) (tkN a now l)
  | 0, b, now, l => by simp [tkN, otN]
  | a + 1, b, now, l => by
    rw [show a + 1 + b = (a + b) + 1 by omega, otN, otN, tkN, otN_add a b, List.append_assoc]
    congr 3
    omega
theorem putsT_len : ∀ (fs acc : List Tr), (putsT fs acc).length = acc.length + fs.length
  | [], acc => rfl
  | r :: fs, acc => by rw [putsT, putsT_len fs, putT_len, List.length_cons]; omega
theorem fired_rest (t : Int) (l : List Tr) : (firedT t l).length + (restT t l).length = l.length := by
  have := congrArg List.length (List.takeWhile_append_dropWhile (p := isDue t) (l := l))
  rw [List.length_append] at this
  exact this
theorem tickT_len (t : Int) (l : List Tr) : (tickT t l).length ≤ l.length ∧ (outT t l).length ≤ l.length := by
  have h1 := fired_rest t l
  have h2 : (againT t (firedT t l)).length ≤ (firedT t l).length := by
    unfold againT
    rw [List.length_map]
    exact List.length_filter_le _ _
  unfold tickT outT
  rw [putsT_len, List.length_map]
  omega
theorem otN_len : ∀ (n : Nat) (now : Int) (l : List Tr), (otN n now l).length ≤ n * l.length
  | 0, now, l => by simp [otN]
  | n + 1, now, l => by
    have h1 := tickT_len (now + 1) l
    have h2 := otN_len n (now + 1) (tickT (now + 1) l)
    have h3 : n * (tickT (now + 1) l).length ≤ n * l.length := Nat.mul_le_mul_left _ h1.1
    rw [otN, List.length_append, Nat.add_mul]
    omega
theorem tick_quiet {t : Int} {l : List Tr} (h : ∀ r ∈ l, r.due ≠ t) : tickT t l = l ∧ outT t l = [] := by
  have hf : firedT t l = [] := by
    unfold firedT
    cases l with
    | nil => rfl
    | cons r l => rw [List.takeWhile_cons]; have := h r (by simp); simp [isDue, this]
  have hr : restT t l = l := by
    unfold restT
    cases l with
    | nil => rfl
    | cons r l => rw [List.dropWhile_cons]; have := h r (by simp); simp [isDue, this]
  unfold tickT outT
  rw [hf, hr]
  exact ⟨rfl, rfl⟩
theorem quiet : ∀ (n : Nat) (now : Int) (l : List Tr), (∀ r ∈ l, now + n < r.due) → tkN n now l = l ∧ otN n now l = []
  | 0, now, l, h => ⟨rfl, rfl⟩
  | n + 1, now, l, h => by
    obtain ⟨h1, h2⟩ := tick_quiet (t := now + 1) (l := l) fun r hr => by have := h r hr; omega
    obtain ⟨h3, h4⟩ := quiet n (now + 1) l fun r hr => by have := h r hr; omega
    unfold tkN otN
    rw [h1, h2]
    exact ⟨h3, h4⟩
def rowsT (now : Int) (l : DL) (per : Int → Int) : List Tr := (absF now l).map fun p => ⟨p.1, p.2, per p.1⟩
theorem rowsT_len (now : Int) (l : DL) (per : Int → Int) : (rowsT now l per).length = l.length := by simp [rowsT, absF_len]
/-- the first one is not due now -/
def hd1 : DL → Prop
  | [] => True
  | (_, g) :: _ => 1 ≤ g
theorem rows_ins (key : Int) (per : Int → Int) : ∀ (l : DL) (s t : Int), rowsT s (ins key l t) per = putT ⟨key, s + t, per key⟩ (rowsT s l per)
  | [], s, t => by simp [ins, absF, rowsT, putT, cleT]
  | (k, g) :: r, s, t => by
    unfold ins
    by_cases hg : g ≤ t
    · rw [if_pos hg]
      have ih := rows_ins key per r (s + g) (t - g)
      have e : cleT (s + t) (rowsT s ((k, g) :: r) per) = cleT (s + t) (rowsT (s + g) r per) + 1 := by
        show (if s + g ≤ s + t then _ else _) = _
        rw [if_pos (by omega)]; rfl
      unfold putT
      rw [e]
      show (⟨k, s + g, per k⟩ : Tr) :: rowsT (s + g) (ins key r (t - g)) per = _
      rw [ih, show s + g + (t - g) = s + t by omega]
      rfl
    · rw [if_neg hg]
      have e : cleT (s + t) (rowsT s ((k, g) :: r) per) = 0 := by
        show (if s + g ≤ s + t then _ else _) = _
        rw [if_neg (by omega)]
      unfold putT
      rw [e]
      show (⟨key, s + t, per key⟩ : Tr) :: ⟨k, s + t + (g - t), per k⟩ :: rowsT (s + t + (g - t)) r per = ⟨key, s + t, per key⟩ :: ⟨k, s + g, per k⟩ :: rowsT (s + g) r per
      rw [show s + t + (g - t) = s + g by omega]
theorem rows_cut (per : Int → Int) : ∀ (l : DL) (i : Nat) (s : Int), rowsT s (cutL l i) per = (rowsT s l per).eraseIdx i
  | [], i, s => by simp [cutL, absF, rowsT]
  | [(k, g)], 0, s => by simp [cutL, absF, rowsT]
  | (k, g) :: (k', g') :: r, 0, s => by
    simp only [cutL, absF, rowsT, List.map_cons, List.eraseIdx_cons_zero]
    rw [show s + (g' + g) = s + g + g' by omega]
  | (k, g) :: r, i + 1, s => by
    have e : cutL ((k, g) :: r) (i + 1) = (k, g) :: cutL r i := by cases r <;> rfl
    have ih := rows_cut per r i (s + g)
    rw [e]
    show (⟨k, s + g, per k⟩ : Tr) :: rowsT (s + g) (cutL r i) per = ⟨k, s + g, per k⟩ :: (rowsT (s + g) r per).eraseIdx i
    rw [ih]
/-- who is due -/
theorem rows_adv (per : Int → Int) : ∀ (l : DL) (s t : Int), (∀ p ∈ l, 0 ≤ p.2) → (∀ q ∈ absF s l, t ≤ q.2) →
    firedT t (rowsT s l per) = (adv (t - s) l).1.map (fun k => ⟨k, t, per k⟩) ∧ restT t (rowsT s l per) = rowsT t (adv (t - s) l).2 per
  | [], s, t, h, hd => ⟨rfl, rfl⟩
  | (k, g) :: r, s, t, h, hd => by
    have hg := hd (k, s + g) (by simp [absF])
    simp only at hg
    have hr : ∀ p ∈ r, 0 ≤ p.2 := fun p hp => h p (by simp [hp])
    by_cases h1 : g ≤ t - s
    · have he : s + g = t := by omega
      have ih := rows_adv per r (s + g) t hr (fun q hq => by have := abs_ge r (s + g) hr q hq; omega)
      rw [show adv (t - s) ((k, g) :: r) = (k :: (adv (t - s - g) r).1, (adv (t - s - g) r).2) from if_pos h1]
      rw [show t - (s + g) = t - s - g by omega] at ih
      have e : rowsT s ((k, g) :: r) per = ⟨k, s + g, per k⟩ :: rowsT (s + g) r per := rfl
      have hd : isDue t ⟨k, s + g, per k⟩ = true := by simp [isDue, he]
      unfold firedT restT at ih ⊢
      rw [e, List.takeWhile_cons, List.dropWhile_cons, hd]
      simp only [if_true, List.map_cons]
      rw [ih.1, ih.2, he]
      exact ⟨rfl, rfl⟩
    · rw [show adv (t - s) ((k, g) :: r) = ([], (k, g - (t - s)) :: r) from if_neg h1]
      have e : rowsT s ((k, g) :: r) per = ⟨k, s + g, per k⟩ :: rowsT (s + g) r per := rfl
      have hd : isDue t ⟨k, s + g, per k⟩ = false := by simp [isDue]; omega
      unfold firedT restT
      rw [e, List.takeWhile_cons, List.dropWhile_cons, hd]
      refine ⟨rfl, ?_⟩
      show _ = (⟨k, t + (g - (t - s)), per k⟩ : Tr) :: rowsT (t + (g - (t - s))) r per
      rw [show t + (g - (t - s)) = s + g by omega]
      rfl
theorem adv_hd : ∀ (l : DL) (t : Int), hd1 (adv t l).2
  | [], t => trivial
  | (k, g) :: r, t => by
    by_cases h1 : g ≤ t
    · rw [show adv t ((k, g) :: r) = (k :: (adv (t - g) r).1, (adv (t - g) r).2) from if_pos h1]
      exact adv_hd r (t - g)
    · rw [show adv t ((k, g) :: r) = ([], (k, g - t) :: r) from if_neg h1]
      show 1 ≤ g - t
      omega
theorem adv_keys : ∀ (l : DL) (t : Int), l.map (·.1) = (adv t l).1 ++ (adv t l).2.map (·.1)
  | [], t => rfl
  | (k, g) :: r, t => by
    by_cases h1 : g ≤ t
    · rw [show adv t ((k, g) :: r) = (k :: (adv (t - g) r).1, (adv (t - g) r).2) from if_pos h1]
      rw [List.map_cons, adv_keys r (t - g)]; rfl
    · rw [show adv t ((k, g) :: r) = ([], (k, g - t) :: r) from if_neg h1]
      rfl
theorem ins_hd (key : Int) (l : DL) (t : Int) (h : hd1 l) (ht : 1 ≤ t) : hd1 (ins key l t) := by
  cases l with
  | nil => exact ht
  | cons p r =>
    obtain ⟨k, g⟩ := p
    unfold ins
    split
    · exact h
    · exact ht
theorem cut_hd (l : DL) (i : Nat) (h : hd1 l) (hg : ∀ p ∈ l, 0 ≤ p.2) : hd1 (cutL l i) := by
  cases l with
  | nil => simp [cutL, hd1]
  | cons p r =>
    obtain ⟨k, g⟩ := p
    cases i with
    | zero =>
      cases r with
      | nil => simp [cutL, hd1]
      | cons p' r =>
        obtain ⟨k', g'⟩ := p'
        have h1 := hg (k', g') (by simp)
        have h2 : 1 ≤ g := h
        show 1 ≤ g' + g
        simp only at h1
        omega
    | succ i =>
      have e : cutL ((k, g) :: r) (i + 1) = (k, g) :: cutL r i := by cases r <;> rfl
      rw [e]; exact h
theorem ins_keys (key : Int) : ∀ (l : DL) (t : Int), ((ins key l t).map (·.1)).Perm (key :: l.map (·.1))
  | [], t => .refl _
  | (k, g) :: r, t => by
    unfold ins
    split
    · exact ((ins_keys key r (t - g)).cons k).trans (.swap _ _ _)
    · exact .refl _
theorem cut_keys : ∀ (l : DL) (i : Nat), (cutL l i).map (·.1) = (l.map (·.1)).eraseIdx i
  | [], i => by simp [cutL]
  | [(k, g)], 0 => by simp [cutL]
  | (k, g) :: (k', g') :: r, 0 => by simp [cutL]
  | (k, g) :: r, i + 1 => by
    have e : cutL ((k, g) :: r) (i + 1) = (k, g) :: cutL r i := by cases r <;> rfl
    rw [e, List.map_cons, cut_keys r i]; rfl
theorem fnk_none {key : Int} : ∀ (l : DL) (i : Nat) (w : Int), fnk key l i w = none ↔ key ∉ l.map (·.1)
  | [], i, w => by simp [fnk]
  | (k, g) :: r, i, w => by
    have ih := fnk_none (key := key) r (i + 1) (w + g)
    unfold fnk
    by_cases h : k = key
    · simp [h]
    · rw [if_neg h, ih]
      simp [Ne.symm h]
theorem fnk_at {key : Int} : ∀ (l : DL) (i : Nat) (w : Int), (l.map (·.1)).Nodup → ∀ (j : Nat) (d : Int), (absF w l)[j]? = some (key, d) → fnk key l i w = some (i + j, d)
  | [], i, w, hn, j, d, h => by simp [absF] at h
  | (k, g) :: r, i, w, hn, 0, d, h => by
    simp only [absF, List.getElem?_cons_zero, Option.some.injEq, Prod.mk.injEq] at h
    unfold fnk
    rw [if_pos h.1, h.2]; rfl
  | (k, g) :: r, i, w, hn, j + 1, d, h => by
    simp only [absF, List.getElem?_cons_succ] at h
    have hn' := List.nodup_cons.1 (by simpa using hn : (k :: r.map (·.1)).Nodup)
    have hm : key ∈ r.map (·.1) := by
      rw [← absF_keys (w + g) r]
      exact List.mem_map.2 ⟨(key, d), List.mem_of_getElem? h, rfl⟩
    have hk : ¬ k = key := fun hk => hn'.1 (hk ▸ hm)
    unfold fnk
    rw [if_neg hk, fnk_at r (i + 1) (w + g) hn'.2 j d h]
    congr 2
    omega
end Go.Sb
