/- Timers: what each call answers. Conditions: none. -/
import Derived.Test.YtinjifhjjkdmoaaTimM
import Derived.Test.YtinjifhjjkdmoaaDltQ
import Derived.Test.YtinjifhjjkdmoaaTimP
import Derived.Test.YtinjifhjjkdmoaaSbW
namespace Go.Proofs.Ytinjifhjjkdmoaa
open Go Go.Sb
set_option linter.unusedSimpArgs false
set_option linter.unusedVariables false
abbrev encP : Int × Int → List Value := fun p => [.int .i64 p.1, .int .i64 p.2]
theorem encP_one (x : Int × Int) : ∀ v ∈ encP x, v.oneCell' = true := by
  intro v hv
  simp only [List.mem_cons, List.not_mem_nil, or_false] at hv
  rcases hv with rfl | rfl <;> rfl
abbrev keysL (l : DL) : List Int := l.map (·.1)
def gapF (per : Int → Int) (S : List Int) : Int → Option Value := fun k => if k ∈ S then some (.int .i64 (per k)) else none
theorem gapF_congr {per per' : Int → Int} {S S' : List Int} (h1 : ∀ k, k ∈ S ↔ k ∈ S') (h2 : ∀ k ∈ S, per k = per' k) : gapF per S = gapF per' S' := by
  funext k
  unfold gapF
  by_cases hk : k ∈ S
  · rw [if_pos hk, if_pos ((h1 k).1 hk), h2 k hk]
  · rw [if_neg hk, if_neg (fun h => hk ((h1 k).2 h))]
def aTm (tb : Nat) (l : DL) (per : Int → Int) (S : List Int) (now : Int) : As := aEx fun x : Nat × Nat × Nat => aStar (aStar (aBlk tb [.pointer (some ⟨x.1, 0, none⟩), .map (some x.2.1), .int .i64 now]) (aDl x.1 l)) (aMap x.2.1 .i64 (gapF per S) x.2.2)
section
variable {h0 h : Hp} {R X : List As} {tb : Nat} {l : DL} {per : Int → Int} {S : List Int} {now : Int}
theorem aTm_iff : Sep h0 h (aTm tb l per S now :: R) ↔ ∃ d g n : Nat, Sep h0 h (aBlk tb [.pointer (some ⟨d, 0, none⟩), .map (some g), .int .i64 now] :: aDl d l :: aMap g .i64 (gapF per S) n :: R) := by
  unfold aTm
  rw [Sep.ex]
  simp only [Sep.star]
  constructor
  · rintro ⟨⟨d, g, n⟩, hs⟩
    exact ⟨d, g, n, hs⟩
  · rintro ⟨d, g, n, hs⟩
    exact ⟨(d, g, n), hs⟩
theorem aTm_congr {per' : Int → Int} {S' : List Int} (h1 : ∀ k, k ∈ S ↔ k ∈ S') (h2 : ∀ k ∈ S, per k = per' k) (hs : Sep h0 h (aTm tb l per S now :: R)) : Sep h0 h (aTm tb l per' S' now :: R) := by
  have : aTm tb l per S now = aTm tb l per' S' now := by
    unfold aTm
    rw [gapF_congr h1 h2]
  rw [← this]; exact hs
theorem tNew_s (hs : Sep h0 h R) : N_timers_New h (fun v h' => ∃ tb, v = .pointer (some ⟨tb, 0, none⟩) ∧ ∀ per, Sep h0 h' (aTm tb [] per [] 0 :: R)) := by
  apply S_timers_New
  unfold B_timers_New
  rw [mBind_ap]
  refine (New_s hs).mono ?_
  rintro v h ⟨d, rfl, hs⟩
  simp only [unP_pointer]
  refine hs.mapNew .i64 fun g h hs => ?_
  refine Sep.new hs fun tb h hs => ?_
  refine ⟨tb, rfl, fun per => aTm_iff.2 ⟨d, g, 0, ?_⟩⟩
  have hs := hs.reT 3 [0, 2, 1] rfl (by simp)
  have e : gapF per [] = fun _ => none := by funext k; simp [gapF]
  rw [e]
  exact hs
structure TI (l : DL) (per : Int → Int) : Prop where
  ok : DOk l
  nd : (keysL l).Nodup
  w : ∀ k ∈ keysL l, -9223372036854775808 ≤ k ∧ k ≤ 9223372036854775807
  hd : hd1 l
  len : l.length ≤ 200
  per : ∀ k ∈ keysL l, 0 ≤ per k ∧ per k ≤ 16777216
def stC (l : DL) (id ticks gap : Int) : Int := if ticks < 1 ∨ gap < 0 ∨ gap > 16777216 then 5 else putC l id ticks
def updP (per : Int → Int) (id gap : Int) : Int → Int := fun k => if k = id then gap else per k
theorem Start_s {id ticks gap : Int} (hI : TI l per) (hs : Sep h0 h (aTm tb l per (keysL l) now :: R)) : N_timers_Timers_Start (some ⟨tb, 0, none⟩) id ticks gap h (fun v h' => v = .int .i64 (stC l id ticks gap) ∧
    Sep h0 h' ((if stC l id ticks gap = 0 then aTm tb (ins id l ticks) (updP per id gap) (keysL (ins id l ticks)) now else aTm tb l per (keysL l) now) :: R)) := by
  have hs0 := hs
  obtain ⟨d, g, n, hs⟩ := aTm_iff.1 hs
  apply S_timers_Timers_Start
  unfold B_timers_Timers_Start
  refine mIf_neg rfl ?_
  unfold stC
  refine mIf_intro (fun hc => ?_) (fun hc => ?_)
  · have hc : ticks < 1 ∨ gap < 0 ∨ gap > 16777216 := by
      simp only [Bool.or_eq_true, decide_eq_true_eq] at hc
      rcases hc with (hc | hc) | hc
      · exact .inl hc
      · exact .inr (.inl hc)
      · exact .inr (.inr hc)
    rw [if_pos hc, if_neg (by omega)]
    exact ⟨rfl, hs0⟩
  · have hc : ¬ (ticks < 1 ∨ gap < 0 ∨ gap > 16777216) := by
      simp only [Bool.or_eq_false_iff, decide_eq_false_iff_not] at hc
      omega
    rw [if_neg hc]
    (simp only [mNil_some, add_mk, Nat.zero_add]; refine Sep.ldP hs 0 rfl rfl ?_; simp only [mBind_ap])
    have hs := hs.reT 3 [1, 0, 2] rfl (by simp)
    refine (Put_s (key := id) (t := ticks) hI.ok (by have := hI.len; omega) hs).mono ?_
    rintro v h ⟨rfl, hs⟩
    simp only [unI_int]
    by_cases hp : putC l id ticks = 0
    · have hpl : putL l id ticks = ins id l ticks := by unfold putL; rw [if_pos hp]
      rw [hpl] at hs
      refine mIf_pos (by simpa using hp) ?_
      rw [if_pos hp]
      have hs := hs.reT 3 [1, 0, 2] rfl (by simp)
      refine hs.ldM 0 rfl rfl ?_
      rw [mNilM_some]
      refine hs.mapSet 2 rfl fun h hs => ?_
      refine ⟨rfl, aTm_iff.2 ⟨d, g, (if (gapF per (keysL l) id).isSome then n else n + 1), ?_⟩⟩
      have e : (fun j => if j = id then some (Value.int .i64 gap) else gapF per (keysL l) j) = gapF (updP per id gap) (keysL (ins id l ticks)) := by
        funext k
        unfold gapF updP
        have hm : k ∈ keysL (ins id l ticks) ↔ k = id ∨ k ∈ keysL l := by
          have := (ins_keys id l ticks).mem_iff (a := k)
          simpa using this
        by_cases hk : k = id
        · rw [if_pos hk, if_pos (hm.2 (.inl hk)), if_pos hk]
        · rw [if_neg hk, if_neg hk]
          by_cases hk2 : k ∈ keysL l
          · rw [if_pos hk2, if_pos (hm.2 (.inr hk2))]
          · rw [if_neg hk2, if_neg (fun h => by rcases hm.1 h with h | h; exact hk h; exact hk2 h)]
      rw [← e]
      exact hs
    · have hpl : putL l id ticks = l := by unfold putL; rw [if_neg hp]
      rw [hpl] at hs
      refine mIf_neg (by simpa using hp) ?_
      rw [if_neg hp]
      exact ⟨rfl, aTm_iff.2 ⟨d, g, n, hs.reT 3 [1, 0, 2] rfl (by simp)⟩⟩
theorem eraseIdx_mem {α : Type} [DecidableEq α] : ∀ (l : List α) (i : Nat) (x : α), l.Nodup → l[i]? = some x → ∀ y, y ∈ l.eraseIdx i ↔ y ∈ l ∧ y ≠ x
  | [], i, x, h, hi, y => by simp at hi
  | a :: l, 0, x, h, hi, y => by
    simp only [List.getElem?_cons_zero, Option.some.injEq] at hi
    subst hi
    have := List.nodup_cons.1 h
    rw [List.eraseIdx_cons_zero, List.mem_cons]
    constructor
    · intro hy; exact ⟨.inr hy, fun he => this.1 (he ▸ hy)⟩
    · rintro ⟨h1 | h1, h2⟩
      · exact absurd h1 h2
      · exact h1
  | a :: l, i + 1, x, h, hi, y => by
    have hn := List.nodup_cons.1 h
    simp only [List.getElem?_cons_succ] at hi
    have ih := eraseIdx_mem l i x hn.2 hi y
    rw [List.eraseIdx_cons_succ, List.mem_cons, List.mem_cons, ih]
    constructor
    · rintro (h1 | ⟨h1, h2⟩)
      · exact ⟨.inl h1, fun he => hn.1 (by rw [← h1, he]; exact List.mem_of_getElem? hi)⟩
      · exact ⟨.inr h1, h2⟩
    · rintro ⟨h1 | h1, h2⟩
      · exact .inl h1
      · exact .inr ⟨h1, h2⟩
theorem fnk_key {key : Int} : ∀ (l : DL) (i : Nat) (w : Int) (j : Nat) (d : Int), fnk key l i w = some (j, d) → i ≤ j ∧ (keysL l)[j - i]? = some key
  | [], i, w, j, d, h => by simp [fnk] at h
  | (k, g) :: r, i, w, j, d, h => by
    unfold fnk at h
    split at h
    · rename_i hk
      simp only [Option.some.injEq, Prod.mk.injEq] at h
      obtain ⟨rfl, rfl⟩ := h
      simp [hk]
    · have := fnk_key r (i + 1) (w + g) j d h
      refine ⟨by omega, ?_⟩
      rw [show j - i = (j - (i + 1)) + 1 by omega]
      exact this.2
theorem Stop_s {id : Int} (hI : TI l per) (hs : Sep h0 h (aTm tb l per (keysL l) now :: R)) : N_timers_Timers_Stop (some ⟨tb, 0, none⟩) id h (fun v h' => v = .bool (fnk id l 0 0).isSome ∧
    Sep h0 h' (aTm tb (dropL l id) per (keysL (dropL l id)) now :: R)) := by
  obtain ⟨d, g, n, hs⟩ := aTm_iff.1 hs
  apply S_timers_Timers_Stop
  unfold B_timers_Timers_Stop
  rw [mBind_ap]
  refine mIf_neg rfl ?_
  (simp only [mNil_some, add_mk, Nat.zero_add]; refine Sep.ldP hs 0 rfl rfl ?_; simp only [mBind_ap])
  have hs := hs.reT 3 [1, 0, 2] rfl (by simp)
  refine (Drop_s (key := id) hI.ok (by have := hI.len; omega) hs).mono ?_
  rintro v h ⟨rfl, hs⟩
  simp only [unB_bool, mRet_ap]
  have hs := hs.reT 3 [1, 0, 2] rfl (by simp)
  cases hf : fnk id l 0 0 with
  | none =>
    have hd : dropL l id = l := by unfold dropL; rw [hf]
    rw [hd] at hs ⊢
    refine mIf_pos rfl ?_
    exact ⟨rfl, aTm_iff.2 ⟨d, g, n, hs⟩⟩
  | some x =>
    obtain ⟨i, due⟩ := x
    have hd : dropL l id = cutL l i := by unfold dropL; rw [hf]
    rw [hd] at hs ⊢
    refine mIf_neg rfl ?_
    refine hs.ldM 0 rfl rfl ?_
    rw [mNilM_some]
    refine hs.mapDel 2 rfl fun h hs => ?_
    refine ⟨rfl, aTm_iff.2 ⟨d, g, (if (gapF per (keysL l) id).isSome then n - 1 else n), ?_⟩⟩
    have hk := (fnk_key l 0 0 i due hf).2
    rw [Nat.sub_zero] at hk
    have e : (fun j => if j = id then none else gapF per (keysL l) j) = gapF per (keysL (cutL l i)) := by
      funext k
      unfold gapF
      rw [show keysL (cutL l i) = (keysL l).eraseIdx i from cut_keys l i]
      have hm := eraseIdx_mem (keysL l) i id hI.nd hk k
      by_cases h1 : k = id
      · rw [if_pos h1, if_neg (fun h => (hm.1 h).2 h1)]
      · rw [if_neg h1]
        by_cases h2 : k ∈ keysL l
        · rw [if_pos h2, if_pos (hm.2 ⟨h2, h1⟩)]
        · rw [if_neg h2, if_neg (fun h => h2 (hm.1 h).1)]
    rw [← e]
    exact hs
/-- who ran out is started again, or let go -/
theorem again_s {id : Int} {pend : List Int} (hok : DOk l) (hlen : l.length ≤ 200) (hnd : (id :: (pend ++ keysL l)).Nodup) (hper : 0 ≤ per id ∧ per id ≤ 16777216) (hs : Sep h0 h (aTm tb l per (id :: (pend ++ keysL l)) now :: R)) :
    N_timers_Timers_again (some ⟨tb, 0, none⟩) id h (fun v h' => v = .tuple #[] ∧ Sep h0 h' (aTm tb (if per id > 0 then ins id l (per id) else l) per (pend ++ keysL (if per id > 0 then ins id l (per id) else l)) now :: R)) := by
  have hnk := List.nodup_cons.1 hnd
  obtain ⟨d, g, n, hs⟩ := aTm_iff.1 hs
  apply S_timers_Timers_again
  unfold B_timers_Timers_again
  simp only [mNil_some, add_mk, Nat.zero_add]
  refine hs.ldM 0 rfl rfl ?_
  rw [mNilM_some]
  refine hs.mapGet 2 rfl ?_
  have hgf : gapF per (id :: (pend ++ keysL l)) id = some (.int .i64 (per id)) := by unfold gapF; rw [if_pos (by simp)]
  rw [hgf]
  simp only [Option.getD_some, unI_int]
  refine mIf_dec (fun hc => ?_) (fun hc => ?_)
  · rw [if_pos hc]
    (refine Sep.ldP hs 0 rfl rfl ?_; simp only [mBind_ap])
    have hs := hs.reT 3 [1, 0, 2] rfl (by simp)
    refine (Put_s (key := id) (t := per id) hok (by omega) hs).mono ?_
    rintro v h ⟨rfl, hs⟩
    have hf : fnk id l 0 0 = none := (fnk_none l 0 0).2 fun hm => hnk.1 (by simp only [List.mem_append]; exact .inr hm)
    have hpc : putC l id (per id) = 0 := by
      unfold putC
      rw [if_neg (by omega), hf]; rfl
    have hpl : putL l id (per id) = ins id l (per id) := by unfold putL; rw [if_pos hpc]
    rw [hpl] at hs
    simp only [unI_int]
    refine ⟨rfl, aTm_congr (S := id :: (pend ++ keysL l)) (fun k => ?_) (fun _ _ => rfl) (aTm_iff.2 ⟨d, g, n, hs.reT 3 [1, 0, 2] rfl (by simp)⟩)⟩
    have := (ins_keys id l (per id)).mem_iff (a := k)
    simp only [List.mem_cons, List.mem_append] at this ⊢
    rw [this]
    constructor
    · rintro (h | h | h)
      · exact .inr (.inl h)
      · exact .inl h
      · exact .inr (.inr h)
    · rintro (h | h | h)
      · exact .inr (.inl h)
      · exact .inl h
      · exact .inr (.inr h)
  · rw [if_neg hc]
    refine hs.ldM 0 rfl rfl ?_
    rw [mNilM_some]
    refine hs.mapDel 2 rfl fun h hs => ?_
    refine ⟨rfl, aTm_iff.2 ⟨d, g, (if (gapF per (id :: (pend ++ keysL l)) id).isSome then n - 1 else n), ?_⟩⟩
    have e : (fun j => if j = id then none else gapF per (id :: (pend ++ keysL l)) j) = gapF per (pend ++ keysL l) := by
      funext k
      unfold gapF
      by_cases h1 : k = id
      · rw [if_pos h1, if_neg (by rw [h1]; exact hnk.1)]
      · rw [if_neg h1]
        by_cases h2 : k ∈ pend ++ keysL l
        · rw [if_pos (List.mem_cons_of_mem _ h2), if_pos h2]
        · rw [if_neg h2, if_neg (fun h => by rcases List.mem_cons.1 h with h | h; exact h1 h; exact h2 h)]
    rw [← e]
    exact hs
end
end Go.Proofs.Ytinjifhjjkdmoaa
