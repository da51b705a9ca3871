/- Timers: TimersPlay. Conditions: none. -/
import Derived.Test.YtinjifhjjkdmoaaTimT
import Derived.Test.YtinjifhjjkdmoaaSbW
namespace Go.Proofs.Ytinjifhjjkdmoaa
open Go Go.Sb
set_option linter.unusedSimpArgs false
set_option linter.unusedVariables false
section
variable {h0 h : Hp} {R X : List As} {tb : Nat} {l : DL} {per : Int → Int} {now : Int} {r acts : Sl} {rows : List Tr}
def NextT (h0 : Hp) (tb : Nat) (acts : Sl) (k : Int) (n : Nat) (m : Int) : Prop := ∀ (h : Hp) (r : Sl) (l : DL) (per : Int → Int) (now : Int), TI l per → l.length ≤ n → 0 ≤ now → now ≤ m → Sep h0 h [aTm tb l per (keysL l) now, aRow Tr.enc 3 r (rowsT now l per)] →
  K_signalboxlaw47_TimersPlay_9 (some ⟨tb, 0, none⟩) r now acts (acts.n : Int) (IntKind.i64.wrap (k + 1)) h (TFin h0)
theorem tl52 {k m : Int} {n : Nat} {ids : Sl} (hn : n ≤ 150) (next : NextT h0 tb acts k n m) (hI : TI l per) (hl : l.length ≤ n) (h0n : 0 ≤ now) (hm : now ≤ m) (hm2 : m ≤ 100000000) : ∀ (e j : Nat) (h : Hp), j + e = l.length → Sep h0 h [aRow encI 1 ids (keysL l), aTm tb l per (keysL l) now, aRow Tr.enc 3 r (rowsT now l per)] →
    K_signalboxlaw47_TimersPlay_52 (some ⟨tb, 0, none⟩) r now ids acts (acts.n : Int) k r (r.n : Int) (j : Int) h (TFin h0)
  | 0, j, h, hj, hs => by
    have hrn := hs.rowLen 2 rfl
    rw [rowsT_len] at hrn
    apply S_signalboxlaw47_TimersPlay_52
    unfold B_signalboxlaw47_TimersPlay_52
    refine mIf_neg (by simp; omega) ?_
    exact next h r l per now hI hl h0n hm hs.drop
  | e + 1, j, h, hj, hs => by
    have ih := tl52 (ids := ids) hn next hI hl h0n hm hm2 e (j + 1)
    have hrn := hs.rowLen 2 rfl
    have hrl := rowsT_len now l per
    rw [hrl] at hrn
    have hjl : j < l.length := by omega
    have hkl : (keysL l).length = l.length := by simp
    obtain ⟨q, hq⟩ : ∃ q, (absF 0 l)[j]? = some q := ⟨_, List.getElem?_eq_getElem (by rw [absF_len]; exact hjl)⟩
    have hq2 : (absF now l)[j]? = some (q.1, q.2 + now) := by
      have := absF_shift l 0 now
      rw [Int.zero_add] at this
      rw [this, List.getElem?_map, hq]; rfl
    have hrow : (rowsT now l per)[j]? = some ⟨q.1, q.2 + now, per q.1⟩ := by
      unfold rowsT
      rw [List.getElem?_map, hq2]; rfl
    have hkey : (keysL l)[j]? = some q.1 := by
      have : keysL l = (absF 0 l).map (·.1) := (absF_keys 0 l).symm
      rw [this, List.getElem?_map, hq]; rfl
    have hfk := fnk_at (key := q.1) l 0 0 hI.nd j q.2 hq
    rw [Nat.zero_add] at hfk
    have hqm := List.mem_of_getElem? hq
    have hqb := abs_le l 0 hI.ok.gap q hqm
    have hqb2 := abs_ge l 0 hI.ok.gap q hqm
    have hsum := hI.ok.sum
    apply S_signalboxlaw47_TimersPlay_52
    unfold B_signalboxlaw47_TimersPlay_52
    refine mIf_pos (by simp; omega) ?_
    rw [wrap64 ((j : Int) + 1) (by omega), show ((j : Int) + 1) = ((j + 1 : Nat) : Int) by omega]
    refine hs.idx 2 rfl (by omega) (by omega) fun a ha => ?_
    simp only [Int.toNat_natCast] at ha
    refine hs.rldI0 2 rfl (fun _ => rfl) ha hrow rfl ?_
    refine hs.rldI 2 (j := 1) rfl (fun _ => rfl) ha hrow rfl ?_
    refine hs.rldI 2 (j := 2) rfl (fun _ => rfl) ha hrow rfl ?_
    refine Sep.new hs fun nb h hs => ?_
    refine hs.st 0 rfl rfl rfl fun h hs => ?_
    rw [add_mk, add_mk]
    refine hs.st 0 rfl rfl rfl fun h hs => ?_
    refine hs.st 0 rfl rfl rfl fun h hs => ?_
    have hs : Sep h0 h [aBlk nb [.int .i64 q.1, .int .i64 (q.2 + now), .int .i64 (per q.1)], aRow encI 1 ids (keysL l), aTm tb l per (keysL l) now, aRow Tr.enc 3 r (rowsT now l per)] := hs
    refine hs.ldI 0 rfl rfl ?_
    rw [mBind_ap]
    refine (Left_s (id := q.1) hI (hs.re [2, 0, 1, 3] rfl)).mono ?_
    rintro v h' ⟨rfl, rfl⟩
    rw [hfk]
    unfold dueV
    simp only [un2_tuple, unI_int, unB_bool, Option.map_some, Option.getD_some, Option.isSome_some]
    refine hs.idx 1 rfl (by omega) (by omega) fun a ha => ?_
    simp only [Int.toNat_natCast] at ha
    refine hs.rldI0 1 rfl (fun _ => rfl) ha hkey rfl ?_
    refine hs.ldI 0 rfl rfl ?_
    rw [mBind_ap]
    refine mIf_neg (by simp) ?_
    refine hs.ldI 0 rfl rfl ?_
    rw [mRet_ap, wrap64 (q.2 + now - now) (by omega)]
    refine mIf_neg (by simp) ?_
    exact ih h' (by omega) hs.drop
theorem tl48 {k m : Int} {n : Nat} (hn : n ≤ 150) (next : NextT h0 tb acts k n m) (hI : TI l per) (hl : l.length ≤ n) (h0n : 0 ≤ now) (hm : now ≤ m) (hm2 : m ≤ 100000000) (hs : Sep h0 h [aTm tb l per (keysL l) now, aRow Tr.enc 3 r (rowsT now l per)]) :
    K_signalboxlaw47_TimersPlay_48 (some ⟨tb, 0, none⟩) r now acts (acts.n : Int) k h (TFin h0) := by
  have hrn := hs.rowLen 1 rfl
  rw [rowsT_len] at hrn
  apply S_signalboxlaw47_TimersPlay_48
  unfold B_signalboxlaw47_TimersPlay_48
  rw [mBind_ap]
  refine (Running_s hI hs).mono ?_
  rintro v h ⟨o, rfl, hs⟩
  have hon := hs.rowLen 0 rfl
  rw [List.length_map] at hon
  simp only [unL_slice]
  rw [mBind_ap]
  refine mIf_neg (by simp; omega) ?_
  rw [mBind_ap]
  refine (Now_s hs.drop).mono ?_
  rintro v h' ⟨rfl, rfl⟩
  simp only [unI_int]
  rw [mRet_ap]
  refine mIf_neg (by simp) ?_
  exact tl52 hn next hI hl h0n hm hm2 l.length 0 h' (Nat.zero_add _) hs
theorem tl43 {k m : Int} {n : Nat} {x y : Sl} {ps : List (Int × Int)} (hps : ps.length ≤ 10000000) (hn : n ≤ 150) (next : NextT h0 tb acts k n m) (hI : TI l per) (hl : l.length ≤ n) (h0n : 0 ≤ now) (hm : now ≤ m) (hm2 : m ≤ 100000000) : ∀ (e j : Nat) (h : Hp), j + e = ps.length → Sep h0 h [aRow encP 2 x ps, aRow encP 2 y ps, aTm tb l per (keysL l) now, aRow Tr.enc 3 r (rowsT now l per)] →
    K_signalboxlaw47_TimersPlay_43 (some ⟨tb, 0, none⟩) r now y x acts (acts.n : Int) k (x.n : Int) (j : Int) h (TFin h0)
  | 0, j, h, hj, hs => by
    have hxn := hs.rowLen 0 rfl
    apply S_signalboxlaw47_TimersPlay_43
    unfold B_signalboxlaw47_TimersPlay_43
    refine mIf_neg (by simp; omega) ?_
    exact tl48 hn next hI hl h0n hm hm2 hs.drop.drop
  | e + 1, j, h, hj, hs => by
    have ih := tl43 (x := x) (y := y) hps hn next hI hl h0n hm hm2 e (j + 1)
    have hxn := hs.rowLen 0 rfl
    have hjl : j < ps.length := by omega
    apply S_signalboxlaw47_TimersPlay_43
    unfold B_signalboxlaw47_TimersPlay_43
    refine mIf_pos (by simp; omega) ?_
    rw [wrap64 ((j : Int) + 1) (by omega), show ((j : Int) + 1) = ((j + 1 : Nat) : Int) by omega]
    ((refine Sep.idx hs 0 rfl (by first | omega | (simp only [List.length_set, List.length_map, List.length_replicate, List.length_append, List.length_cons, List.length_nil, List.length_reverse, List.length_range]; omega) | (simp; omega)) (by first | omega | (simp only [List.length_set, List.length_map, List.length_replicate, List.length_append, List.length_cons, List.length_nil, List.length_reverse, List.length_range]; omega) | (simp; omega)) fun aa haa => ?_; try simp only [Int.toNat_natCast] at haa); refine Sep.rldI0 hs 0 rfl (fun _ => rfl) haa (List.getElem?_eq_getElem (by first | omega | (simp only [List.length_set, List.length_map, List.length_replicate, List.length_append, List.length_cons, List.length_nil, List.length_reverse, List.length_range]; omega) | (simp; omega))) rfl ?_; refine Sep.rldI hs 0 rfl (fun _ => rfl) haa (List.getElem?_eq_getElem (by first | omega | (simp only [List.length_set, List.length_map, List.length_replicate, List.length_append, List.length_cons, List.length_nil, List.length_reverse, List.length_range]; omega) | (simp; omega))) rfl ?_; (refine Sep.idx hs 1 rfl (by first | omega | (simp only [List.length_set, List.length_map, List.length_replicate, List.length_append, List.length_cons, List.length_nil, List.length_reverse, List.length_range]; omega) | (simp; omega)) (by first | omega | (simp only [List.length_set, List.length_map, List.length_replicate, List.length_append, List.length_cons, List.length_nil, List.length_reverse, List.length_range]; omega) | (simp; omega)) fun aa_1 haa_1 => ?_; try simp only [Int.toNat_natCast] at haa_1); refine Sep.rldI0 hs 1 rfl (fun _ => rfl) haa_1 (List.getElem?_eq_getElem (by first | omega | (simp only [List.length_set, List.length_map, List.length_replicate, List.length_append, List.length_cons, List.length_nil, List.length_reverse, List.length_range]; omega) | (simp; omega))) rfl ?_; refine Sep.rldI hs 1 rfl (fun _ => rfl) haa_1 (List.getElem?_eq_getElem (by first | omega | (simp only [List.length_set, List.length_map, List.length_replicate, List.length_append, List.length_cons, List.length_nil, List.length_reverse, List.length_range]; omega) | (simp; omega))) rfl ?_; simp only [Bool.and_true])
    refine mIf_neg (by simp) ?_
    exact ih h (by omega) hs
theorem clamp_if (t : Int) : (if (4096 : Int) < (if (0 : Int) > t then (0 : Int) else t) then (4096 : Int) else (if (0 : Int) > t then (0 : Int) else t)) = ((clampT t : Nat) : Int) := by
  unfold clampT
  split <;> split <;> omega
/-- the rows' gaps -/
theorem TI.gaps (hI : TI l per) : ∀ x ∈ rowsT now l per, 0 ≤ x.gap ∧ x.gap ≤ 16777216 := by
  intro x hx
  unfold rowsT at hx
  obtain ⟨p, hp, rfl⟩ := List.mem_map.1 hx
  refine hI.per p.1 ?_
  have : keysL l = (absF now l).map (·.1) := (absF_keys now l).symm
  rw [this]
  exact List.mem_map_of_mem hp
theorem putT_mem (t : Tr) (l : List Tr) : ∀ x, x ∈ putT t l ↔ x = t ∨ x ∈ l := by
  intro x
  unfold putT
  rw [List.mem_append, List.mem_cons]
  constructor
  · rintro (h | h | h)
    · exact .inr (List.mem_of_mem_take h)
    · exact .inl h
    · exact .inr (List.mem_of_mem_drop h)
  · rintro (h | h)
    · exact .inr (.inl h)
    · have := List.take_append_drop (cleT t.due l) l
      rw [← this, List.mem_append] at h
      rcases h with h | h
      · exact .inl h
      · exact .inr (.inr h)
theorem putsT_gap (P : Int → Prop) : ∀ (fs acc : List Tr), (∀ x ∈ fs, P x.gap) → (∀ x ∈ acc, P x.gap) → ∀ x ∈ putsT fs acc, P x.gap
  | [], acc, h1, h2, x, hx => h2 x hx
  | f :: fs, acc, h1, h2, x, hx => by
    refine putsT_gap P fs (putT f acc) (fun y hy => h1 y (by simp [hy])) (fun y hy => ?_) x hx
    rcases (putT_mem f acc y).1 hy with h | h
    · rw [h]; exact h1 f (by simp)
    · exact h2 y h
theorem tickT_gap (P : Int → Prop) (t : Int) (l : List Tr) (h : ∀ x ∈ l, P x.gap) : ∀ x ∈ tickT t l, P x.gap := by
  unfold tickT
  refine putsT_gap P _ _ (fun x hx => ?_) (fun x hx => h x ((List.dropWhile_sublist _).mem hx))
  unfold againT at hx
  obtain ⟨y, hy, rfl⟩ := List.mem_map.1 hx
  have hy := (List.mem_filter.1 hy).1
  exact h y ((List.takeWhile_sublist _).mem hy)
theorem tl33 {k m : Int} {n T : Nat} {c : TAct} {ab : Nat} (hT : T = clampT c.ticks) (hT3 : T ≤ 300) (hn : n ≤ 150) (next : NextT h0 tb acts k n m) (hI : TI l per) (hl : l.length ≤ n) (h0n : 0 ≤ now) (hm : now + T ≤ m) (hm2 : m ≤ 10000000) : ∀ (e j : Nat) (r ws : Sl) (h : Hp), j + e = T → Sep h0 h [aBlk ab c.enc, aRow Tr.enc 3 r (tkN j now (rowsT now l per)), aRow encP 2 ws (otN j now (rowsT now l per)), aTm tb l per (keysL l) now] →
    K_signalboxlaw47_TimersPlay_33 (some ⟨tb, 0, none⟩) r (now + (j : Int)) ⟨ab, 0, none⟩ ws acts (acts.n : Int) k (T : Int) (j : Int) h (TFin h0)
  | 0, j, r, ws, h, hj, hs => by
    have hj : j = T := by omega
    subst hj
    apply S_signalboxlaw47_TimersPlay_33
    unfold B_signalboxlaw47_TimersPlay_33
    refine mIf_neg (by simp) ?_
    rw [add_mk]
    refine hs.ldI 0 rfl rfl ?_
    rw [mBind_ap]
    refine (tAdvance_s (t := c.ticks) hI (by omega) (hs.re [3, 0, 1, 2] rfl)).mono ?_
    rintro v h ⟨o, l', rfl, hI', hr', hk', hs⟩
    rw [← hT] at hs hr'
    rw [← hr'] at hs
    have h1 := hs.rowLen 0 rfl
    have h2 := hs.rowLen 4 rfl
    simp only [unL_slice]
    refine mIf_neg (by simp; omega) ?_
    have hlen := otN_len j now (rowsT now l per)
    rw [rowsT_len] at hlen
    have hlen2 : j * l.length ≤ j * 200 := Nat.mul_le_mul_left _ hI.len
    have hl' : l'.length ≤ n := by
      have h3 := congrArg List.length hr'
      rw [rowsT_len] at h3
      have h4 : ∀ (n : Nat) (now : Int) (rs : List Tr), (tkN n now rs).length ≤ rs.length := by
        intro n
        induction n with
        | zero => intro now rs; exact Nat.le_refl _
        | succ n ih => intro now rs; exact Nat.le_trans (ih _ _) (tickT_len _ _).1
      have h5 := h4 j now (rowsT now l per)
      rw [rowsT_len] at h5
      omega
    have hs : Sep h0 h [aRow encP 2 o (otN j now (rowsT now l per)), aRow encP 2 ws (otN j now (rowsT now l per)), aTm tb l' per (keysL l') (now + (j : Int)), aRow Tr.enc 3 r (rowsT (now + (j : Int)) l' per)] := (hs.re [2, 0, 4, 1, 3] rfl).drop
    exact tl43 (by omega) hn next hI' hl' (by omega) hm (by omega) (otN j now (rowsT now l per)).length 0 h (Nat.zero_add _) hs
  | e + 1, j, r, ws, h, hj, hs => by
    have ih := tl33 (ab := ab) hT hT3 hn next hI hl h0n hm hm2 e (j + 1)
    have hrl : (tkN j now (rowsT now l per)).length ≤ 200 := by
      have h4 : ∀ (n : Nat) (now : Int) (rs : List Tr), (tkN n now rs).length ≤ rs.length := by
        intro n
        induction n with
        | zero => intro now rs; exact Nat.le_refl _
        | succ n ih => intro now rs; exact Nat.le_trans (ih _ _) (tickT_len _ _).1
      have h5 := h4 j now (rowsT now l per)
      rw [rowsT_len] at h5
      have := hI.len
      omega
    have hgap : ∀ x ∈ tkN j now (rowsT now l per), 0 ≤ x.gap ∧ x.gap ≤ 16777216 := by
      have h4 : ∀ (n : Nat) (now : Int) (rs : List Tr), (∀ x ∈ rs, 0 ≤ x.gap ∧ x.gap ≤ 16777216) → ∀ x ∈ tkN n now rs, 0 ≤ x.gap ∧ x.gap ≤ 16777216 := by
        intro n
        induction n with
        | zero => intro now rs hh; exact hh
        | succ n ih => intro now rs hh; exact ih _ _ (tickT_gap (fun g => 0 ≤ g ∧ g ≤ 16777216) _ _ hh)
      exact h4 j now _ hI.gaps
    have hlen := otN_len j now (rowsT now l per)
    rw [rowsT_len] at hlen
    have hlen2 : j * l.length ≤ j * 200 := Nat.mul_le_mul_left _ hI.len
    have htk : tkN (j + 1) now (rowsT now l per) = tickT (now + (j : Int) + 1) (tkN j now (rowsT now l per)) := by rw [tkN_add j 1]; rfl
    have hot : otN (j + 1) now (rowsT now l per) = otN j now (rowsT now l per) ++ outT (now + (j : Int) + 1) (tkN j now (rowsT now l per)) := by
      rw [otN_add j 1]
      show _ ++ (outT (now + (j : Int) + 1) _ ++ []) = _
      rw [List.append_nil]
    apply S_signalboxlaw47_TimersPlay_33
    unfold B_signalboxlaw47_TimersPlay_33
    refine mIf_pos (by simp; omega) ?_
    rw [wrap64 (now + (j : Int) + 1) (by omega), wrap64 ((j : Int) + 1) (by omega), mBind_ap]
    refine (tick_s (t := now + (j : Int) + 1) (by omega) (by omega) hgap (hs.re [1, 0, 2, 3] rfl)).mono ?_
    rintro v h ⟨o, u, rfl, hs⟩
    simp only [un2_tuple, unL_slice]
    have hul := hs.rowLen 1 rfl
    have hol := (tickT_len (now + (j : Int) + 1) (tkN j now (rowsT now l per))).2
    obtain ⟨F, hF, _⟩ := hs.holds 1 rfl
    have hcells := aRow_cells (enc := encP) (sz := 2) (fun _ => rfl) hF
    refine hs.app_ 3 _ rfl (fun _ => rfl) hcells hul (by intro v hv; obtain ⟨w, _, hw⟩ := List.mem_flatMap.1 hv; exact encP_one w v hw) rfl (by omega) (by omega) fun ws2 h _ hs => ?_
    simp only [List.set_cons_zero, List.set_cons_succ] at hs
    rw [← hot, ← htk] at hs
    rw [show now + (j : Int) + 1 = now + ((j + 1 : Nat) : Int) by omega, show ((j : Int) + 1) = ((j + 1 : Nat) : Int) by omega]
    exact ih o ws2 h (by omega) (hs.re [1, 2, 0, 3, 4] rfl).drop
theorem tl9 {xs : List TAct} (hl : RdE h0.size h0 TAct.enc 4 acts xs) (ho : ∀ x ∈ xs, x.ok h0) (hn : xs.length ≤ 60) : ∀ (e k : Nat) (r : Sl) (l : DL) (per : Int → Int) (now : Int) (h : Hp), k + e = xs.length → TI l per → l.length ≤ k → 0 ≤ now → now ≤ 300 * k → Sep h0 h [aTm tb l per (keysL l) now, aRow Tr.enc 3 r (rowsT now l per)] →
    K_signalboxlaw47_TimersPlay_9 (some ⟨tb, 0, none⟩) r now acts (acts.n : Int) (k : Int) h (TFin h0)
  | 0, k, r, l, per, now, h, hk, hI, hll, h0n, hnk, hs => by
    have han := hl.n
    apply S_signalboxlaw47_TimersPlay_9
    unfold B_signalboxlaw47_TimersPlay_9
    refine mIf_neg (by simp; omega) ?_
    exact ⟨rfl, hs.under⟩
  | e + 1, k, r, l, per, now, h, hk, hI, hll, h0n, hnk, hs => by
    have ih := tl9 hl ho hn e (k + 1)
    have han := hl.n
    have hkl : k < xs.length := by omega
    have hx := ho xs[k] (List.getElem_mem _)
    have next : NextT h0 tb acts (k : Int) (k + 1) (300 * ((k : Int) + 1)) := by
      intro h r l per now h1 h2 h3 h4 hs
      rw [wrap64 ((k : Int) + 1) (by omega), show ((k : Int) + 1) = ((k + 1 : Nat) : Int) by omega]
      exact ih r l per now h (by omega) h1 h2 h3 (by omega) hs
    have hrl := rowsT_len now l per
    apply S_signalboxlaw47_TimersPlay_9
    unfold B_signalboxlaw47_TimersPlay_9
    refine mIf_pos (by simp; omega) ?_
    (refine Sep.argEn hs hl (by first | omega | (simp only [List.length_set, List.length_map, List.length_replicate, List.length_append, List.length_cons, List.length_nil, List.length_reverse, List.length_range]; omega) | (simp; omega)) fun aa haa => ?_; refine Arg.ldI0 haa rfl ?_; refine Arg.ldI haa rfl ?_; refine Arg.ldI haa rfl ?_; refine Arg.ldI haa rfl ?_; (refine Sep.new hs fun nb h hs => ?_; try simp only [List.toList_toArray] at hs); (refine Sep.st hs 0 rfl rfl rfl fun h hs => ?_; simp only [List.set_cons_zero, List.set_cons_succ] at hs); (refine Sep.st hs 0 rfl rfl rfl fun h hs => ?_; simp only [List.set_cons_zero, List.set_cons_succ] at hs); (refine Sep.st hs 0 rfl rfl rfl fun h hs => ?_; simp only [List.set_cons_zero, List.set_cons_succ] at hs); (refine Sep.st hs 0 rfl rfl rfl fun h hs => ?_; simp only [List.set_cons_zero, List.set_cons_succ] at hs); refine Sep.ldI hs 0 rfl rfl ?_; simp only [add_mk, Nat.zero_add])
    generalize xs[k] = c at *
    obtain ⟨hc1, hc2, hc3, hc4⟩ := hx
    refine ⟨by omega, ?_⟩
    rw [Int.tmod_eq_emod_of_nonneg hc1.1]
    have hs : Sep h0 h [aBlk nb c.enc, aTm tb l per (keysL l) now, aRow Tr.enc 3 r (rowsT now l per)] := hs
    have hfx : (fnk c.id l 0 0 = none ∧ fidT c.id (rowsT now l per) 0 = -1) ∨ ∃ i w, fnk c.id l 0 0 = some (i, w) ∧ fidT c.id (rowsT now l per) 0 = (i : Int) ∧ i < l.length := by
      cases hf : fnk c.id l 0 0 with
      | none => exact .inl ⟨rfl, fid_none l 0 now 0 hf⟩
      | some x =>
        obtain ⟨i, w⟩ := x
        have h1 := fid_some (per := per) l 0 now 0 i w hf
        exact .inr ⟨i, w, rfl, h1.1, by omega⟩
    have hkm : now ≤ 300 * ((k : Int) + 1) := by omega
    have hm2 : 300 * ((k : Int) + 1) ≤ 100000000 := by omega
    refine mIf_intro (fun hc => ?_) (fun hc => ?_)
    · -- starting
      refine hs.ldI 0 rfl rfl ?_
      obtain ⟨hI', hl'⟩ := hI.start (id := c.id) (t := c.ticks) (g := c.gap) hc2 (by omega)
      have same : stC l c.id c.ticks c.gap ≠ 0 → (stL l c.id c.ticks c.gap = l ∧ stP per l c.id c.ticks c.gap = per) := by
        intro hne
        unfold stL stP
        rw [if_neg hne, if_neg hne]
        exact ⟨rfl, rfl⟩
      have bad : ∀ want, want = stC l c.id c.ticks c.gap → want ≠ 0 → (mLdI .i64 ⟨nb, 1, none⟩ fun (x75 : Int) =>
          mLdI .i64 ⟨nb, 2, none⟩ fun (x77 : Int) =>
          mLdI .i64 ⟨nb, 3, none⟩ fun (x79 : Int) =>
          mBind (N_timers_Timers_Start (some ⟨tb, 0, none⟩) x75 x77 x79) fun r80 =>
          unI .i64 r80 fun (x80 : Int) =>
          mIf (x80 != want) (
            mRet (.bool false)) (
            K_signalboxlaw47_TimersPlay_48 (some ⟨tb, 0, none⟩) r now acts (acts.n : Int) k) : M Value) h (TFin h0) := by
        intro want hw hne
        refine hs.ldI 0 rfl rfl ?_
        refine hs.ldI 0 rfl rfl ?_
        refine hs.ldI 0 rfl rfl ?_
        rw [mBind_ap]
        refine (Start_t (id := c.id) (t := c.ticks) (g := c.gap) hI hs.drop).mono ?_
        rintro v h ⟨rfl, hs⟩
        obtain ⟨s1, s2⟩ := same (by rw [← hw]; exact hne)
        rw [s1, s2] at hs
        simp only [unI_int]
        refine mIf_neg (by rw [hw]; simp) ?_
        exact tl48 (by omega) next hI (by omega) h0n hkm hm2 hs
      have go : ∀ b20 : Bool, b20 = decide ((c.ticks < 1 ∨ c.gap < 0 ∨ c.gap > 16777216) ∨ c.ticks > 16777216) → (mIf b20 (
        mLdI .i64 ⟨nb, 1, none⟩ fun (x75 : Int) =>
        mLdI .i64 ⟨nb, 2, none⟩ fun (x77 : Int) =>
        mLdI .i64 ⟨nb, 3, none⟩ fun (x79 : Int) =>
        mBind (N_timers_Timers_Start (some ⟨tb, 0, none⟩) x75 x77 x79) fun r80 =>
        unI .i64 r80 fun (x80 : Int) =>
        mIf (x80 != (5 : Int)) (
          mRet (.bool false)) (
          K_signalboxlaw47_TimersPlay_48 (some ⟨tb, 0, none⟩) r now acts (acts.n : Int) k)) (
        mLdI .i64 ⟨nb, 1, none⟩ fun (x70 : Int) =>
        mBind (N_signalboxlaw47_place r x70) fun r71 =>
        unI .i64 r71 fun (x71 : Int) =>
        mIf (decide (x71 ≥ (0 : Int))) (
          mLdI .i64 ⟨nb, 1, none⟩ fun (x75_32 : Int) =>
          mLdI .i64 ⟨nb, 2, none⟩ fun (x77_34 : Int) =>
          mLdI .i64 ⟨nb, 3, none⟩ fun (x79_36 : Int) =>
          mBind (N_timers_Timers_Start (some ⟨tb, 0, none⟩) x75_32 x77_34 x79_36) fun r80_37 =>
          unI .i64 r80_37 fun (x80_37 : Int) =>
          mIf (x80_37 != (10 : Int)) (
            mRet (.bool false)) (
            K_signalboxlaw47_TimersPlay_48 (some ⟨tb, 0, none⟩) r now acts (acts.n : Int) k)) (
          mLdI .i64 ⟨nb, 1, none⟩ fun (x39 : Int) =>
          mLdI .i64 ⟨nb, 2, none⟩ fun (x42 : Int) =>
          mLdI .i64 ⟨nb, 3, none⟩ fun (x45 : Int) =>
          mBind (N_signalboxlaw47_put r x39 (IntKind.i64.wrap (now + x42)) x45) fun r47 =>
          unL r47 fun (x47 : Sl) =>
          mLdI .i64 ⟨nb, 1, none⟩ fun (x75_46 : Int) =>
          mLdI .i64 ⟨nb, 2, none⟩ fun (x77_48 : Int) =>
          mLdI .i64 ⟨nb, 3, none⟩ fun (x79_50 : Int) =>
          mBind (N_timers_Timers_Start (some ⟨tb, 0, none⟩) x75_46 x77_48 x79_50) fun r80_51 =>
          unI .i64 r80_51 fun (x80_51 : Int) =>
          mIf (x80_51 != (0 : Int)) (
            mRet (.bool false)) (
            K_signalboxlaw47_TimersPlay_48 (some ⟨tb, 0, none⟩) x47 now acts (acts.n : Int) k))) : M Value) h (TFin h0) := by
        intro b20 hb
        refine mIf_intro (fun hb1 => ?_) (fun hb1 => ?_)
        · rw [hb1] at hb
          have hb := of_decide_eq_true hb.symm
          refine bad 5 ?_ (by omega)
          unfold stC putC
          by_cases h1 : c.ticks < 1 ∨ c.gap < 0 ∨ c.gap > 16777216
          · rw [if_pos h1]
          · rw [if_neg h1, if_pos (by rcases hb with h | h; exact absurd h h1; exact .inr h)]
        · rw [hb1] at hb
          have hb := of_decide_eq_false hb.symm
          have hb1 : ¬ (c.ticks < 1 ∨ c.gap < 0 ∨ c.gap > 16777216) := fun h => hb (.inl h)
          have hb2 : ¬ (c.ticks < 0 ∨ c.ticks > 16777216) := by omega
          refine hs.ldI 0 rfl rfl ?_
          rw [mBind_ap]
          rcases hfx with ⟨hf, hi⟩ | ⟨i, w, hf, hi, hil⟩
          · have hst : stC l c.id c.ticks c.gap = 0 := by
              unfold stC putC
              rw [if_neg hb1, if_neg hb2, hf]; rfl
            refine (place_s (id := c.id) (by omega) (hs.re [2, 0, 1] rfl)).mono ?_
            rintro v h ⟨rfl, hs⟩
            simp only [unI_int]
            rw [hi]
            refine mIf_neg rfl ?_
            have hs : Sep h0 h [aBlk nb c.enc, aRow Tr.enc 3 r (rowsT now l per), aTm tb l per (keysL l) now] := hs.re [1, 0, 2] rfl
            refine hs.ldI 0 rfl rfl ?_
            refine hs.ldI 0 rfl rfl ?_
            refine hs.ldI 0 rfl rfl ?_
            rw [wrap64 (now + c.ticks) (by omega), mBind_ap]
            refine (tput_s (t := ⟨c.id, now + c.ticks, c.gap⟩) (by omega) (hs.re [1, 0, 2] rfl)).mono ?_
            rintro v h ⟨o, rfl, hs⟩
            simp only [unL_slice]
            have hs : Sep h0 h [aBlk nb c.enc, aTm tb l per (keysL l) now, aRow Tr.enc 3 o (putT ⟨c.id, now + c.ticks, c.gap⟩ (rowsT now l per))] := hs.re [1, 2, 0] rfl
            refine hs.ldI 0 rfl rfl ?_
            refine hs.ldI 0 rfl rfl ?_
            refine hs.ldI 0 rfl rfl ?_
            rw [mBind_ap]
            refine (Start_t (id := c.id) (t := c.ticks) (g := c.gap) hI hs.drop).mono ?_
            rintro v h ⟨rfl, hs⟩
            simp only [unI_int]
            refine mIf_neg (by rw [hst]; rfl) ?_
            have hni := (fnk_none l 0 0).1 hf
            have e1 : stL l c.id c.ticks c.gap = ins c.id l c.ticks := by unfold stL; rw [if_pos hst]
            have e2 : stP per l c.id c.ticks c.gap = updP per c.id c.gap := by unfold stP; rw [if_pos hst]
            have e3 : putT ⟨c.id, now + c.ticks, c.gap⟩ (rowsT now l per) = rowsT now (stL l c.id c.ticks c.gap) (stP per l c.id c.ticks c.gap) := by
              rw [e1, e2, rows_ins]
              have e4 : updP per c.id c.gap c.id = c.gap := by unfold updP; rw [if_pos rfl]
              rw [e4]
              congr 1
              refine rowsT_congr l now fun k hk => ?_
              unfold updP
              rw [if_neg (fun h => hni (by rw [← h]; exact hk))]
            rw [e3] at hs
            exact tl48 (by omega) next hI' (by omega) h0n hkm hm2 hs
          · have hst : stC l c.id c.ticks c.gap = 10 := by
              unfold stC putC
              rw [if_neg hb1, if_neg hb2, hf]; rfl
            refine (place_s (id := c.id) (by omega) (hs.re [2, 0, 1] rfl)).mono ?_
            rintro v h ⟨rfl, hs⟩
            simp only [unI_int]
            rw [hi]
            refine mIf_pos (by simp) ?_
            have hs : Sep h0 h [aBlk nb c.enc, aTm tb l per (keysL l) now, aRow Tr.enc 3 r (rowsT now l per)] := hs.re [1, 2, 0] rfl
            refine hs.ldI 0 rfl rfl ?_
            refine hs.ldI 0 rfl rfl ?_
            refine hs.ldI 0 rfl rfl ?_
            rw [mBind_ap]
            refine (Start_t (id := c.id) (t := c.ticks) (g := c.gap) hI hs.drop).mono ?_
            rintro v h ⟨rfl, hs⟩
            obtain ⟨s1, s2⟩ := same (by rw [hst]; omega)
            rw [s1, s2] at hs
            simp only [unI_int]
            refine mIf_neg (by rw [hst]; rfl) ?_
            exact tl48 (by omega) next hI (by omega) h0n hkm hm2 hs
      rw [mBind_ap]
      refine mIf_dec (fun h1 => ?_) (fun h1 => ?_)
      · rw [mRet_ap, mBind_ap]
        refine mIf_pos rfl ?_
        rw [mRet_ap, mBind_ap]
        refine mIf_pos rfl ?_
        rw [mRet_ap]
        exact go true (decide_eq_true (.inl (.inl h1))).symm
      · refine hs.ldI 0 rfl rfl ?_
        rw [mRet_ap, mBind_ap]
        refine mIf_dec (fun h2 => ?_) (fun h2 => ?_)
        · rw [mRet_ap, mBind_ap]
          refine mIf_pos rfl ?_
          rw [mRet_ap]
          exact go true (decide_eq_true (.inr h2)).symm
        · refine hs.ldI 0 rfl rfl ?_
          rw [mRet_ap, mBind_ap]
          refine mIf_dec (fun h3 => ?_) (fun h3 => ?_)
          · rw [mRet_ap]
            exact go true (decide_eq_true (.inl (.inr (.inl h3)))).symm
          · refine hs.ldI 0 rfl rfl ?_
            rw [mRet_ap]
            exact go _ (decide_eq_decide.2 (by omega))
    · refine mIf_intro (fun hc4 => ?_) (fun hc4 => ?_)
      · -- stopping
        refine hs.ldI 0 rfl rfl ?_
        rw [mBind_ap]
        refine (place_s (id := c.id) (by omega) (hs.re [2, 0, 1] rfl)).mono ?_
        rintro v h ⟨rfl, hs⟩
        simp only [unI_int]
        have hs : Sep h0 h [aBlk nb c.enc, aTm tb l per (keysL l) now, aRow Tr.enc 3 r (rowsT now l per)] := hs.re [1, 2, 0] rfl
        refine hs.ldI 0 rfl rfl ?_
        rw [mBind_ap]
        refine (Stop_s (id := c.id) hI hs.drop).mono ?_
        rintro v h ⟨rfl, hs⟩
        simp only [unB_bool]
        rcases hfx with ⟨hf, hi⟩ | ⟨i, w, hf, hi, hil⟩
        · have hdl : dropL l c.id = l := by unfold dropL; rw [hf]
          rw [hi, hf]
          rw [hdl] at hs
          refine mIf_neg rfl ?_
          refine mIf_neg rfl ?_
          exact tl48 (by omega) next hI (by omega) h0n hkm hm2 hs
        · have hdl : dropL l c.id = cutL l i := by unfold dropL; rw [hf]
          rw [hi, hf]
          rw [hdl] at hs
          refine mIf_neg (by simp) ?_
          refine mIf_pos (by simp) ?_
          have hrn := hs.rowLen 1 rfl
          have hrc := hs.rowCap 1 rfl
          rw [hrl] at hrn
          rw [wrap64 ((i : Int) + 1) (by omega)]
          refine vslc (sz := 3) (by omega) (by omega) (by omega) (by omega) fun x8 hv1 hn1 _ => ?_
          refine vslc (sz := 3) (by omega) (by omega) (by omega) (by omega) fun x13 hv2 hn2 _ => ?_
          rw [show (0 : Int).toNat = 0 from rfl] at hv1 hn1
          rw [show ((i : Int) + 1).toNat = i + 1 by omega] at hv2 hn2
          rw [Int.toNat_natCast] at hn1
          rw [hrn, Int.toNat_natCast] at hn2
          refine Sep.new (cells := #[]) hs fun nb h hs => ?_
          have hs := Blk.row (enc := Tr.enc) (xs := ([] : List Tr)) (sz := 3) (n := 0) hs 0 rfl rfl rfl
          simp only [List.set_cons_zero] at hs
          refine app_viewT hs 0 2 rfl rfl hv1 hn1 (by omega) (by simp; omega) fun s1 h hs => ?_
          simp only [List.set_cons_zero, List.set_cons_succ] at hs
          refine app_viewT hs 0 2 rfl rfl hv2 hn2 (by omega) (by simp; omega) fun s2 h hs => ?_
          simp only [List.set_cons_zero, List.set_cons_succ] at hs
          have e : ([] : List Tr) ++ ((rowsT now l per).drop 0).take (i - 0) ++ ((rowsT now l per).drop (i + 1)).take (l.length - (i + 1)) = rowsT now (cutL l i) per := by
            have e3 : ((rowsT now l per).drop (i + 1)).take (l.length - (i + 1)) = (rowsT now l per).drop (i + 1) := List.take_of_length_le (by rw [List.length_drop]; omega)
            rw [e3, List.nil_append, List.drop_zero, Nat.sub_zero, rows_cut, List.eraseIdx_eq_take_drop_succ]
          rw [e] at hs
          have hck := cut_keys l i
          have hcl := cutL_len l i hil
          have hsub : ∀ k ∈ keysL (cutL l i), k ∈ keysL l := by
            intro k hk
            have hk : k ∈ (cutL l i).map (·.1) := hk
            rw [hck] at hk
            exact List.mem_of_mem_eraseIdx hk
          have hI2 : TI (cutL l i) per := by
            refine ⟨(cut_ok l i hI.ok).1, ?_, fun k hk => hI.w k (hsub k hk), cut_hd l i hI.hd hI.ok.gap, by have := hI.len; omega, fun k hk => hI.per k (hsub k hk)⟩
            show ((cutL l i).map (·.1)).Nodup
            rw [hck]
            exact hI.nd.sublist (List.eraseIdx_sublist _ _)
          have hs : Sep h0 h [aTm tb (cutL l i) per (keysL (cutL l i)) now, aRow Tr.enc 3 s2 (rowsT now (cutL l i) per)] := (hs.re [2, 1, 0] rfl).drop
          exact tl48 (by omega) next hI2 (by omega) h0n hkm hm2 hs
      · refine mIf_intro (fun hc5 => ?_) (fun hc5 => ?_)
        · refine hs.ldI 0 rfl rfl ?_
          rw [clamp_if]
          refine mIf_dec (fun hc6 => ⟨rfl, hs.under⟩) (fun hc6 => ?_)
          have hs : Sep h0 h [aBlk nb c.enc, aRow Tr.enc 3 r (tkN 0 now (rowsT now l per)), aRow encP 2 ⟨none, 0, 0⟩ (otN 0 now (rowsT now l per)), aTm tb l per (keysL l) now] := (hs.nilRow encP 2).re [1, 3, 0, 2] rfl
          have := tl33 (T := clampT c.ticks) rfl (by omega) (by omega) next hI (by omega) h0n (by omega) (by omega) (clampT c.ticks) 0 r ⟨none, 0, 0⟩ h (Nat.zero_add _) hs
          rw [show now + ((0 : Nat) : Int) = now by omega] at this
          exact this
        · exact tl48 (by omega) next hI (by omega) h0n hkm hm2 hs.drop
theorem TimersPlay_ok {xs : List TAct} (hl : RdE h0.size h0 TAct.enc 4 acts xs) (ho : ∀ x ∈ xs, x.ok h0) : N_signalboxlaw47_TimersPlay acts h0 (TFin h0) := by
  have han := hl.n
  apply S_signalboxlaw47_TimersPlay
  unfold B_signalboxlaw47_TimersPlay
  rw [mBind_ap]
  refine (tfixed_s (Sep.init h0)).mono ?_
  rintro v h ⟨rfl, hs⟩
  simp only [unB_bool]
  refine mIf_neg rfl ?_
  refine mIf_dec (fun hc => ⟨rfl, hs.under⟩) (fun hc => ?_)
  rw [mBind_ap]
  refine (tNew_s hs).mono ?_
  rintro v h ⟨x, rfl, hs⟩
  have hs := hs (fun _ => 0)
  simp only [unP_pointer]
  exact tl9 hl ho (by omega) xs.length 0 _ [] _ 0 h (Nat.zero_add _) ⟨⟨by simp, by simp [dsum]⟩, by simp, by simp, trivial, by simp, by simp⟩ (by simp) (by omega) (by omega) (hs.nilRow Tr.enc 3).swap
end
end Go.Proofs.Ytinjifhjjkdmoaa
