/- Timers: TimersParts. Conditions: none. -/
import Derived.Test.YtinjifhjjkdmoaaTimQ
import Derived.Test.YtinjifhjjkdmoaaTimA
import Derived.Test.YtinjifhjjkdmoaaSbW
namespace Go.Proofs.Ytinjifhjjkdmoaa
open Go Go.Sb
set_option linter.unusedSimpArgs false
set_option linter.unusedVariables false
abbrev TFin (h0 : Hp) : Value → Hp → Prop := fun v h' => v = .bool true ∧ Under h0.size h0 h'
section
variable {h0 h : Hp} {R X : List As} {tb : Nat} {l : DL} {per : Int → Int} {S : List Int} {now : Int}
def stL (l : DL) (id t g : Int) : DL := if stC l id t g = 0 then ins id l t else l
def stP (per : Int → Int) (l : DL) (id t g : Int) : Int → Int := if stC l id t g = 0 then updP per id g else per
theorem Start_t {id t g : Int} (hI : TI l per) (hs : Sep h0 h (aTm tb l per (keysL l) now :: R)) : N_timers_Timers_Start (some ⟨tb, 0, none⟩) id t g h (fun v h' => v = .int .i64 (stC l id t g) ∧
    Sep h0 h' (aTm tb (stL l id t g) (stP per l id t g) (keysL (stL l id t g)) now :: R)) := by
  refine (Start_s hI hs).mono ?_
  rintro v h' ⟨rfl, hs⟩
  refine ⟨rfl, ?_⟩
  unfold stL stP
  by_cases hc : stC l id t g = 0
  · rw [if_pos hc] at hs ⊢
    rw [if_pos hc]
    exact hs
  · rw [if_neg hc] at hs ⊢
    rw [if_neg hc]
    exact hs
theorem TI.start {id t g : Int} (hI : TI l per) (hid : -9223372036854775808 ≤ id ∧ id ≤ 9223372036854775807) (hl : l.length ≤ 199) : TI (stL l id t g) (stP per l id t g) ∧ (stL l id t g).length ≤ l.length + 1 := by
  unfold stL stP
  by_cases hc : stC l id t g = 0
  · rw [if_pos hc, if_pos hc]
    unfold stC at hc
    by_cases h1 : t < 1 ∨ g < 0 ∨ g > 16777216
    · rw [if_pos h1] at hc; omega
    rw [if_neg h1] at hc
    unfold putC at hc
    by_cases h2 : t < 0 ∨ t > 16777216
    · rw [if_pos h2] at hc; omega
    rw [if_neg h2] at hc
    have hf : fnk id l 0 0 = none := by
      cases hf : fnk id l 0 0 with
      | none => rfl
      | some x => rw [hf] at hc; simp at hc
    have hni := (fnk_none l 0 0).1 hf
    have hk := ins_keys id l t
    refine ⟨⟨(ins_ok l t hI.ok (by omega) (by omega)).1, hk.nodup_iff.2 (List.nodup_cons.2 ⟨hni, hI.nd⟩), fun k hkm => ?_, ins_hd id l t hI.hd (by omega), by rw [ins_len]; omega, fun k hkm => ?_⟩, by rw [ins_len]; omega⟩
    · rcases List.mem_cons.1 (hk.mem_iff.1 hkm) with h | h
      · rw [h]; exact hid
      · exact hI.w k h
    · unfold updP
      by_cases hki : k = id
      · rw [if_pos hki]; omega
      · rw [if_neg hki]
        rcases List.mem_cons.1 (hk.mem_iff.1 hkm) with h | h
        · exact absurd h hki
        · exact hI.per k h
  · rw [if_neg hc, if_neg hc]
    exact ⟨hI, by omega⟩
theorem Now_s (hs : Sep h0 h (aTm tb l per S now :: R)) : N_timers_Timers_Now (some ⟨tb, 0, none⟩) h (fun v h' => v = .int .i64 now ∧ h' = h) := by
  obtain ⟨d, g, n, hs⟩ := aTm_iff.1 hs
  apply S_timers_Timers_Now
  unfold B_timers_Timers_Now
  (simp only [Option.isNone_some, mNil_some, add_mk, Nat.zero_add, mIf_false]; refine Sep.ldI hs 0 rfl rfl ?_)
  exact ⟨rfl, rfl⟩
theorem Left_s {id : Int} (hI : TI l per) (hs : Sep h0 h (aTm tb l per S now :: R)) : N_timers_Timers_Left (some ⟨tb, 0, none⟩) id h (fun v h' => v = dueV (fnk id l 0 0) ∧ h' = h) := by
  obtain ⟨d, g, n, hs⟩ := aTm_iff.1 hs
  apply S_timers_Timers_Left
  unfold B_timers_Timers_Left
  (simp only [Option.isNone_some, mNil_some, mIf_false]; refine Sep.ldP hs 0 rfl rfl ?_; simp only [mBind_ap])
  refine (Due_s (key := id) hI.ok (hs.reT 3 [1, 0, 2] rfl (by simp))).mono ?_
  rintro v h' ⟨rfl, rfl⟩
  unfold dueV
  simp only [un2_tuple, unI_int, unB_bool]
  exact ⟨rfl, rfl⟩
theorem Running_s (hI : TI l per) (hs : Sep h0 h (aTm tb l per S now :: R)) : N_timers_Timers_Running (some ⟨tb, 0, none⟩) h (fun v h' => ∃ o : Sl, v = .slice o.p o.n o.c ∧ Sep h0 h' (aRow encI 1 o (keysL l) :: aTm tb l per S now :: R)) := by
  obtain ⟨d, g, n, hs⟩ := aTm_iff.1 hs
  apply S_timers_Timers_Running
  unfold B_timers_Timers_Running
  (simp only [Option.isNone_some, mNil_some, mIf_false]; refine Sep.ldP hs 0 rfl rfl ?_; simp only [mBind_ap])
  refine (Keys_s (by have := hI.len; omega) (hs.reT 3 [1, 0, 2] rfl (by simp))).mono ?_
  rintro v h' ⟨o, rfl, hs⟩
  simp only [unL_slice]
  refine ⟨o, rfl, (aTm_iff.2 ⟨d, g, n, hs.reT 4 [2, 1, 3, 0] rfl (by simp)⟩).swap⟩
theorem rowsT_one {s k d g : Int} (h : rowsT s l per = [⟨k, d, g⟩]) : l = [(k, d - s)] := by
  cases l with
  | nil => simp [rowsT, absF] at h
  | cons p q =>
    obtain ⟨pk, pg⟩ := p
    have hl := congrArg List.length h
    rw [rowsT_len] at hl
    have hq : q = [] := List.length_eq_zero_iff.1 (by simpa using hl)
    subst hq
    simp only [rowsT, absF, List.map_cons, List.map_nil, List.cons.injEq, Tr.mk.injEq, and_true] at h
    obtain ⟨rfl, h2, h3⟩ := h
    rw [← h2]
    congr 2
    omega
theorem tfixed_s (hs : Sep h0 h R) : N_signalboxlaw47_fixed h (fun v h' => v = .bool true ∧ Sep h0 h' R) := by
  have i0 : TI [] (fun _ => 0) := ⟨⟨by simp, by simp [dsum]⟩, by simp, by simp, trivial, by simp, by simp⟩
  have c1 : stC [] 7 2 3 = 0 := by decide
  have l1 : stL [] 7 2 3 = [(7, 2)] := by decide
  have i1 := (i0.start (id := 7) (t := 2) (g := 3) (by omega) (by simp)).1
  rw [l1] at i1
  generalize hp1 : stP (fun _ => 0) [] 7 2 3 = p1 at *
  have hp7 : p1 7 = 3 := by rw [← hp1]; rfl
  have r1 : rowsT 0 [(7, 2)] p1 = [⟨7, 2, 3⟩] := by simp [rowsT, absF, hp7]
  have hot : otN 6 0 [⟨7, 2, 3⟩] = [(7, 2), (7, 5)] := by decide
  have htk : tkN 6 0 [⟨7, 2, 3⟩] = [⟨7, 8, 3⟩] := by rfl
  have c2 : stC [(7, 2)] 7 1 0 = 10 := by decide
  have c3 : stC [] 8 0 0 = 5 := by decide
  apply S_signalboxlaw47_fixed
  unfold B_signalboxlaw47_fixed
  rw [mBind_ap]
  refine (tNew_s hs).mono ?_
  rintro v h ⟨tb, rfl, hs⟩
  have hs := hs (fun _ => 0)
  simp only [unP_pointer]
  rw [mBind_ap]
  refine (Start_t (id := 7) (t := 2) (g := 3) i0 hs).mono ?_
  rintro v h ⟨rfl, hs⟩
  rw [c1]
  rw [l1, hp1] at hs
  simp only [unI_int]
  rw [mBind_ap]
  refine (tAdvance_s (t := 6) i1 (by omega) hs).mono ?_
  rintro v h ⟨o, l2, rfl, i2, hr2, hk2, hs⟩
  rw [show clampT 6 = 6 by decide, r1] at hs hr2
  rw [htk] at hr2
  rw [hot] at hs
  have hl2 : l2 = [(7, 2)] := by
    have := rowsT_one hr2
    simpa using this
  subst hl2
  have hon := hs.rowLen 0 rfl
  simp only [unL_slice]
  rw [mBind_ap]
  refine (Left_s (id := 7) i2 hs.drop).mono ?_
  rintro v h' ⟨rfl, rfl⟩
  rw [show dueV (fnk 7 [(7, 2)] 0 0) = .tuple #[.int .i64 2, .bool true] from rfl]
  simp only [un2_tuple, unI_int, unB_bool]
  rw [mBind_ap]
  refine mIf_pos (by rw [hon]; rfl) ?_
  ((refine Sep.idx hs 0 rfl (by first | omega | (simp only [List.length_set, List.length_map, List.length_replicate, List.length_append, List.length_cons, List.length_nil, List.length_reverse, List.length_range]; omega) | (simp; omega)) (by first | omega | (simp only [List.length_set, List.length_map, List.length_replicate, List.length_append, List.length_cons, List.length_nil, List.length_reverse, List.length_range]; omega) | (simp; omega)) fun aa haa => ?_; try simp only [Int.toNat_natCast] at haa); refine Sep.rldI0 hs 0 rfl (fun _ => rfl) haa (List.getElem?_eq_getElem (by first | omega | (simp only [List.length_set, List.length_map, List.length_replicate, List.length_append, List.length_cons, List.length_nil, List.length_reverse, List.length_range]; omega) | (simp; omega))) rfl ?_; refine Sep.rldI hs 0 rfl (fun _ => rfl) haa (List.getElem?_eq_getElem (by first | omega | (simp only [List.length_set, List.length_map, List.length_replicate, List.length_append, List.length_cons, List.length_nil, List.length_reverse, List.length_range]; omega) | (simp; omega))) rfl ?_; rw [mRet_ap]; simp only [Bool.and_true, mBind_ap])
  refine mIf_pos rfl ?_
  ((refine Sep.idx hs 0 rfl (by first | omega | (simp only [List.length_set, List.length_map, List.length_replicate, List.length_append, List.length_cons, List.length_nil, List.length_reverse, List.length_range]; omega) | (simp; omega)) (by first | omega | (simp only [List.length_set, List.length_map, List.length_replicate, List.length_append, List.length_cons, List.length_nil, List.length_reverse, List.length_range]; omega) | (simp; omega)) fun aa_1 haa_1 => ?_; try simp only [Int.toNat_natCast] at haa_1); refine Sep.rldI0 hs 0 rfl (fun _ => rfl) haa_1 (List.getElem?_eq_getElem (by first | omega | (simp only [List.length_set, List.length_map, List.length_replicate, List.length_append, List.length_cons, List.length_nil, List.length_reverse, List.length_range]; omega) | (simp; omega))) rfl ?_; refine Sep.rldI hs 0 rfl (fun _ => rfl) haa_1 (List.getElem?_eq_getElem (by first | omega | (simp only [List.length_set, List.length_map, List.length_replicate, List.length_append, List.length_cons, List.length_nil, List.length_reverse, List.length_range]; omega) | (simp; omega))) rfl ?_; rw [mRet_ap])
  refine mIf_pos rfl ?_
  have hs := hs.drop
  rw [mBind_ap]
  refine (Now_s hs).mono ?_
  rintro v h' ⟨rfl, rfl⟩
  simp only [unI_int]
  rw [mRet_ap]
  refine mIf_pos (by simp) ?_
  rw [mBind_ap]
  refine (Start_t (id := 7) (t := 1) (g := 0) i2 hs).mono ?_
  rintro v h ⟨rfl, hs⟩
  have e1 : stL [(7, 2)] 7 1 0 = [(7, 2)] := by unfold stL; rw [if_neg (by rw [c2]; omega)]
  have e2 : stP p1 [(7, 2)] 7 1 0 = p1 := by unfold stP; rw [if_neg (by rw [c2]; omega)]
  rw [e1, e2] at hs
  rw [c2]
  simp only [unI_int]
  rw [mRet_ap]
  refine mIf_pos rfl ?_
  rw [mBind_ap]
  refine (Stop_s (id := 7) i2 hs).mono ?_
  rintro v h ⟨rfl, hs⟩
  rw [show dropL [(7, 2)] 7 = [] from rfl] at hs
  simp only [unB_bool]
  rw [mRet_ap]
  refine mIf_pos rfl ?_
  have i3 : TI [] p1 := ⟨⟨by simp, by simp [dsum]⟩, by simp, by simp, trivial, by simp, by simp⟩
  rw [mBind_ap]
  refine (Stop_s (id := 7) i3 hs).mono ?_
  rintro v h ⟨rfl, hs⟩
  rw [show dropL [] 7 = [] from rfl] at hs
  simp only [unB_bool]
  rw [mRet_ap]
  refine mIf_pos rfl ?_
  rw [mBind_ap]
  refine (Start_t (id := 8) (t := 0) (g := 0) i3 hs).mono ?_
  rintro v h ⟨rfl, hs⟩
  rw [c3]
  simp only [unI_int]
  exact ⟨rfl, hs.drop⟩
/-! the law TimersParts -/
theorem tp17 {x y : Sl} {ps : List (Int × Int)} (hn : ps.length ≤ 10000000) : ∀ (e k : Nat) (h : Hp), k + e = ps.length → Sep h0 h (aRow encP 2 x ps :: aRow encP 2 y ps :: R) →
    K_signalboxlaw47_TimersParts_17 x y (x.n : Int) (k : Int) h (TFin h0)
  | 0, k, h, hk, hs => by
    have hxn := hs.rowLen 0 rfl
    apply S_signalboxlaw47_TimersParts_17
    unfold B_signalboxlaw47_TimersParts_17
    refine mIf_neg (by simp; omega) ?_
    rw [mBind_ap]
    apply S_timers_Timers_Start
    unfold B_timers_Timers_Start
    refine mIf_pos rfl ?_
    rw [mRet_ap]
    simp only [unI_int]
    rw [mBind_ap]
    refine mIf_pos rfl ?_
    rw [mBind_ap]
    apply S_timers_Timers_Stop
    unfold B_timers_Timers_Stop
    rw [mBind_ap]
    refine mIf_pos rfl ?_
    rw [mRet_ap]
    refine mIf_pos rfl ?_
    rw [mRet_ap]
    simp only [unB_bool]
    rw [mRet_ap, mBind_ap]
    refine mIf_pos rfl ?_
    rw [mBind_ap]
    apply S_timers_Timers_Now
    unfold B_timers_Timers_Now
    refine mIf_pos rfl ?_
    rw [mRet_ap]
    simp only [unI_int]
    rw [mBind_ap]
    apply S_timers_Timers_Advance
    unfold B_timers_Timers_Advance
    refine mIf_pos rfl ?_
    rw [mRet_ap]
    simp only [unL_slice]
    rw [mBind_ap]
    apply S_timers_Timers_Running
    unfold B_timers_Timers_Running
    refine mIf_pos rfl ?_
    rw [mRet_ap]
    simp only [unL_slice]
    exact ⟨rfl, hs.under⟩
  | e + 1, k, h, hk, hs => by
    have ih := tp17 (x := x) (y := y) hn e (k + 1)
    have hxn := hs.rowLen 0 rfl
    have hkl : k < ps.length := by omega
    apply S_signalboxlaw47_TimersParts_17
    unfold B_signalboxlaw47_TimersParts_17
    refine mIf_pos (by simp; omega) ?_
    ((refine Sep.idx hs 0 rfl (by first | omega | (simp only [List.length_set, List.length_map, List.length_replicate, List.length_append, List.length_cons, List.length_nil, List.length_reverse, List.length_range]; omega) | (simp; omega)) (by first | omega | (simp only [List.length_set, List.length_map, List.length_replicate, List.length_append, List.length_cons, List.length_nil, List.length_reverse, List.length_range]; omega) | (simp; omega)) fun aa haa => ?_; try simp only [Int.toNat_natCast] at haa); refine Sep.rldI0 hs 0 rfl (fun _ => rfl) haa (List.getElem?_eq_getElem (by first | omega | (simp only [List.length_set, List.length_map, List.length_replicate, List.length_append, List.length_cons, List.length_nil, List.length_reverse, List.length_range]; omega) | (simp; omega))) rfl ?_; refine Sep.rldI hs 0 rfl (fun _ => rfl) haa (List.getElem?_eq_getElem (by first | omega | (simp only [List.length_set, List.length_map, List.length_replicate, List.length_append, List.length_cons, List.length_nil, List.length_reverse, List.length_range]; omega) | (simp; omega))) rfl ?_; (refine Sep.idx hs 1 rfl (by first | omega | (simp only [List.length_set, List.length_map, List.length_replicate, List.length_append, List.length_cons, List.length_nil, List.length_reverse, List.length_range]; omega) | (simp; omega)) (by first | omega | (simp only [List.length_set, List.length_map, List.length_replicate, List.length_append, List.length_cons, List.length_nil, List.length_reverse, List.length_range]; omega) | (simp; omega)) fun aa_1 haa_1 => ?_; try simp only [Int.toNat_natCast] at haa_1); refine Sep.rldI0 hs 1 rfl (fun _ => rfl) haa_1 (List.getElem?_eq_getElem (by first | omega | (simp only [List.length_set, List.length_map, List.length_replicate, List.length_append, List.length_cons, List.length_nil, List.length_reverse, List.length_range]; omega) | (simp; omega))) rfl ?_; refine Sep.rldI hs 1 rfl (fun _ => rfl) haa_1 (List.getElem?_eq_getElem (by first | omega | (simp only [List.length_set, List.length_map, List.length_replicate, List.length_append, List.length_cons, List.length_nil, List.length_reverse, List.length_range]; omega) | (simp; omega))) rfl ?_; simp only [Bool.and_true])
    refine mIf_neg (by simp) ?_
    rw [wrap64 ((k : Int) + 1) (by omega), show ((k : Int) + 1) = ((k + 1 : Nat) : Int) by omega]
    exact ih h (by omega) hs
theorem tp7 {acts : Sl} {xs : List TAct} {a b : Int} (hl : RdE h0.size h0 TAct.enc 4 acts xs) (ho : ∀ x ∈ xs, x.ok h0) (hn : xs.length ≤ 40) (ha : 0 ≤ a ∧ a ≤ 255) (hb : 0 ≤ b ∧ b ≤ 255) {x y : Nat} : ∀ (e k : Nat) (l : DL) (per : Int → Int) (h : Hp), k + e = xs.length → TI l per → l.length ≤ k → Sep h0 h [aTm x l per (keysL l) 0, aTm y l per (keysL l) 0] →
    K_signalboxlaw47_TimersParts_7 a b (some ⟨x, 0, none⟩) (some ⟨y, 0, none⟩) acts (acts.n : Int) (k : Int) h (TFin h0)
  | 0, k, l, per, h, hk, hI, hll, hs => by
    have han := hl.n
    apply S_signalboxlaw47_TimersParts_7
    unfold B_signalboxlaw47_TimersParts_7
    refine mIf_neg (by simp; omega) ?_
    have hwa : IntKind.i64.wrap a = a := wrap64 _ (by omega)
    have hwb : IntKind.i64.wrap b = b := wrap64 _ (by omega)
    have hwab : IntKind.i64.wrap (a + b) = a + b := wrap64 _ (by omega)
    obtain ⟨a, rfl⟩ : ∃ n : Nat, a = n := ⟨a.toNat, by omega⟩
    obtain ⟨b, rfl⟩ : ∃ n : Nat, b = n := ⟨b.toNat, by omega⟩
    have ca : clampT (a : Int) = a := by unfold clampT; omega
    have cb : clampT (b : Int) = b := by unfold clampT; omega
    have cab : clampT ((a : Int) + b) = a + b := by unfold clampT; omega
    rw [hwa, hwb, hwab, mBind_ap]
    refine (tAdvance_s (t := (a : Int)) hI (by omega) hs).mono ?_
    rintro v h ⟨o1, l1, rfl, i1, hr1, _, hs⟩
    rw [ca, Int.zero_add] at hs hr1
    simp only [unL_slice]
    rw [mBind_ap]
    refine (tAdvance_s (t := (b : Int)) i1 (by omega) hs.swap).mono ?_
    rintro v h ⟨o2, l2, rfl, i2, hr2, _, hs⟩
    rw [cb, hr1] at hs hr2
    simp only [unL_slice]
    have hR : (rowsT 0 l per).length ≤ 200 := by rw [rowsT_len]; exact hI.len
    have hot := otN_add a b 0 (rowsT 0 l per)
    rw [Int.zero_add] at hot
    have hx2 := hs.rowLen 0 rfl
    have hx1 := hs.rowLen 2 rfl
    obtain ⟨F, hF, _⟩ := hs.holds 0 rfl
    have hcells := aRow_cells (enc := encP) (sz := 2) (fun _ => rfl) hF
    refine hs.app_ 2 _ rfl (fun _ => rfl) hcells hx2 (by intro v hv; obtain ⟨w, _, hw⟩ := List.mem_flatMap.1 hv; exact encP_one w v hw) rfl (by omega) ?_ fun o3 h _ hs => ?_
    · have l1 := otN_len a 0 (rowsT 0 l per)
      have l2 := otN_len b (a : Int) (tkN a 0 (rowsT 0 l per))
      have l3 : (tkN a 0 (rowsT 0 l per)).length ≤ 200 := by rw [← hr1, rowsT_len]; exact i1.len
      have l4 : a * (rowsT 0 l per).length ≤ a * 200 := Nat.mul_le_mul_left _ hR
      have l5 : b * (tkN a 0 (rowsT 0 l per)).length ≤ b * 200 := Nat.mul_le_mul_left _ l3
      omega
    simp only [List.set_cons_zero, List.set_cons_succ] at hs
    rw [← hot] at hs
    have hs : Sep h0 h [aTm y l per (keysL l) 0, aRow encP 2 o2 _, aTm x l2 per (keysL l2) _, aRow encP 2 o3 (otN (a + b) 0 (rowsT 0 l per))] := hs.re [3, 0, 1, 2] rfl
    rw [mBind_ap]
    refine (tAdvance_s (t := (a : Int) + b) hI (by omega) hs).mono ?_
    rintro v h ⟨o4, l4, rfl, i4, hr4, _, hs⟩
    rw [cab, Int.zero_add] at hs
    simp only [unL_slice]
    have h3 := hs.rowLen 4 rfl
    have h4 := hs.rowLen 0 rfl
    rw [mBind_ap]
    refine mIf_neg (by simp; omega) ?_
    have hs : Sep h0 h [aTm x l2 per (keysL l2) _, aTm y l4 per (keysL l4) _, aRow encP 2 o3 (otN (a + b) 0 (rowsT 0 l per)), aRow encP 2 o4 (otN (a + b) 0 (rowsT 0 l per))] := (hs.re [2, 3, 1, 4, 0] rfl).drop
    rw [mBind_ap]
    refine (Now_s hs).mono ?_
    rintro v h' ⟨rfl, rfl⟩
    simp only [unI_int]
    rw [mBind_ap]
    refine (Now_s hs.drop).mono ?_
    rintro v h' ⟨rfl, rfl⟩
    simp only [unI_int]
    rw [mRet_ap]
    refine mIf_neg (by simp) ?_
    have l6 := otN_len (a + b) 0 (rowsT 0 l per)
    have l7 : (a + b) * (rowsT 0 l per).length ≤ (a + b) * 200 := Nat.mul_le_mul_left _ hR
    exact tp17 (by omega) (otN (a + b) 0 (rowsT 0 l per)).length 0 h' (Nat.zero_add _) hs.drop.drop
  | e + 1, k, l, per, h, hk, hI, hll, hs => by
    have ih := tp7 hl ho hn ha hb (x := x) (y := y) e (k + 1)
    have han := hl.n
    have hkl : k < xs.length := by omega
    have hx := ho xs[k] (List.getElem_mem _)
    apply S_signalboxlaw47_TimersParts_7
    unfold B_signalboxlaw47_TimersParts_7
    refine mIf_pos (by simp; omega) ?_
    (refine Sep.argEn hs hl (by first | omega | (simp only [List.length_set, List.length_map, List.length_replicate, List.length_append, List.length_cons, List.length_nil, List.length_reverse, List.length_range]; omega) | (simp; omega)) fun aa haa => ?_; refine Arg.ldI0 haa rfl ?_; refine Arg.ldI haa rfl ?_; refine Arg.ldI haa rfl ?_; refine Arg.ldI haa rfl ?_; (refine Sep.new hs fun nb h hs => ?_; try simp only [List.toList_toArray] at hs); (refine Sep.st hs 0 rfl rfl rfl fun h hs => ?_; simp only [List.set_cons_zero, List.set_cons_succ] at hs); (refine Sep.st hs 0 rfl rfl rfl fun h hs => ?_; simp only [List.set_cons_zero, List.set_cons_succ] at hs); (refine Sep.st hs 0 rfl rfl rfl fun h hs => ?_; simp only [List.set_cons_zero, List.set_cons_succ] at hs); (refine Sep.st hs 0 rfl rfl rfl fun h hs => ?_; simp only [List.set_cons_zero, List.set_cons_succ] at hs); refine Sep.ldI hs 0 rfl rfl ?_; refine Sep.ldI hs 0 rfl rfl ?_; refine Sep.ldI hs 0 rfl rfl ?_; simp only [add_mk, Nat.zero_add, mBind_ap])
    generalize xs[k] = c at *
    have hs : Sep h0 h [aTm x l per (keysL l) 0, aBlk nb c.enc, aTm y l per (keysL l) 0] := hs.re [1, 0, 2] rfl
    obtain ⟨hI', hl'⟩ := hI.start (id := c.id) (t := c.ticks) (g := c.gap) hx.2.1 (by omega)
    refine (Start_t (id := c.id) (t := c.ticks) (g := c.gap) hI hs).mono ?_
    rintro v h ⟨rfl, hs⟩
    have hs : Sep h0 h [aBlk nb c.enc, aTm y l per (keysL l) 0, aTm x (stL l c.id c.ticks c.gap) (stP per l c.id c.ticks c.gap) (keysL (stL l c.id c.ticks c.gap)) 0] := hs.re [1, 2, 0] rfl
    (simp only [unI_int]; refine Sep.ldI hs 0 rfl rfl ?_; refine Sep.ldI hs 0 rfl rfl ?_; refine Sep.ldI hs 0 rfl rfl ?_; simp only [mBind_ap])
    have hs : Sep h0 h [aTm y l per (keysL l) 0, aBlk nb c.enc, aTm x (stL l c.id c.ticks c.gap) (stP per l c.id c.ticks c.gap) (keysL (stL l c.id c.ticks c.gap)) 0] := hs.re [1, 0, 2] rfl
    refine (Start_t (id := c.id) (t := c.ticks) (g := c.gap) hI hs).mono ?_
    rintro v h ⟨rfl, hs⟩
    simp only [unI_int]
    rw [wrap64 ((k : Int) + 1) (by omega), show ((k : Int) + 1) = ((k + 1 : Nat) : Int) by omega]
    exact ih _ _ h (by omega) hI' (by omega) (hs.re [1, 2, 0] rfl).drop
theorem TimersParts_ok {acts : Sl} {xs : List TAct} {a b : Int} (hl : RdE h0.size h0 TAct.enc 4 acts xs) (ho : ∀ x ∈ xs, x.ok h0) (ha : 0 ≤ a ∧ a ≤ 255) (hb : 0 ≤ b ∧ b ≤ 255) : N_signalboxlaw47_TimersParts acts a b h0 (TFin h0) := by
  have han := hl.n
  apply S_signalboxlaw47_TimersParts
  unfold B_signalboxlaw47_TimersParts
  rw [mBind_ap]
  refine (tfixed_s (Sep.init h0)).mono ?_
  rintro v h ⟨rfl, hs⟩
  simp only [unB_bool]
  refine mIf_neg rfl ?_
  refine mIf_dec (fun hc => ⟨rfl, hs.under⟩) (fun hc => ?_)
  rw [mBind_ap]
  refine (tNew_s hs).mono ?_
  rintro v h ⟨x, rfl, hs⟩
  have hs := hs (fun _ => 0)
  simp only [unP_pointer]
  rw [mBind_ap]
  refine (tNew_s hs).mono ?_
  rintro v h ⟨y, rfl, hs⟩
  have hs := hs (fun _ => 0)
  simp only [unP_pointer]
  exact tp7 hl ho (by omega) ha hb xs.length 0 [] _ h (Nat.zero_add _) ⟨⟨by simp, by simp [dsum]⟩, by simp, by simp, trivial, by simp, by simp⟩ (by simp) hs.swap
end
end Go.Proofs.Ytinjifhjjkdmoaa
