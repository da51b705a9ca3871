/- Busy windows: demand, window, slack, and the laws BusyWindows, BusySlacks, BusyRises. Conditions: none. -/
import Derived.Test.YtjifoicncenfpaaBusyL
import Derived.Test.YtjifoicncenfpaaSbW
namespace Go.Proofs.Ytjifoicncenfpaa
open Go Go.Sb
set_option linter.unusedSimpArgs false
set_option linter.unusedVariables false

def LOk (l : List Ld) : Prop := ∀ w ∈ l, U w.cost ∧ U w.period
def dstep (x n : Int) (w : Ld) : Int := satA n (satM w.cost (ceilV x w.period))
def dem (delay : Int) (l : List Ld) (x : Int) : Int := l.foldl (dstep x) delay
theorem dstep_U {x n : Int} {w : Ld} (hx : U x) (hn : U n) (hw : U w.cost ∧ U w.period) : U (dstep x n w) := satA_U hn (satM_U hw.1 (ceilV_U hx hw.2))
theorem dem_U {x : Int} (hx : U x) : ∀ (l : List Ld) (d : Int), U d → LOk l → U (dem d l x)
  | [], _, hd, _ => hd
  | w :: l, d, hd, hl => dem_U hx l _ (dstep_U hx hd (hl w (by simp))) fun v hv => hl v (by simp [hv])
theorem ceilV_mono {x y b : Int} (hx : U x) (hy : U y) (hb : U b) (h : x ≤ y) : ceilV x b ≤ ceilV y b := by
  have x0 := hx.1; have y1 := hy.2; have b0 := hb.1
  have hu := ceilV_U hy hb
  have hux := ceilV_U hx hb
  unfold ceilV at *
  by_cases hx0 : x = 0
  · rw [if_pos hx0]; exact hu.1
  · rw [if_neg hx0] at hux ⊢
    rw [if_neg (show ¬ y = 0 by omega)] at hu ⊢
    by_cases hc : b = 0 ∨ x = 18446744073709551615
    · rw [if_pos hc, if_pos (by omega)]; omega
    · rw [if_neg hc] at hux ⊢
      by_cases hc2 : b = 0 ∨ y = 18446744073709551615
      · rw [if_pos hc2]; exact hux.2
      · rw [if_neg hc2]
        have := Int.ediv_le_ediv (show 0 < b by omega) (show x - 1 ≤ y - 1 by omega)
        omega
theorem satM_mono {a b c : Int} (ha : 0 ≤ a) (h : b ≤ c) : satM a b ≤ satM a c := by
  have := Int.mul_le_mul_of_nonneg_left h ha
  unfold satM; omega
theorem satA_mono {a b c d : Int} (h : a ≤ c) (h' : b ≤ d) : satA a b ≤ satA c d := by unfold satA; omega
theorem dem_mono {x y : Int} (hx : U x) (hy : U y) (hxy : x ≤ y) : ∀ (l : List Ld) (d e : Int), d ≤ e → LOk l → dem d l x ≤ dem e l y
  | [], _, _, hd, _ => hd
  | w :: l, d, e, hd, hl => by
    have hw := hl w (by simp)
    exact dem_mono hx hy hxy l _ _ (satA_mono hd (satM_mono hw.1.1 (ceilV_mono hx hy hw.2 hxy))) fun v hv => hl v (by simp [hv])
theorem dem_ge {x : Int} (hx : U x) : ∀ (l : List Ld) (d : Int), U d → LOk l → d ≤ dem d l x
  | [], _, _, _ => Int.le_refl _
  | w :: l, d, hd, hl => by
    have hw := hl w (by simp)
    have h1 := satM_U hw.1 (ceilV_U hx hw.2)
    have h2 := dem_ge hx l _ (dstep_U hx hd hw) fun v hv => hl v (by simp [hv])
    refine Int.le_trans ?_ h2
    unfold dstep satA
    have := h1.1; have := hd.2
    omega
theorem dem_snoc (d : Int) (l : List Ld) (w : Ld) (x : Int) : dem d (l ++ [w]) x = dstep x (dem d l x) w := by unfold dem; rw [List.foldl_append]; rfl
section
variable {h0 h : Hp} {R : List As} {ls : Sl} {l : List Ld}
theorem Demand_s (hs : Sep h0 h R) (hl : RdE h0.size h0 Ld.enc 2 ls l) (hlen : l.length ≤ 1000) (hok : LOk l) {d x : Int} (hd : U d) (hx : U x) : N_busy_Demand d ls x h (fun v h' => v = .int .u64 (dem d l x) ∧ Sep h0 h' R) := by
  have hln := hl.n
  apply S_busy_Demand
  unfold B_busy_Demand
  have loop : ∀ (e k : Nat) (h : Hp), k + e = l.length → Sep h0 h R → K_busy_Demand_3 x (dem d (l.take k) x) ls (ls.n : Int) (k : Int) h (fun v h' => v = .int .u64 (dem d l x) ∧ Sep h0 h' R) := by
    intro e
    induction e with
    | zero =>
      intro k h hk hs
      apply S_busy_Demand_3
      unfold B_busy_Demand_3
      (rw [decide_eq_false (by omega), mIf_false])
      rw [List.take_of_length_le (by omega)]
      exact ⟨rfl, hs⟩
    | succ e ih =>
      intro k h hk hs
      have hkl : k < l.length := by omega
      have hw := hok l[k] (List.getElem_mem hkl)
      have hu := dem_U hx (l.take k) d hd fun w hw => hok w (List.mem_of_mem_take hw)
      apply S_busy_Demand_3
      unfold B_busy_Demand_3
      (rw [decide_eq_true (by omega), mIf_true]; refine Sep.argEn hs hl (by first | omega | (simp only [List.length_set, List.length_map, List.length_replicate, List.length_append, List.length_cons, List.length_nil, List.length_reverse, List.length_range]; omega) | (simp; omega)) fun aa haa => ?_; refine Arg.ldI0 haa rfl ?_; refine Arg.ldI haa rfl ?_; (refine Sep.new hs fun nb h hs => ?_; try simp only [List.toList_toArray] at hs); (refine Sep.st hs 0 rfl rfl rfl fun h hs => ?_; simp only [List.set_cons_zero, List.set_cons_succ] at hs); (refine Sep.st hs 0 rfl rfl rfl fun h hs => ?_; simp only [List.set_cons_zero, List.set_cons_succ] at hs); refine Sep.ldI hs 0 rfl rfl ?_; refine Sep.ldI hs 0 rfl rfl ?_)
      refine mQ_intro _ (Ceil_s hx hw.2) ?_
      simp only [unI_int]
      refine mQ_intro _ (Mul_s hw.1 (ceilV_U hx hw.2)) ?_
      simp only [unI_int]
      refine mQ_intro _ (Add_s hu (satM_U hw.1 (ceilV_U hx hw.2))) ?_
      simp only [unI_int]
      rw [wrap64 _ (by omega), show (k : Int) + 1 = ((k + 1 : Nat) : Int) by omega]
      have := ih (k + 1) h (by omega) hs.drop
      rw [List.take_succ_eq_append_getElem hkl, dem_snoc] at this
      exact this
  exact loop l.length 0 h (by omega) hs
abbrev encU : Int → List Value := fun z => [.int .u64 z]
theorem split_s (hs : Sep h0 h []) (hl : RdE h0.size h0 Ld.enc 2 ls l) (hlen : l.length ≤ 1000) : N_signalboxlaw25_split ls h (fun v h' => ∃ a b : Sl, v = .tuple #[.slice a.p a.n a.c, .slice b.p b.n b.c] ∧ Sep h0 h' [aRow encU 1 a (l.map (·.cost)), aRow encU 1 b (l.map (·.period))]) := by
  have hln := hl.n
  apply S_signalboxlaw25_split
  unfold B_signalboxlaw25_split
  have loop : ∀ (e k : Nat) (h : Hp) (a b : Sl), k + e = l.length → Sep h0 h [aRow encU 1 a ((l.take k).map (·.cost)), aRow encU 1 b ((l.take k).map (·.period))] →
      K_signalboxlaw25_split_3 a b ls (ls.n : Int) (k : Int) h (fun v h' => ∃ a b : Sl, v = .tuple #[.slice a.p a.n a.c, .slice b.p b.n b.c] ∧ Sep h0 h' [aRow encU 1 a (l.map (·.cost)), aRow encU 1 b (l.map (·.period))]) := by
    intro e
    induction e with
    | zero =>
      intro k h a b hk hs
      apply S_signalboxlaw25_split_3
      unfold B_signalboxlaw25_split_3
      (rw [decide_eq_false (by omega), mIf_false])
      rw [List.take_of_length_le (by omega)] at hs
      exact ⟨a, b, rfl, hs⟩
    | succ e ih =>
      intro k h a b hk hs
      have hkl : k < l.length := by omega
      have htk : l.take (k + 1) = l.take k ++ [l[k]] := List.take_succ_eq_append_getElem hkl
      have hll : (l.take k).length = k := by rw [List.length_take]; omega
      have fin : ∀ (h : Hp) (a b : Sl) (x y z : As), Sep h0 h [x, y, z, aRow encU 1 a ((l.take k).map (·.cost) ++ [l[k].cost]), aRow encU 1 b ((l.take k).map (·.period) ++ [l[k].period])] →
          K_signalboxlaw25_split_3 a b ls (ls.n : Int) (IntKind.i64.wrap ((k : Int) + 1)) h (fun v h' => ∃ a b : Sl, v = .tuple #[.slice a.p a.n a.c, .slice b.p b.n b.c] ∧ Sep h0 h' [aRow encU 1 a (l.map (·.cost)), aRow encU 1 b (l.map (·.period))]) := by
        intro h a b x y z hs
        rw [wrap64 _ (by omega), show (k : Int) + 1 = ((k + 1 : Nat) : Int) by omega]
        refine ih (k + 1) h a b (by omega) ?_
        rw [htk, List.map_append, List.map_append]
        exact hs.drop.drop.drop
      apply S_signalboxlaw25_split_3
      unfold B_signalboxlaw25_split_3
      (rw [decide_eq_true (by omega), mIf_true]; refine Sep.argEn hs hl (by first | omega | (simp only [List.length_set, List.length_map, List.length_replicate, List.length_append, List.length_cons, List.length_nil, List.length_reverse, List.length_range]; omega) | (simp; omega)) fun aa haa => ?_; refine Arg.ldI0 haa rfl ?_; refine Arg.ldI haa rfl ?_; (refine Sep.new hs fun nb h hs => ?_; try simp only [List.toList_toArray] at hs); (refine Sep.st hs 0 rfl rfl rfl fun h hs => ?_; simp only [List.set_cons_zero, List.set_cons_succ] at hs); (refine Sep.st hs 0 rfl rfl rfl fun h hs => ?_; simp only [List.set_cons_zero, List.set_cons_succ] at hs); simp only [add_mk, Nat.zero_add])
      generalize l[k] = w at *
      repeat' (first | with_reducible refine mAnd_intro ?_ ?_ | (first | (((with_reducible refine gd_mLdI ?_); refine Sep.ldI hs 0 rfl rfl ?_)) | (((with_reducible refine gd_mNew ?_); (refine Sep.new hs fun nb_1 h hs => ?_; try simp only [List.toList_toArray] at hs))) | (((with_reducible refine gd_mApp ?_); (refine Sep.app1 hs 2 0 _ rfl rfl (fun _ => rfl) (by simp [Value.oneCell']) rfl (by omega) (by first | omega | (simp only [List.length_set, List.length_map, List.length_replicate, List.length_append, List.length_cons, List.length_nil, List.length_reverse, List.length_range]; omega) | (simp; omega)) fun sl h hn_sl hs => ?_; simp only [List.set_cons_zero, List.set_cons_succ] at hs))) | (((with_reducible refine gd_mLdI ?_); refine Sep.ldI hs 1 rfl rfl ?_)) | (((with_reducible refine gd_mNew ?_); (refine Sep.new hs fun nb_2 h hs => ?_; try simp only [List.toList_toArray] at hs))) | (((with_reducible refine gd_mApp ?_); (refine Sep.app1 hs 4 0 _ rfl rfl (fun _ => rfl) (by simp [Value.oneCell']) rfl (by omega) (by first | omega | (simp only [List.length_set, List.length_map, List.length_replicate, List.length_append, List.length_cons, List.length_nil, List.length_reverse, List.length_range]; omega) | (simp; omega)) fun sl_1 h hn_sl_1 hs => ?_; simp only [List.set_cons_zero, List.set_cons_succ] at hs))) | (((with_reducible refine gd_mApp ?_); (refine Sep.app1 hs 3 1 _ rfl rfl (fun _ => rfl) (by simp [Value.oneCell']) rfl (by omega) (by first | omega | (simp only [List.length_set, List.length_map, List.length_replicate, List.length_append, List.length_cons, List.length_nil, List.length_reverse, List.length_range]; omega) | (simp; omega)) fun sl h hn_sl hs => ?_; simp only [List.set_cons_zero, List.set_cons_succ] at hs))) | (((with_reducible refine gd_mApp ?_); (refine Sep.app1 hs 3 0 _ rfl rfl (fun _ => rfl) (by simp [Value.oneCell']) rfl (by omega) (by first | omega | (simp only [List.length_set, List.length_map, List.length_replicate, List.length_append, List.length_cons, List.length_nil, List.length_reverse, List.length_range]; omega) | (simp; omega)) fun sl h hn_sl hs => ?_; simp only [List.set_cons_zero, List.set_cons_succ] at hs))) | (((with_reducible refine gd_mApp ?_); (refine Sep.app1 hs 4 1 _ rfl rfl (fun _ => rfl) (by simp [Value.oneCell']) rfl (by omega) (by first | omega | (simp only [List.length_set, List.length_map, List.length_replicate, List.length_append, List.length_cons, List.length_nil, List.length_reverse, List.length_range]; omega) | (simp; omega)) fun sl_1 h hn_sl_1 hs => ?_; simp only [List.set_cons_zero, List.set_cons_succ] at hs)))))
      all_goals exact fin _ _ _ _ _ _ hs
  exact loop l.length 0 h ⟨none, 0, 0⟩ ⟨none, 0, 0⟩ (by omega) ((hs.nilRow encU 1).nilRow encU 1)
theorem refDemand_s {L : List As} {a b : Sl} (hs : Sep h0 h L) (i j : Nat) (hi : L[i]? = some (aRow encU 1 a (l.map (·.cost)))) (hj : L[j]? = some (aRow encU 1 b (l.map (·.period)))) (hlen : l.length ≤ 1000) (hok : LOk l) {d x : Int} (hd : U d) (hx : U x) :
    N_signalboxref25_Demand d a b x h (fun v h' => v = .int .u64 (dem d l x) ∧ h' = h) := by
  have han := hs.rowLen i hi
  have hbn := hs.rowLen j hj
  rw [List.length_map] at han hbn
  apply S_signalboxref25_Demand
  unfold B_signalboxref25_Demand
  have loop : ∀ (e k : Nat), k + e = l.length → K_signalboxref25_Demand_3 a b x (dem d (l.take k) x) (a.n : Int) (k : Int) h (fun v h' => v = .int .u64 (dem d l x) ∧ h' = h) := by
    intro e
    induction e with
    | zero =>
      intro k hk
      apply S_signalboxref25_Demand_3
      unfold B_signalboxref25_Demand_3
      (rw [decide_eq_false (by omega), mIf_false])
      rw [List.take_of_length_le (by omega)]
      exact ⟨rfl, rfl⟩
    | succ e ih =>
      intro k hk
      have hkl : k < l.length := by omega
      have hw := hok l[k] (List.getElem_mem hkl)
      have hu := dem_U hx (l.take k) d hd fun w hw => hok w (List.mem_of_mem_take hw)
      apply S_signalboxref25_Demand_3
      unfold B_signalboxref25_Demand_3
      rw [decide_eq_true (by omega), mIf_true]
      refine hs.idx i hi (by omega) (by simp; omega) fun aa haa => ?_
      refine hs.ild i hi haa (by simp; omega) ?_
      refine hs.idx j hj (by omega) (by simp; omega) fun ab hab => ?_
      refine hs.ild j hj hab (by simp; omega) ?_
      simp only [Int.toNat_natCast, List.getElem_map]
      refine mQ_intro _ (refCeil_s hx hw.2) ?_
      simp only [unI_int]
      refine mQ_intro _ (refMul_s hw.1 _ _ _ (Nat.le_refl _) (ceilV_U hx hw.2)) ?_
      simp only [unI_int]
      refine mQ_intro _ (refAdd_s hu (satM_U hw.1 (ceilV_U hx hw.2))) ?_
      simp only [unI_int]
      rw [wrap64 _ (by omega), show (k : Int) + 1 = ((k + 1 : Nat) : Int) by omega]
      have := ih (k + 1) (by omega)
      rw [List.take_succ_eq_append_getElem hkl, dem_snoc] at this
      exact this
  exact loop l.length 0 (by omega)
/-- what a window tells -/
def IsWin (d : Int) (l : List Ld) (m w : Int) (ok : Bool) : Prop :=
  (ok = true ∧ 1 ≤ w ∧ w ≤ m ∧ dem d l w ≤ w ∧ ∀ y, 1 ≤ y → y < w → y < dem d l y) ∨ (ok = false ∧ w = 18446744073709551615 ∧ ∀ y, 1 ≤ y → y ≤ m → y < dem d l y)
theorem Window_s (hs : Sep h0 h R) (hl : RdE h0.size h0 Ld.enc 2 ls l) (hlen : l.length ≤ 1000) (hok : LOk l) {d m : Int} (hd : U d) (hm : 0 ≤ m ∧ m ≤ 1000000) :
    N_busy_Window d ls m h (fun v h' => (∃ w ok, v = .tuple #[.int .u64 w, .bool ok] ∧ IsWin d l m w ok) ∧ Sep h0 h' R) := by
  apply S_busy_Window
  unfold B_busy_Window
  rw [if_neg (by omega), mBind_ap]
  refine Nf.mono (Q := fun v h' => (∃ w ok, v = .tuple #[.int .u64 w, .bool ok] ∧ IsWin d l m w ok) ∧ Sep h0 h' R) ?_ ?_
  · apply S_sat_Least
    unfold B_sat_Least
    have loop : ∀ (e : Nat) (x t : Int) (h : Hp), Sep h0 h R → U x → 1 ≤ x → (∀ y, 1 ≤ y → y < x → y ≤ m → y < dem d l y) → m + 1 - x ≤ e → 0 ≤ t → t + e ≤ 1000001 →
        K_sat_Least_3 82 #[.agg #[.int .u64 d, .slice ls.p ls.n ls.c]] #[] m x t h (fun v h' => (∃ w ok, v = .tuple #[.int .u64 w, .bool ok] ∧ IsWin d l m w ok) ∧ Sep h0 h' R) := by
      intro e
      induction e with
      | zero =>
        intro x t h hs hx x1 hy he t0 t1
        apply S_sat_Least_3
        unfold B_sat_Least_3
        rw [decide_eq_true (by omega), mIf_true, decide_eq_true (by omega), mIf_true]
        exact ⟨⟨_, _, rfl, .inr ⟨rfl, rfl, fun y h1 h2 => hy y h1 (by omega) h2⟩⟩, hs⟩
      | succ e ih =>
        intro x t h hs hx x1 hy he t0 t1
        apply S_sat_Least_3
        unfold B_sat_Least_3
        rw [decide_eq_true (by omega), mIf_true]
        refine mIf_dec (fun hc => ?_) (fun hc => ?_)
        · exact ⟨⟨_, _, rfl, .inr ⟨rfl, rfl, fun y h1 h2 => hy y h1 (by omega) h2⟩⟩, hs⟩
        · rw [mBind_ap]
          have hwd : N_busy_work_demand d ls x h (fun v h' => v = .int .u64 (dem d l x) ∧ Sep h0 h' R) := by
            apply S_busy_work_demand
            unfold B_busy_work_demand
            ((refine Sep.new hs fun nb h hs => ?_; try simp only [List.toList_toArray] at hs); refine Sep.ldI hs 0 rfl rfl ?_; refine Sep.ldL hs 0 rfl rfl ?_; simp only [mBind_ap])
            refine (Demand_s hs hl hlen hok hd hx).mono ?_
            rintro v h ⟨rfl, hs⟩
            (simp only [unI_int])
            exact ⟨rfl, hs.drop⟩
          refine Nf.mono hwd ?_
          rintro v h ⟨rfl, hs⟩
          simp only [unI_int]
          have hdu := dem_U hx l d hd hok
          refine mIf_dec (fun hc2 => ?_) (fun hc2 => ?_)
          · exact ⟨⟨_, _, rfl, .inl ⟨rfl, x1, by omega, hc2, fun y h1 h2 => hy y h1 h2 (by omega)⟩⟩, hs⟩
          · rw [wrap64 _ (by omega)]
            refine ih _ _ h hs hdu (by omega) (fun y h1 h2 h3 => ?_) (by omega) (by omega) (by omega)
            by_cases hyx : y < x
            · exact hy y h1 hyx h3
            · have := dem_mono hx (show U y from ⟨by omega, by omega⟩) (show x ≤ y by omega) l d d (Int.le_refl _) hok
              omega
    exact loop (m.toNat + 1) 1 0 h hs ⟨by omega, by omega⟩ (by omega) (fun y h1 h2 => by omega) (by omega) (by omega) (by omega)
  · rintro v h ⟨⟨w, ok, rfl, hw⟩, hs⟩
    (simp only [un2_tuple, unB_bool, unI_int])
    exact ⟨⟨w, ok, rfl, hw⟩, hs⟩
/-- what the document's window tells -/
def IsRef (d : Int) (l : List Ld) (m w : Int) : Prop := (1 ≤ w ∧ w ≤ m ∧ dem d l w ≤ w ∧ ∀ y, 1 ≤ y → y < w → y < dem d l y) ∨ (w = 0 ∧ ∀ y, 1 ≤ y → y ≤ m → y < dem d l y)
theorem refWindow_s {L : List As} {a b : Sl} (hs : Sep h0 h L) (i j : Nat) (hi : L[i]? = some (aRow encU 1 a (l.map (·.cost)))) (hj : L[j]? = some (aRow encU 1 b (l.map (·.period)))) (hlen : l.length ≤ 1000) (hok : LOk l) {d m : Int} (hd : U d) (hm : 0 ≤ m ∧ m ≤ 1000000) :
    N_signalboxref25_Window d a b m h (fun v h' => (∃ w, v = .int .u64 w ∧ IsRef d l m w) ∧ h' = h) := by
  apply S_signalboxref25_Window
  unfold B_signalboxref25_Window
  have loop : ∀ (e : Nat) (x : Int), 1 ≤ x → m + 1 - x ≤ e → x ≤ m + 1 → (∀ y, 1 ≤ y → y < x → y < dem d l y) → K_signalboxref25_Window_2 d a b m x h (fun v h' => (∃ w, v = .int .u64 w ∧ IsRef d l m w) ∧ h' = h) := by
    intro e
    induction e with
    | zero =>
      intro x x1 he x2 hy
      apply S_signalboxref25_Window_2
      unfold B_signalboxref25_Window_2
      rw [decide_eq_false (by omega), mIf_false]
      exact ⟨⟨0, rfl, .inr ⟨rfl, fun y h1 h2 => hy y h1 (by omega)⟩⟩, rfl⟩
    | succ e ih =>
      intro x x1 he x2 hy
      apply S_signalboxref25_Window_2
      unfold B_signalboxref25_Window_2
      refine mIf_dec (fun hc => ?_) (fun hc => ?_)
      · rw [mBind_ap]
        refine (refDemand_s hs i j hi hj hlen hok hd (show U x from ⟨by omega, by omega⟩)).mono ?_
        rintro v h' ⟨rfl, rfl⟩
        simp only [unI_int]
        refine mIf_dec (fun hc2 => ?_) (fun hc2 => ?_)
        · exact ⟨⟨x, rfl, .inl ⟨x1, hc, hc2, hy⟩⟩, rfl⟩
        · rw [wrapu64 _ (by omega)]
          refine ih (x + 1) (by omega) (by omega) (by omega) fun y h1 h2 => ?_
          by_cases hyx : y < x
          · exact hy y h1 hyx
          · rw [show y = x by omega]; omega
      · exact ⟨⟨0, rfl, .inr ⟨rfl, fun y h1 h2 => hy y h1 (by omega)⟩⟩, rfl⟩
  exact loop (m.toNat + 1) 1 (by omega) (by omega) (by omega) fun y h1 h2 => by omega
theorem win_ref {d : Int} {l : List Ld} {m w x : Int} {ok : Bool} (h1 : IsWin d l m w ok) (h2 : IsRef d l m x) : (ok = true ∧ x = w ∧ 1 ≤ w) ∨ (ok = false ∧ x = 0 ∧ w = 18446744073709551615) := by
  rcases h1 with ⟨a1, a2, a3, a4, a5⟩ | ⟨a1, a2, a3⟩
  · rcases h2 with ⟨b1, b2, b3, b4⟩ | ⟨b1, b2⟩
    · refine .inl ⟨a1, ?_, a2⟩
      rcases Int.lt_trichotomy x w with h | h | h
      · have := a5 x b1 h; omega
      · exact h
      · have := b4 w a2 h; omega
    · have := b2 w a2 a3; omega
  · rcases h2 with ⟨b1, b2, b3, b4⟩ | ⟨b1, b2⟩
    · have := a3 x b1 b2; omega
    · exact .inr ⟨a1, b1, a2⟩
end
end Go.Proofs.Ytjifoicncenfpaa
