/- Turns of equal length: what each call answers. Conditions: none. -/
import Derived.Test.YtinjifhjjkdmoaaSliM
import Derived.Test.YtinjifhjjkdmoaaSbW
import Derived.Test.YtinjifhjjkdmoaaSbX
import Derived.Test.YtinjifhjjkdmoaaSbY
import Derived.Test.YtinjifhjjkdmoaaSliP
namespace Go.Proofs.Ytinjifhjjkdmoaa
open Go Go.Sb
set_option linter.unusedSimpArgs false
set_option linter.unusedVariables false
abbrev encI : Int → List Value := fun z => [.int .i64 z]
abbrev encN : Nat → List Value := fun z => [.int .i64 (z : Int)]
section
variable {h0 h : Hp} {R : List As} {s : Sl} {zs : List Int} {q : Int}
theorem cl_s (n : Int) : N_slice_clamp n h (fun v h' => v = .int .i64 (cl n) ∧ h' = h) := by
  apply S_slice_clamp
  unfold B_slice_clamp
  refine ⟨?_, rfl⟩
  congr 1
  unfold cl
  split <;> split <;> omega
theorem rcl_s (n : Int) : N_signalboxref41_Clamp n h (fun v h' => v = .int .i64 (cl n) ∧ h' = h) := by
  apply S_signalboxref41_Clamp
  unfold B_signalboxref41_Clamp
  unfold cl
  refine mIf_dec (fun hc => ?_) (fun hc => ?_)
  · exact ⟨by congr 1; omega, rfl⟩
  · refine mIf_dec (fun hc => ?_) (fun hc => ?_)
    · exact ⟨by congr 1; omega, rfl⟩
    · exact ⟨by congr 1; omega, rfl⟩
theorem right_s : N_slice_right q h (fun v h' => v = .bool (decide (1 ≤ q ∧ q ≤ 1048576)) ∧ h' = h) := by
  apply S_slice_right
  unfold B_slice_right
  refine ⟨?_, rfl⟩
  congr 1
  simp
theorem app_one {X : Type} {enc : X → List Value} {s : Sl} {xs : List X} (y : X) {v : Value} {α : Type} {Q : α → Hp → Prop} {K : Sl → M α} (hs : Sep h0 h (aRow enc 1 s xs :: R)) (he : enc y = [v]) (hl : ∀ x, (enc x).length = 1) (hv : v.oneCell' = true) (hn : xs.length ≤ 17592186044000) (hK : ∀ s' h', s'.n = xs.length + 1 → Sep h0 h' (aRow enc 1 s' (xs ++ [y]) :: R) → K s' h' Q) :
    (mNew #[v] 3 fun a => mApp 3 1 8 #[.int .i64 (0 : Int)] s ⟨some a, 1, 1⟩ K) h Q := by
  refine Sep.new hs fun nb h hs => ?_
  refine hs.app1 1 0 y rfl (by rw [he]; rfl) hl (by rw [he]; intro w hw; simp only [List.mem_singleton] at hw; subst hw; exact hv) rfl (by omega) (by omega) fun s' h' hn hs => ?_
  exact hK s' h' hn hs.drop
theorem works4 (hr : RdI h0.size h0 .i64 s zs) : ∀ (d k : Nat) (o : Sl) (h : Hp), k + d = zs.length → sm ((zs.take k).map cl) ≤ 1500 → Sep h0 h [aRow encI 1 o ((zs.take k).map cl)] → zs.length ≤ 17592186043904 →
    K_signalboxlaw41_works_4 s o (sm ((zs.take k).map cl)) s (s.n : Int) (k : Int) h (fun v h' => ∃ (o : Sl) (ok : Bool), v = .tuple #[.slice o.p o.n o.c, .bool ok] ∧ Under h0.size h0 h' ∧ (ok = true → zs.length ≤ 30 ∧ sm (zs.map cl) ≤ 1500 ∧ Sep h0 h' [aRow encI 1 o (zs.map cl)]))
  | 0, k, o, h, hk, hsm, hs, hn => by
    have hsn := hr.n
    apply S_signalboxlaw41_works_4
    unfold B_signalboxlaw41_works_4
    refine mIf_neg (by simp; omega) ?_
    refine ⟨o, _, rfl, hs.under, fun hc => ?_⟩
    rw [List.take_of_length_le (by omega)] at hs hsm
    exact ⟨by have := of_decide_eq_true hc; omega, hsm, hs⟩
  | d + 1, k, o, h, hk, hsm, hs, hn => by
    have ih := works4 hr d (k + 1)
    have hsn := hr.n
    have hkl : k < zs.length := by omega
    have ht : (zs.take (k + 1)).map cl = (zs.take k).map cl ++ [cl zs[k]] := by rw [List.take_succ_eq_append_getElem hkl, List.map_append]; rfl
    have hb := cl_b zs[k]
    have hsum : sm ((zs.take (k + 1)).map cl) = sm ((zs.take k).map cl) + cl zs[k] := by rw [ht, sm_append]; simp [sm]
    have hnn := sm_nonneg ((zs.take k).map cl) (by intro x hx; obtain ⟨y, _, rfl⟩ := List.mem_map.1 hx; exact (cl_b y).1)
    apply S_signalboxlaw41_works_4
    unfold B_signalboxlaw41_works_4
    refine mIf_pos (by simp; omega) ?_
    refine hs.argIn hr hkl ?_
    rw [mBind_ap]
    refine (rcl_s _).mono ?_
    rintro v h' ⟨rfl, rfl⟩
    simp only [unI_int]
    refine app_one (cl zs[k]) hs rfl (fun _ => rfl) rfl (by simp; omega) fun o' h hn' hs => ?_
    rw [mBind_ap]
    refine (rcl_s _).mono ?_
    rintro v h' ⟨rfl, rfl⟩
    simp only [unI_int]
    rw [wrap64 (sm ((zs.take k).map cl) + cl zs[k]) (by omega), ← hsum]
    refine mIf_dec (fun hc => ?_) (fun hc => ?_)
    · exact ⟨⟨none, 0, 0⟩, false, rfl, hs.under, fun h => by cases h⟩
    · rw [wrap64 ((k : Int) + 1) (by omega), show ((k : Int) + 1) = ((k + 1 : Nat) : Int) by omega]
      rw [← ht] at hs
      exact ih o' _ (by omega) (by omega) hs hn
theorem works_s (hr : RdI h.size h .i64 s zs) (hn : zs.length ≤ 17592186043904) : N_signalboxlaw41_works s h (fun v h' => ∃ (o : Sl) (ok : Bool), v = .tuple #[.slice o.p o.n o.c, .bool ok] ∧ Under h.size h h' ∧ (ok = true → zs.length ≤ 30 ∧ sm (zs.map cl) ≤ 1500 ∧ Sep h h' [aRow encI 1 o (zs.map cl)])) := by
  apply S_signalboxlaw41_works
  unfold B_signalboxlaw41_works
  exact works4 hr zs.length 0 _ h (by omega) (by simp [sm]) (by simpa using (Sep.init h).nilRow encI 1) hn
/-! shared -/
theorem shr_b {l : List Int} (n : Int) (hl : ∀ x ∈ l, 0 ≤ x ∧ x ≤ 1048576) (hn : 0 ≤ n) : 0 ≤ shr l n ∧ shr l n ≤ l.length * 1048576 := by
  unfold shr
  constructor
  · refine sm_nonneg _ fun x hx => ?_
    obtain ⟨y, hy, rfl⟩ := List.mem_map.1 hx
    have := hl y hy; omega
  · have := sm_le (l.map fun x => min x n) 1048576 (fun x hx => by
      obtain ⟨y, hy, rfl⟩ := List.mem_map.1 hx
      have := hl y hy; omega)
    simpa using this
theorem shared7 (hr : RdI h0.size h0 .i64 s zs) (hn : zs.length ≤ 1000) {o : Sl} {x : Int} {i : Nat} (Q : Value → Hp → Prop)
    (next : ∀ (o : Sl) (h : Hp) (os : List Int), os = (zs.take i).map (fun n => shr (zs.map cl) (cl n)) ++ [shr (zs.map cl) (cl x)] → Sep h0 h [aRow encI 1 o os] → K_slice_Shared_3 s o s (s.n : Int) (IntKind.i64.wrap ((i : Int) + 1)) h Q) (hi : i ≤ zs.length) : ∀ (d k : Nat) (h : Hp), k + d = zs.length → Sep h0 h [aRow encI 1 o ((zs.take i).map (fun n => shr (zs.map cl) (cl n)))] →
    K_slice_Shared_7 s o x (shr ((zs.take k).map cl) (cl x)) s (s.n : Int) (i : Int) s (s.n : Int) (k : Int) h Q
  | 0, k, h, hk, hs => by
    have hsn := hr.n
    apply S_slice_Shared_7
    unfold B_slice_Shared_7
    refine mIf_neg (by simp; omega) ?_
    rw [List.take_of_length_le (by omega)]
    refine app_one (shr (zs.map cl) (cl x)) hs rfl (fun _ => rfl) rfl (by simp; omega) fun o' h hn' hs => ?_
    exact next o' h _ rfl hs
  | d + 1, k, h, hk, hs => by
    have ih := shared7 hr hn (o := o) (x := x) Q next hi d (k + 1)
    have hsn := hr.n
    have hkl : k < zs.length := by omega
    have hb := cl_b zs[k]
    have hbx := cl_b x
    have ht : shr ((zs.take (k + 1)).map cl) (cl x) = shr ((zs.take k).map cl) (cl x) + min (cl zs[k]) (cl x) := by
      unfold shr
      rw [List.take_succ_eq_append_getElem hkl, List.map_append, List.map_append, sm_append]; simp [sm]
    have hbd := shr_b (l := (zs.take (k + 1)).map cl) (cl x) (by intro y hy; obtain ⟨z, _, rfl⟩ := List.mem_map.1 hy; exact cl_b z) hbx.1
    rw [List.length_map, List.length_take] at hbd
    apply S_slice_Shared_7
    unfold B_slice_Shared_7
    refine mIf_pos (by simp; omega) ?_
    refine hs.argIn hr hkl ?_
    rw [mBind_ap]
    refine (cl_s _).mono ?_
    rintro v h' ⟨rfl, rfl⟩
    simp only [unI_int]
    rw [mBind_ap]
    refine (cl_s _).mono ?_
    rintro v h' ⟨rfl, rfl⟩
    simp only [unI_int]
    have e : (if cl x < cl zs[k] then cl x else cl zs[k]) = min (cl zs[k]) (cl x) := by split <;> omega
    rw [e, wrap64 _ (by rw [← ht]; omega), ← ht, wrap64 ((k : Int) + 1) (by omega), show ((k : Int) + 1) = ((k + 1 : Nat) : Int) by omega]
    exact ih _ (by omega) hs
theorem shared3 (hr : RdI h0.size h0 .i64 s zs) (hn : zs.length ≤ 1000) : ∀ (d i : Nat) (o : Sl) (h : Hp), i + d = zs.length → Sep h0 h [aRow encI 1 o ((zs.take i).map (fun n => shr (zs.map cl) (cl n)))] →
    K_slice_Shared_3 s o s (s.n : Int) (i : Int) h (fun v h' => ∃ o : Sl, v = .slice o.p o.n o.c ∧ Sep h0 h' [aRow encI 1 o (zs.map (fun n => shr (zs.map cl) (cl n)))])
  | 0, i, o, h, hk, hs => by
    have hsn := hr.n
    apply S_slice_Shared_3
    unfold B_slice_Shared_3
    refine mIf_neg (by simp; omega) ?_
    rw [List.take_of_length_le (by omega)] at hs
    exact ⟨o, rfl, hs⟩
  | d + 1, i, o, h, hk, hs => by
    have ih := shared3 hr hn d (i + 1)
    have hsn := hr.n
    have hkl : i < zs.length := by omega
    apply S_slice_Shared_3
    unfold B_slice_Shared_3
    refine mIf_pos (by simp; omega) ?_
    refine hs.argIn hr hkl ?_
    refine shared7 hr hn (o := o) (x := zs[i]) (i := i) _ (fun o h os he hs => ?_) (by omega) zs.length 0 h (by omega) hs
    rw [wrap64 ((i : Int) + 1) (by omega), show ((i : Int) + 1) = ((i + 1 : Nat) : Int) by omega]
    refine ih o h (by omega) ?_
    rw [he] at hs
    rw [List.take_succ_eq_append_getElem hkl, List.map_append]
    exact hs
theorem Shared_s (hr : RdI h.size h .i64 s zs) (hn : zs.length ≤ 1000) : N_slice_Shared s h (fun v h' => ∃ o : Sl, v = .slice o.p o.n o.c ∧ Sep h h' [aRow encI 1 o (zs.map (fun n => shr (zs.map cl) (cl n)))]) := by
  apply S_slice_Shared
  unfold B_slice_Shared
  exact shared3 hr hn zs.length 0 _ h (by omega) ((Sep.init h).nilRow encI 1)
theorem rshared3 {ws : List Int} (hr : RdI h.size h .i64 s ws) (hn : ws.length ≤ 1000) (hw : ∀ x ∈ ws, 0 ≤ x ∧ x ≤ 1048576) {i : Nat} (hi : i < ws.length) : ∀ (d k : Nat), k + d = ws.length →
    K_signalboxref41_Shared_3 s (i : Int) (shr (ws.take k) ws[i]) s (s.n : Int) (k : Int) h (fun v h' => v = .int .i64 (shr ws ws[i]) ∧ h' = h)
  | 0, k, hk => by
    have hsn := hr.n
    apply S_signalboxref41_Shared_3
    unfold B_signalboxref41_Shared_3
    refine mIf_neg (by simp; omega) ?_
    rw [List.take_of_length_le (by omega)]
    exact ⟨rfl, rfl⟩
  | d + 1, k, hk => by
    have ih := rshared3 hr hn hw hi d (k + 1)
    have hsn := hr.n
    have hkl : k < ws.length := by omega
    have hb := hw _ (List.getElem_mem hkl)
    have hbi := hw _ (List.getElem_mem hi)
    have ht : shr (ws.take (k + 1)) ws[i] = shr (ws.take k) ws[i] + min ws[k] ws[i] := by
      unfold shr
      rw [List.take_succ_eq_append_getElem hkl, List.map_append, sm_append]; simp [sm]
    have hbd := shr_b (l := ws.take (k + 1)) ws[i] (fun y hy => hw y (List.mem_of_mem_take hy)) hbi.1
    rw [List.length_take] at hbd
    apply S_signalboxref41_Shared_3
    unfold B_signalboxref41_Shared_3
    refine mIf_pos (by simp; omega) ?_
    refine hr.ix hkl ?_
    refine hr.ix hi ?_
    have e : (if ws[i] < ws[k] then ws[i] else ws[k]) = min ws[k] ws[i] := by split <;> omega
    rw [e, wrap64 _ (by rw [← ht]; omega), ← ht, wrap64 ((k : Int) + 1) (by omega), show ((k : Int) + 1) = ((k + 1 : Nat) : Int) by omega]
    exact ih (by omega)
theorem rShared_s {ws : List Int} (hr : RdI h.size h .i64 s ws) (hn : ws.length ≤ 1000) (hw : ∀ x ∈ ws, 0 ≤ x ∧ x ≤ 1048576) {i : Nat} (hi : i < ws.length) : N_signalboxref41_Shared s (i : Int) h (fun v h' => v = .int .i64 (shr ws ws[i]) ∧ h' = h) := by
  apply S_signalboxref41_Shared
  unfold B_signalboxref41_Shared
  exact rshared3 hr hn hw hi ws.length 0 (by omega)
end
end Go.Proofs.Ytinjifhjjkdmoaa
