/- Timers: ticks that go by. Conditions: none. -/
import Derived.Test.YtinjifhjjkdmoaaTimL
import Derived.Test.YtinjifhjjkdmoaaSbW
namespace Go.Proofs.Ytinjifhjjkdmoaa
open Go Go.Sb
set_option linter.unusedSimpArgs false
set_option linter.unusedVariables false
section
variable {h0 h : Hp} {R X : List As} {tb : Nat} {l : DL} {per : Int → Int} {S : List Int} {now : Int}
/-- those who ran out, one by one -/
def agn (per : Int → Int) : List Int → DL → DL
  | [], l => l
  | id :: is, l => agn per is (if per id > 0 then ins id l (per id) else l)
theorem agn_rows (now : Int) : ∀ (ids : List Int) (l : DL), rowsT now (agn per ids l) per = putsT (againT now (ids.map fun k => ⟨k, now, per k⟩)) (rowsT now l per)
  | [], l => rfl
  | id :: is, l => by
    have ih := agn_rows now is (if per id > 0 then ins id l (per id) else l)
    unfold agn
    rw [ih]
    by_cases hp : per id > 0
    · rw [if_pos hp, rows_ins]
      unfold againT
      rw [List.map_cons, List.filter_cons]
      simp only [hp, decide_true, if_true, List.map_cons]
      rfl
    · rw [if_neg hp]
      unfold againT
      rw [List.map_cons, List.filter_cons]
      simp only [hp, decide_false, Bool.false_eq_true, if_false]
/-- what stays so, while they come -/
structure TJ (per : Int → Int) (pend : List Int) (l : DL) : Prop where
  ok : DOk l
  nd : (pend ++ keysL l).Nodup
  w : ∀ k ∈ pend ++ keysL l, -9223372036854775808 ≤ k ∧ k ≤ 9223372036854775807
  hd : hd1 l
  len : pend.length + l.length ≤ 200
  per : ∀ k ∈ pend ++ keysL l, 0 ≤ per k ∧ per k ≤ 16777216
theorem TJ.step {id : Int} {pend : List Int} (h : TJ per (id :: pend) l) : TJ per pend (if per id > 0 then ins id l (per id) else l) := by
  have hp := h.per id (by simp)
  have hnd := h.nd
  rw [List.cons_append] at hnd
  have hn := List.nodup_cons.1 hnd
  have hlen := h.len
  rw [List.length_cons] at hlen
  by_cases hc : per id > 0
  · rw [if_pos hc]
    have hk := ins_keys id l (per id)
    have hperm : (pend ++ keysL (ins id l (per id))).Perm (id :: (pend ++ keysL l)) := (hk.append_left pend).trans List.perm_middle
    refine ⟨(ins_ok l (per id) h.ok (by omega) hp.2).1, hperm.nodup_iff.2 hnd, fun k hk => ?_, ins_hd id l _ h.hd (by omega), by rw [ins_len]; omega, fun k hk => ?_⟩
    · exact h.w k (by have := hperm.mem_iff.1 hk; simpa using this)
    · exact h.per k (by have := hperm.mem_iff.1 hk; simpa using this)
  · rw [if_neg hc]
    refine ⟨h.ok, hn.2, fun k hk => h.w k ?_, h.hd, by omega, fun k hk => h.per k ?_⟩
    · rw [List.cons_append]; exact List.mem_cons_of_mem _ hk
    · rw [List.cons_append]; exact List.mem_cons_of_mem _ hk
theorem TJ.done (h : TJ per [] l) : TI l per := ⟨h.ok, h.nd, h.w, h.hd, by have := h.len; simpa using this, h.per⟩
theorem TI.after (h : TI l per) {t : Int} (ht : 0 ≤ t) : TJ per (adv t l).1 (adv t l).2 := by
  have hk := adv_keys l t
  have hok := adv_ok l t h.ok ht
  have hlen := h.len
  refine ⟨hok.1, ?_, ?_, adv_hd l t, by omega, ?_⟩
  · show ((adv t l).1 ++ (adv t l).2.map (·.1)).Nodup
    rw [← hk]; exact h.nd
  · show ∀ k ∈ (adv t l).1 ++ (adv t l).2.map (·.1), _
    rw [← hk]; exact h.w
  · show ∀ k ∈ (adv t l).1 ++ (adv t l).2.map (·.1), _
    rw [← hk]; exact h.per
theorem adv14 {left : Int} {ids : List Int} {is : Sl} (Q : Value → Hp → Prop) (os : List (Int × Int)) (hos : os.length + ids.length ≤ 100000000)
    (next : ∀ (o : Sl) (l' : DL) (h : Hp), l' = agn per ids l → TI l' per → Sep h0 h (aRow encP 2 o (os ++ ids.map fun k => (k, now)) :: aTm tb l' per (keysL l') now :: R) → K_timers_Timers_Advance_5 (some ⟨tb, 0, none⟩) o left h Q) :
    ∀ (e k : Nat) (o : Sl) (l1 : DL) (h : Hp), k + e = ids.length → agn per (ids.drop k) l1 = agn per ids l → TJ per (ids.drop k) l1 → Sep h0 h (aRow encP 2 o (os ++ (ids.take k).map fun k => (k, now)) :: aRow encI 1 is ids :: aTm tb l1 per (ids.drop k ++ keysL l1) now :: R) →
    K_timers_Timers_Advance_14 (some ⟨tb, 0, none⟩) o left is (is.n : Int) (k : Int) h Q
  | 0, k, o, l1, h, hk, hl, hJ, hs => by
    have hin := hs.rowLen 1 rfl
    apply S_timers_Timers_Advance_14
    unfold B_timers_Timers_Advance_14
    refine mIf_neg (by simp; omega) ?_
    rw [List.drop_of_length_le (by omega)] at hl hJ hs
    rw [List.take_of_length_le (by omega)] at hs
    exact next o l1 h hl hJ.done (hs.reT 3 [1, 0, 2] rfl (by simp)).drop
  | e + 1, k, o, l1, h, hk, hl, hJ, hs => by
    have ih := adv14 (is := is) Q os hos next e (k + 1)
    have hin := hs.rowLen 1 rfl
    have hkl : k < ids.length := by omega
    have hdc := List.drop_eq_getElem_cons hkl
    rw [hdc] at hl hJ hs
    have hJ2 := hJ.step
    have hper := hJ.per ids[k] (by rw [List.cons_append]; exact List.mem_cons_self)
    have hlen := hJ.len
    apply S_timers_Timers_Advance_14
    unfold B_timers_Timers_Advance_14
    refine mIf_pos (by simp; omega) ?_
    refine hs.idx 1 rfl (by omega) (by omega) fun a ha => ?_
    simp only [Int.toNat_natCast] at ha
    refine hs.rldI0 1 rfl (fun _ => rfl) ha (List.getElem?_eq_getElem hkl) rfl ?_
    obtain ⟨d, g, n, hs2⟩ := aTm_iff.1 (hs.reT 3 [2, 0, 1] rfl (by simp))
    rw [mNil_some, add_mk]
    refine hs2.ldI 0 rfl rfl ?_
    have hs3 : Sep h0 h (aTm tb l1 per (ids[k] :: (ids.drop (k + 1) ++ keysL l1)) now :: aRow encP 2 o (os ++ (ids.take k).map fun k => (k, now)) :: aRow encI 1 is ids :: R) := hs.reT 3 [2, 0, 1] rfl (by simp)
    refine Sep.new hs3 fun nb h hs => ?_
    refine hs.app1 2 0 (ids[k], now) rfl rfl (fun _ => rfl) (encP_one _) rfl (by omega) (by simp; omega) fun o' h _ hs => ?_
    simp only [List.set_cons_zero, List.set_cons_succ] at hs
    have hs := hs.drop
    rw [mBind_ap]
    refine (again_s (pend := ids.drop (k + 1)) hJ.ok (by omega) (by have := hJ.nd; rwa [List.cons_append] at this) hper hs).mono ?_
    rintro v h ⟨rfl, hs⟩
    rw [wrap64 ((k : Int) + 1) (by omega), show ((k : Int) + 1) = ((k + 1 : Nat) : Int) by omega]
    have hs := hs.reT 3 [1, 2, 0] rfl (by simp)
    refine ih o' _ h (by omega) (by rw [← hl]; rfl) hJ2 ?_
    rw [List.take_succ_eq_append_getElem hkl, List.map_append, ← List.append_assoc]
    exact hs
theorem adv5 : ∀ (left : Nat) (l : DL) (now : Int) (o : Sl) (os : List (Int × Int)) (h : Hp), TI l per → 0 ≤ now → now + left ≤ 1000000000 → os.length + 200 * left ≤ 10000000 → Sep h0 h (aRow encP 2 o os :: aTm tb l per (keysL l) now :: R) →
    K_timers_Timers_Advance_5 (some ⟨tb, 0, none⟩) o (left : Int) h (fun v h' => ∃ (o' : Sl) (l' : DL), v = .slice o'.p o'.n o'.c ∧ TI l' per ∧ rowsT (now + left) l' per = tkN left now (rowsT now l per) ∧ (∀ k ∈ keysL l', k ∈ keysL l) ∧
      Sep h0 h' (aRow encP 2 o' (os ++ otN left now (rowsT now l per)) :: aTm tb l' per (keysL l') (now + left) :: R)) := by
  intro left
  induction left using Nat.strongRecOn with
  | ind left ih =>
    intro l now o os h hI h0n hb hos hs
    have hs0 := hs
    obtain ⟨d, g, n, hs⟩ := aTm_iff.1 hs.swap
    apply S_timers_Timers_Advance_5
    unfold B_timers_Timers_Advance_5
    by_cases h0l : left = 0
    · subst h0l
      refine mIf_neg rfl ?_
      refine ⟨o, l, rfl, hI, by simp [tkN], fun k hk => hk, ?_⟩
      rw [show otN 0 now (rowsT now l per) = [] from rfl, List.append_nil, show now + ((0 : Nat) : Int) = now by omega]
      exact hs0
    · refine mIf_pos (by simp; omega) ?_
      (simp only [mNil_some, add_mk, Nat.zero_add]; refine Sep.ldP hs 0 rfl rfl ?_; simp only [mBind_ap])
      have hs := hs.reT 4 [1, 0, 2, 3] rfl (by simp)
      refine (Next_s hs).mono ?_
      rintro v h' ⟨rfl, rfl⟩
      unfold nextV
      simp only [un2_tuple, unI_int, unB_bool]
      have hge := abs_ge l now hI.ok.gap
      by_cases hq : l = [] ∨ (left : Int) < (l.headD (0, 0)).2
      · -- nobody runs out
        have hall : ∀ r ∈ rowsT now l per, now + (left : Nat) < r.due := by
          rcases hq with rfl | hq
          · intro r hr; simp [rowsT, absF] at hr
          · cases l with
            | nil => intro r hr; simp [rowsT, absF] at hr
            | cons p q =>
              obtain ⟨pk, pg⟩ := p
              have hq : (left : Int) < pg := hq
              intro r hr
              unfold rowsT at hr
              obtain ⟨x, hx, rfl⟩ := List.mem_map.1 hr
              show now + (left : Int) < x.2
              rcases List.mem_cons.1 hx with hx | hx
              · rw [hx]; show now + (left : Int) < now + pg; omega
              · have := abs_ge q (now + pg) (fun p hp => hI.ok.gap p (by simp [hp])) x hx
                omega
        obtain ⟨q1, q2⟩ := quiet left now _ hall
        have hadv := rows_adv per l now (now + left) hI.ok.gap (fun x hx => by
          have := hall ⟨x.1, x.2, per x.1⟩ (List.mem_map.2 ⟨x, hx, rfl⟩)
          have h2 : now + (left : Int) < x.2 := this
          omega)
        rw [show now + (left : Int) - now = (left : Int) by omega] at hadv
        have hfired : firedT (now + left) (rowsT now l per) = [] := by
          unfold firedT
          cases hr : rowsT now l per with
          | nil => rfl
          | cons r rs =>
            have := hall r (by rw [hr]; simp)
            rw [List.takeWhile_cons]
            simp [isDue]
            omega
        have hrest : restT (now + left) (rowsT now l per) = rowsT now l per := by
          have h1 := List.takeWhile_append_dropWhile (p := isDue (now + left)) (l := rowsT now l per)
          have h2 : List.takeWhile (isDue (now + left)) (rowsT now l per) = [] := hfired
          rw [h2] at h1
          exact h1
        rw [hrest] at hadv
        have hids : (adv (left : Int) l).1 = [] := by
          have := hadv.1
          rw [hfired] at this
          exact List.map_eq_nil_iff.1 this.symm
        refine mIf_pos (by rcases hq with rfl | hq; rfl; rw [Bool.or_eq_true]; right; exact decide_eq_true hq) ?_
        refine hs.ldP 1 rfl rfl ?_
        rw [mBind_ap]
        refine (Advance_s (t := (left : Int)) (by omega) hI.ok (by have := hI.len; omega) hs).mono ?_
        rintro v h ⟨ox, rfl, hs⟩
        simp only [unL_slice, mNil_some, add_mk, Nat.zero_add]
        refine hs.ldI 2 rfl rfl ?_
        rw [wrap64 (now + (left : Int)) (by omega)]
        refine hs.st 2 rfl rfl rfl fun h hs => ?_
        have hJ := hI.after (t := (left : Int)) (by omega)
        rw [hids] at hJ
        refine ⟨o, (adv (left : Int) l).2, rfl, hJ.done, ?_, ?_, ?_⟩
        · rw [q1, ← hadv.2]
        · intro k hk
          have := adv_keys l (left : Int)
          rw [hids, List.nil_append] at this
          show k ∈ l.map (·.1)
          rw [this]; exact hk
        · rw [q2, List.append_nil]
          refine Sep.swap (aTm_congr (S := keysL l) (fun k => ?_) (fun _ _ => rfl) (aTm_iff.2 ⟨d, g, n, ?_⟩))
          · have := adv_keys l (left : Int)
            rw [hids, List.nil_append] at this
            show k ∈ l.map (·.1) ↔ _
            rw [this]
          · exact (hs.reT 5 [0, 2, 1, 3, 4] rfl (by simp)).drop
      · -- the first ones run out
        have hne : l ≠ [] := fun h => hq (.inl h)
        have hle : (l.headD (0, 0)).2 ≤ (left : Int) := by
          have : ¬ (left : Int) < (l.headD (0, 0)).2 := fun h => hq (.inr h)
          omega
        have hlp : 0 < l.length := List.length_pos_iff.2 hne
        have hhd : 1 ≤ (l.headD (0, 0)).2 := by
          cases l with
          | nil => exact absurd rfl hne
          | cons p q => obtain ⟨pk, pg⟩ := p; exact hI.hd
        generalize hN : (l.headD (0, 0)).2 = N at *
        have hmin : ∀ x ∈ absF now l, now + N ≤ x.2 := by
          cases l with
          | nil => exact absurd rfl hne
          | cons p q =>
            obtain ⟨pk, pg⟩ := p
            have hN : pg = N := hN
            intro x hx
            rcases List.mem_cons.1 hx with hx | hx
            · rw [hx]; show now + N ≤ now + pg; omega
            · have := abs_ge q (now + pg) (fun p hp => hI.ok.gap p (by simp [hp])) x hx
              omega
        obtain ⟨m, rfl⟩ : ∃ m : Nat, N = (m : Int) + 1 := ⟨(N - 1).toNat, by omega⟩
        obtain ⟨q1, q2⟩ := quiet m now (rowsT now l per) (fun r hr => by
          unfold rowsT at hr
          obtain ⟨x, hx, rfl⟩ := List.mem_map.1 hr
          have := hmin x hx
          show now + (m : Int) < x.2
          omega)
        have hadv := rows_adv per l now (now + ((m : Int) + 1)) hI.ok.gap hmin
        rw [show now + ((m : Int) + 1) - now = (m : Int) + 1 by omega] at hadv
        refine mIf_neg (by simp; omega) ?_
        refine hs.ldP 1 rfl rfl ?_
        rw [mBind_ap]
        refine (Advance_s (t := (m : Int) + 1) (by omega) hI.ok (by have := hI.len; omega) hs).mono ?_
        rintro v h ⟨ox, rfl, hs⟩
        simp only [unL_slice, mNil_some, add_mk, Nat.zero_add]
        refine hs.ldI 2 rfl rfl ?_
        rw [wrap64 (now + ((m : Int) + 1)) (by omega), wrap64 ((left : Int) - ((m : Int) + 1)) (by omega)]
        refine hs.st 2 rfl rfl rfl fun h hs => ?_
        have hJ := hI.after (t := (m : Int) + 1) (by omega)
        have hkeys := adv_keys l ((m : Int) + 1)
        have hJl := hJ.len
        have hleft : ((left : Int) - ((m : Int) + 1)) = ((left - (m + 1) : Nat) : Int) := by omega
        have hs : Sep h0 h (aTm tb (adv ((m : Int) + 1) l).2 per ((adv ((m : Int) + 1) l).1 ++ keysL (adv ((m : Int) + 1) l).2) (now + ((m : Int) + 1)) :: aRow encI 1 ox (adv ((m : Int) + 1) l).1 :: aRow encP 2 o os :: R) := by
          refine aTm_congr (S := keysL l) (fun k => ?_) (fun _ _ => rfl) (aTm_iff.2 ⟨d, g, n, ?_⟩)
          · show k ∈ l.map (·.1) ↔ _
            rw [hkeys]
          · exact hs.reT 5 [2, 1, 3, 0, 4] rfl (by simp)
        rw [hleft]
        generalize hids : (adv ((m : Int) + 1) l).1 = ids at *
        generalize hl2 : (adv ((m : Int) + 1) l).2 = l2 at *
        -- a tick, and the rest
        have htick : tickT (now + ((m : Int) + 1)) (rowsT now l per) = rowsT (now + ((m : Int) + 1)) (agn per ids l2) per := by
          unfold tickT
          rw [hadv.1, hadv.2, agn_rows]
        have hout : outT (now + ((m : Int) + 1)) (rowsT now l per) = ids.map fun k => (k, now + ((m : Int) + 1)) := by
          unfold outT
          rw [hadv.1, List.map_map]
          rfl
        have htk1 : tkN (m + 1) now (rowsT now l per) = rowsT (now + ((m : Int) + 1)) (agn per ids l2) per := by
          rw [tkN_add m 1, q1]
          show tickT (now + (m : Int) + 1) _ = _
          rw [show now + (m : Int) + 1 = now + ((m : Int) + 1) by omega]
          exact htick
        have hot1 : otN (m + 1) now (rowsT now l per) = ids.map fun k => (k, now + ((m : Int) + 1)) := by
          rw [otN_add m 1, q1, q2, List.nil_append]
          show outT (now + (m : Int) + 1) _ ++ [] = _
          rw [List.append_nil, show now + (m : Int) + 1 = now + ((m : Int) + 1) by omega]
          exact hout
        have hspl : left = (m + 1) + (left - (m + 1)) := by omega
        have hon : (now + ((m : Int) + 1) + ((left - (m + 1) : Nat) : Int)) = now + (left : Int) := by omega
        refine adv14 (l := l2) (per := per) (now := now + ((m : Int) + 1)) (ids := ids) (is := ox) _ os (by omega) (fun o' l' h hl' hI' hs => ?_) ids.length 0 o l2 h (Nat.zero_add _) rfl hJ (by simpa using hs.reT 3 [2, 1, 0] rfl (by simp))
        have := ih (left - (m + 1)) (by omega) l' (now + ((m : Int) + 1)) o' (os ++ ids.map fun k => (k, now + ((m : Int) + 1))) h hI' (by omega) (by omega) (by simp; omega) hs
        refine this.mono ?_
        rintro v h ⟨o2, l3, rfl, hI3, hr3, hk3, hs⟩
        refine ⟨o2, l3, rfl, hI3, ?_, ?_, ?_⟩
        · rw [← hon, hr3]
          conv => rhs; rw [hspl, tkN_add (m + 1), htk1]
          rw [hl']
          congr 1
          skip
        · intro k hk
          have h1 := hk3 k hk
          rw [hl'] at h1
          have hmem : ∀ (ids : List Int) (l : DL), ∀ k ∈ keysL (agn per ids l), k ∈ ids ++ keysL l := by
            intro ids
            induction ids with
            | nil => intro l k hk; exact hk
            | cons id is ihm =>
              intro l k hk
              have := ihm _ k hk
              rw [List.mem_append] at this
              rw [List.cons_append, List.mem_cons, List.mem_append]
              rcases this with h | h
              · exact .inr (.inl h)
              · split at h
                · rcases List.mem_cons.1 ((ins_keys id l (per id)).mem_iff.1 h) with h | h
                  · exact .inl h
                  · exact .inr (.inr h)
                · exact .inr (.inr h)
          have h2 := hmem ids l2 k h1
          show k ∈ l.map (·.1)
          rw [hkeys]; exact h2
        · rw [hon, List.append_assoc] at hs
          rw [show otN left now (rowsT now l per) = (ids.map fun k => (k, now + ((m : Int) + 1))) ++ otN (left - (m + 1)) (now + ((m : Int) + 1)) (rowsT (now + ((m : Int) + 1)) l' per) by
            conv => lhs; rw [hspl, otN_add (m + 1), hot1, htk1]
            rw [hl']
            congr 2
            skip]
          exact hs
def clampT (t : Int) : Nat := (min (max t 0) 4096).toNat
theorem tAdvance_s {t : Int} (hI : TI l per) (h0n : 0 ≤ now ∧ now ≤ 100000000) (hs : Sep h0 h (aTm tb l per (keysL l) now :: R)) : N_timers_Timers_Advance (some ⟨tb, 0, none⟩) t h (fun v h' => ∃ (o' : Sl) (l' : DL), v = .slice o'.p o'.n o'.c ∧ TI l' per ∧ rowsT (now + (clampT t : Nat)) l' per = tkN (clampT t) now (rowsT now l per) ∧ (∀ k ∈ keysL l', k ∈ keysL l) ∧
      Sep h0 h' (aRow encP 2 o' (otN (clampT t) now (rowsT now l per)) :: aTm tb l' per (keysL l') (now + (clampT t : Nat)) :: R)) := by
  apply S_timers_Timers_Advance
  unfold B_timers_Timers_Advance
  refine mIf_neg rfl ?_
  have e : (if (4096 : Int) < (if (0 : Int) > t then (0 : Int) else t) then (4096 : Int) else (if (0 : Int) > t then (0 : Int) else t)) = ((clampT t : Nat) : Int) := by
    unfold clampT
    split <;> split <;> omega
  have hc : clampT t ≤ 4096 := by unfold clampT; omega
  rw [e]
  have := adv5 (clampT t) l now ⟨none, 0, 0⟩ [] h hI h0n.1 (by omega) (by simp; omega) (hs.nilRow encP 2)
  refine this.mono ?_
  rintro v h ⟨o, l', rfl, h1, h2, h3, hs⟩
  exact ⟨o, l', rfl, h1, h2, h3, by simpa using hs⟩
end
end Go.Proofs.Ytinjifhjjkdmoaa
