/- Configurations as bytes: what is read of what is written, and the other way round; a byte that is turned. Conditions: none. -/
import Derived.Test.YtimpaammdmeocaaCodeP
import Derived.Test.YtimpaammdmeocaaSbW
namespace Go.Sb
open Go
set_option linter.unusedSimpArgs false
set_option linter.unusedVariables false
theorem numZs_app (a b : List Int) : numZs (a ++ b) = numZs a ++ numZs b := by simp [numZs]
theorem encOps_ok : ∀ (l : List POp) (b : List Int), (∀ o ∈ l, okO o) → encOps b l = b ++ opsZ l
  | [], b, _ => by simp [encOps, opsZ]
  | o :: l, b, h => by
    have ho := h o (by simp)
    show encOps (wrL b [o.k, o.a, o.b]) l = _
    rw [encOps_ok l _ fun m hm => h m (by simp [hm]), wrL_ok _ b (by
      intro n hn
      simp at hn
      rcases hn with rfl | rfl | rfl
      · exact ho.1
      · exact ho.2.1
      · exact ho.2.2)]
    simp [opsZ]
theorem encTask_ok {t : PTask} (b : List Int) (h : okT t) : encTask b t = b ++ taskZ t := by
  obtain ⟨h1, h2, h3⟩ := h
  unfold encTask
  rw [encOps_ok _ _ h2, wrL_ok _ b (by
    intro n hn
    have : n ∈ [t.pr, t.th, t.pe, t.de, t.fr, t.fl] ∨ n = (t.ops.length : Int) := by simp at hn ⊢; omega
    rcases this with h | rfl
    · exact h1 n h
    · exact ⟨by omega, by omega⟩)]
  unfold taskZ
  rw [show [t.pr, t.th, t.pe, t.de, t.fr, t.fl, (t.ops.length : Int)] = [t.pr, t.th, t.pe, t.de, t.fr, t.fl] ++ [(t.ops.length : Int)] from rfl, numZs_app]
  simp [numZs]
theorem encTasks_ok : ∀ (l : List PTask) (b : List Int), (∀ o ∈ l, okT o) → l.foldl encTask b = b ++ tasksZ l
  | [], b, _ => by simp [tasksZ]
  | t :: l, b, h => by
    rw [List.foldl_cons, encTasks_ok l _ fun m hm => h m (by simp [hm]), encTask_ok b (h t (by simp))]
    simp [tasksZ]
theorem wrList_ok (b l : List Int) (h : ∀ n ∈ l, okN n) (hl : l.length ≤ 1000) : wrList b l = b ++ encL l := by
  unfold wrList encL
  rw [wrL_ok _ b (by
    intro n hn
    rcases List.mem_cons.1 hn with rfl | hn
    · exact ⟨by omega, by omega⟩
    · exact h n hn)]
  simp [numZs]
theorem encBody_ok {C : PCfg} (h : okC C) : encBody C = [83, 66] ++ bodyZ C := by
  obtain ⟨l1, l2, l3, l4, l5⟩ := h.lens
  unfold encBody bodyZ
  rw [wrList_ok _ _ h.lines l5, encTasks_ok _ _ h.tasks, wrN_ok (n := (C.tasks.length : Int)) ⟨by omega, by omega⟩, wrList_ok _ _ h.ceils l3, wrList_ok _ _ h.counts l2, wrN_ok h.groups, wrList_ok _ _ h.mail l1, wrL_ok _ _ h.m]
  simp [List.append_assoc]
theorem inB_ok {n a b : Int} (h : inB n a b = true) (ha : 0 ≤ a) (hb : b ≤ 2147483647) : okN n := by
  unfold inB at h
  simp at h
  exact ⟨by omega, by omega⟩
theorem allB_ok {l : List Int} {a b : Int} (h : allB l a b = true) (ha : 0 ≤ a) (hb : b ≤ 2147483647) : ∀ n ∈ l, okN n := by
  unfold allB at h
  rw [List.all_eq_true] at h
  exact fun n hn => inB_ok (h n hn) ha hb
theorem opE_ok {o : POp} {bx gr ct ce : Int} (h1 : 0 ≤ bx ∧ bx ≤ 1000) (h2 : 0 ≤ gr ∧ gr ≤ 1000) (h3 : 0 ≤ ct ∧ ct ≤ 1000) (h4 : 0 ≤ ce ∧ ce ≤ 1000) (h : opE o bx gr ct ce = 0) : okO o := by
  unfold opE at h
  split at h
  · cases h
  · rename_i hn
    have hk : 1 ≤ o.k ∧ o.k ≤ 15 := by
      unfold numsOf at hn
      split at hn
      · omega
      · split at hn
        · omega
        · split at hn <;> omega
    split at h
    · rename_i hab
      rw [Bool.and_eq_true] at hab
      refine ⟨⟨by omega, by omega⟩, ?_, ?_⟩
      · have ha := hab.1
        unfold opA at ha
        repeat' split at ha
        all_goals first
          | exact inB_ok ha (by omega) (by omega)
          | (rw [wrap64 _ (by omega)] at ha; exact inB_ok ha (by omega) (by omega))
          | (have := eq_of_beq ha; exact ⟨by omega, by omega⟩)
      · have hb := hab.2
        unfold opB at hb
        split at hb
        · exact inB_ok hb (by omega) (by omega)
        · have := eq_of_beq hb
          exact ⟨by omega, by omega⟩
    · cases h
theorem progF_opE {bx gr ct ce : Int} : ∀ (l : List POp) (s : NSt), progF bx gr ct ce s l = 0 → ∀ o ∈ l, opE o bx gr ct ce = 0
  | [], s, h, o, ho => by cases ho
  | q :: l, s, h, o, ho => by
    unfold progF at h
    by_cases hq : opE q bx gr ct ce = 0
    · rw [if_neg (by simpa using hq)] at h
      cases hn : nstep s q with
      | none => rw [hn] at h; cases h
      | some s' =>
        rw [hn] at h
        rcases List.mem_cons.1 ho with rfl | ho
        · exact hq
        · exact progF_opE l s' h o ho
    · rw [if_pos hq] at h
      exact absurd h hq
theorem tasksE_mem {C : PCfg} : ∀ (l : List PTask) (k : Nat), tasksE C k l = 0 → ∀ t ∈ l, ∃ j, taskE C t (C.tasks.take j) = 0
  | [], k, h, t, ht => by cases ht
  | q :: l, k, h, t, ht => by
    unfold tasksE at h
    split at h
    · rename_i hq; exact absurd h hq
    · rename_i hq
      rcases List.mem_cons.1 ht with rfl | ht
      · exact ⟨k, by simpa using hq⟩
      · exact tasksE_mem l (k + 1) h t ht
theorem check_parts {C : PCfg} (h : checkN C = 0) : machB C = true ∧ manyB C = false ∧ 0 < C.tasks.length ∧ 0 ≤ C.groups ∧ rowsB C = true ∧ tasksE C 0 C.tasks = 0 := by
  unfold checkN at h
  split at h
  · cases h
  · rename_i h1
    split at h
    · cases h
    · rename_i h2
      split at h
      · cases h
      · rename_i h3
        split at h
        · cases h
        · rename_i h4
          exact ⟨by simpa using h1, by simpa using h2, by omega, by omega, by simpa using h4, h⟩
theorem check_ok {C : PCfg} (h : checkN C = 0) : okC C := by
  obtain ⟨h1, h2, h3, h4, h5, h6⟩ := check_parts h
  unfold manyB at h2
  simp only [Bool.or_eq_false_iff, decide_eq_false_iff_not] at h2
  unfold machB at h1
  simp only [Bool.and_eq_true] at h1
  unfold rowsB at h5
  simp only [Bool.and_eq_true] at h5
  have hhit : C.hit ≤ 100 ∧ 1 ≤ C.hit := by have := h1.1.2; unfold inB at this; simp at this; omega
  refine ⟨?_, allB_ok h5.1.1.1 (by omega) (by omega), ⟨h4, by omega⟩, allB_ok h5.1.1.2 (by omega) (by omega), allB_ok h5.1.2 (by omega) (by omega), ?_, allB_ok h5.2 (by omega) (by omega), by omega⟩
  · intro n hn
    simp at hn
    rcases hn with rfl | rfl | rfl | rfl
    · exact inB_ok h1.1.1.1 (by omega) (by omega)
    · exact inB_ok h1.1.1.2 (by omega) (by omega)
    · exact inB_ok h1.1.2 (by omega) (by omega)
    · exact inB_ok h1.2 (by omega) (by omega)
  · intro t ht
    obtain ⟨j, hj⟩ := tasksE_mem _ _ h6 t ht
    unfold taskE at hj
    split at hj
    · cases hj
    · rename_i hn
      have hn : taskN t = true := by simpa using hn
      unfold taskN at hn
      simp only [Bool.and_eq_true] at hn
      obtain ⟨⟨⟨⟨⟨n1, n2⟩, n3⟩, n4⟩, n5⟩, n6⟩ := hn
      have b1 := inB_ok n1 (by omega) (by omega)
      have b3 := inB_ok n3 (by omega) (by omega)
      have p1 : t.pe ≤ 1048576 := by unfold inB at n3; simp at n3; omega
      have b4 : okN t.de := inB_ok n4 (by omega) (by omega)
      have b2 : okN t.th := by unfold okN at b1; exact inB_ok n2 b1.1 (by omega)
      simp only at hj
      split at hj
      · rename_i hz; exact absurd hj hz
      · rename_i hz
        have hz : progE t.ops C.mail.length C.groups C.counts.length C.ceils.length = 0 := by simpa using hz
        unfold progE at hz
        split at hz
        · cases hz
        · split at hz
          · cases hz
          · rename_i hl
            refine ⟨?_, fun o ho => opE_ok (by omega) (by omega) (by omega) (by omega) (progF_opE _ _ hz o ho), by omega⟩
            intro n hn
            simp at hn
            rcases hn with rfl | rfl | rfl | rfl | rfl | rfl
            · exact b1
            · exact b2
            · exact b3
            · exact b4
            · exact inB_ok n5 (by omega) (by omega)
            · exact inB_ok n6 (by omega) (by omega)
theorem parse_enc {C : PCfg} (h : checkN C = 0) : parseC (encCfg C) = (C, 0) := by
  have hc := check_ok h
  unfold parseC encCfg
  rw [if_neg]
  · rw [List.dropLast_concat, encBody_ok hc]
    have e : begO ([83, 66] ++ bodyZ C) = (bodyZ C, false) := by
      unfold begO
      rw [if_pos (by simp)]
      rfl
    rw [e, cfg_fwd hc]
    simp only [Bool.false_or, List.length_nil, Nat.lt_irrefl, decide_false, Bool.false_eq_true, if_false]
    rw [if_neg (by simpa using h)]
  · rw [List.dropLast_concat]
    simp
theorem enc_parse {raw : List Int} {d : PCfg} (hb : isB raw) (hl : raw.length ≤ 1000000) (h : parseC raw = (d, 0)) : checkN d = 0 ∧ encCfg d = raw := by
  unfold parseC at h
  split at h
  · cases h
  · rename_i h0
    simp only at h
    split at h
    · cases h
    · rename_i h1
      split at h
      · rename_i h2
        have := congrArg Prod.snd h
        exact absurd this h2
      · rename_i h2
        cases h
        have h2 : checkN (cCfg (begO raw.dropLast)).1 = 0 := by simpa using h2
        refine ⟨h2, ?_⟩
        simp only [Bool.or_eq_true, decide_eq_true_eq, not_or] at h1
        have hdl : isB raw.dropLast := fun z hz => hb z (by rw [List.dropLast_eq_take] at hz; exact List.mem_of_mem_take hz)
        have hbo : isB (begO raw.dropLast).1 := by
          unfold begO
          split
          · exact isB_drop hdl 2
          · exact hdl
        have hlo : (begO raw.dropLast).1.length ≤ 1000000 := by
          unfold begO
          split
          · simp; omega
          · simp; omega
        obtain ⟨i1, i2⟩ := cfg_inv hbo hlo (by simpa using h1.1)
        have hnil : (cCfg (begO raw.dropLast)).2.1 = [] := List.length_eq_zero_iff.1 (by omega)
        rw [hnil, List.append_nil] at i2
        have hbody : raw.dropLast = [83, 66] ++ bodyZ (cCfg (begO raw.dropLast)).1 := by
          rw [← i2]
          unfold begO at i1 ⊢
          split
          · rename_i hh
            rw [← hh]
            simp only [List.take_append_drop]
          · rename_i hh
            rw [if_neg hh] at i1
            cases i1
        unfold encCfg
        rw [encBody_ok (check_ok h2), ← hbody]
        have hne : raw ≠ [] := by intro e; rw [e] at h0; simp at h0
        have hlast : sumB raw.dropLast = raw.getLast hne := by
          have : ¬ sumB raw.dropLast ≠ raw.getLastD 0 := fun e => h0 (.inr e)
          have h3 : sumB raw.dropLast = raw.getLastD 0 := by simpa using this
          rw [h3, List.getLastD_eq_getLast?, List.getLast?_eq_some_getLast hne]
          rfl
        rw [hlast]
        exact List.dropLast_concat_getLast hne
theorem parse_bad {raw : List Int} (h : (parseC raw).2 ≠ 0) : (parseC raw).1 = c0Cfg := by
  unfold parseC at h ⊢
  split
  · rfl
  · rename_i h0
    rw [if_neg h0] at h
    simp only at h ⊢
    split
    · rfl
    · rename_i h1
      rw [if_neg h1] at h
      split
      · rfl
      · rename_i h2
        rw [if_neg h2] at h
        exact absurd rfl h
theorem foldl_sum : ∀ (l : List Int) (a : Int), l.foldl (· + ·) a = a + l.foldl (· + ·) 0
  | [], a => by simp
  | x :: l, a => by
    rw [List.foldl_cons, List.foldl_cons, foldl_sum l (a + x), foldl_sum l (0 + x)]
    omega
theorem sum_set : ∀ (l : List Int) (i : Nat) (hi : i < l.length) (v : Int), (l.set i v).foldl (· + ·) 0 = l.foldl (· + ·) 0 - l[i] + v
  | [], i, hi, v => by simp at hi
  | x :: l, 0, hi, v => by
    simp only [List.set_cons_zero, List.foldl_cons, List.getElem_cons_zero]
    rw [foldl_sum l (0 + v), foldl_sum l (0 + x)]
    omega
  | x :: l, i + 1, hi, v => by
    simp only [List.set_cons_succ, List.foldl_cons, List.getElem_cons_succ]
    rw [foldl_sum _ (0 + x), foldl_sum l (0 + x), sum_set l i (by simpa using hi) v]
    omega
theorem sumB_ge (l : List Int) : 0 ≤ sumB l ∧ sumB l < 251 := by unfold sumB; omega
/-- one byte of a configuration's turned: no text of one -/
theorem parse_turned {C : PCfg} {i : Nat} (hi : i < (encCfg C).length) {v : Int} (hv : 0 ≤ v ∧ v ≤ 255) (hb : isB (encCfg C)) (h0 : (encCfg C)[i] - v ≠ 0) (h1 : (encCfg C)[i] - v ≠ 251) (h2 : (encCfg C)[i] - v ≠ -251) : (parseC ((encCfg C).set i v)).2 = 2 := by
  have hbi := hb _ (List.getElem_mem hi)
  unfold parseC
  rw [if_pos]
  unfold encCfg at *
  by_cases hl : i < (encBody C).length
  · right
    rw [List.getElem_append_left hl] at h0 h1 h2 hbi
    rw [List.set_append_left _ _ hl, List.dropLast_concat, List.getLastD_concat]
    unfold sumB
    rw [sum_set _ _ hl]
    omega
  · right
    have : i = (encBody C).length := by simp at hi; omega
    subst this
    rw [List.getElem_append_right (Nat.le_refl _)] at h0
    simp only [Nat.sub_self, List.getElem_cons_zero] at h0
    rw [List.set_append_right _ _ (Nat.le_refl _)]
    simp only [Nat.sub_self, List.set_cons_zero]
    rw [List.dropLast_concat, List.getLastD_concat]
    omega
theorem numZs_B : ∀ l : List Int, (∀ n ∈ l, okN n) → isB (numZs l)
  | [], _ => by intro z hz; cases hz
  | n :: l, h => by
    intro z hz
    have hn := h n (by simp)
    unfold okN at hn
    simp only [numZs, List.flatMap_cons] at hz
    rcases List.mem_append.1 hz with hz | hz
    · exact numF_B 4 n.toNat (by omega) z hz
    · exact numZs_B l (fun m hm => h m (by simp [hm])) z hz
theorem isB_app {a b : List Int} (ha : isB a) (hb : isB b) : isB (a ++ b) := fun z hz => (List.mem_append.1 hz).elim (ha z) (hb z)
theorem wrN_B {b : List Int} (n : Int) (hb : isB b) : isB (wrN b n) := by
  unfold wrN
  split
  · exact hb
  · exact isB_app hb (numF_B 4 n.toNat (by omega))
theorem wrL_B : ∀ (l : List Int) (b : List Int), isB b → isB (wrL b l)
  | [], b, h => h
  | n :: l, b, h => wrL_B l _ (wrN_B n h)
theorem encOps_B : ∀ (l : List POp) (b : List Int), isB b → isB (encOps b l)
  | [], b, h => h
  | o :: l, b, h => encOps_B l _ (wrL_B _ _ h)
theorem encTasks_B : ∀ (l : List PTask) (b : List Int), isB b → isB (l.foldl encTask b)
  | [], b, h => h
  | t :: l, b, h => encTasks_B l _ (encOps_B _ _ (wrL_B _ _ h))
theorem encBody_B (C : PCfg) : isB (encBody C) := by
  unfold encBody wrList
  refine wrL_B _ _ (encTasks_B _ _ (wrN_B _ (wrL_B _ _ (wrL_B _ _ (wrN_B _ (wrL_B _ _ (wrL_B _ _ ?_)))))))
  intro z hz
  simp at hz
  omega
theorem encCfg_B (C : PCfg) : isB (encCfg C) := by
  unfold encCfg
  refine isB_app (encBody_B C) ?_
  intro z hz
  simp at hz
  have := sumB_ge (encBody C)
  omega
theorem wrN_len (b : List Int) (n : Int) : (wrN b n).length ≤ b.length + 5 := by
  unfold wrN
  split
  · omega
  · have := (numF_len 4 n.toNat).1
    simp [numZ]; omega
theorem wrL_len : ∀ (l : List Int) (b : List Int), (wrL b l).length ≤ b.length + 5 * l.length
  | [], b => by simp [wrL]
  | n :: l, b => by
    have h1 := wrL_len l (wrN b n)
    have h2 := wrN_len b n
    show (wrL (wrN b n) l).length ≤ _
    rw [List.length_cons]
    omega
theorem encOps_len : ∀ (l : List POp) (b : List Int), (encOps b l).length ≤ b.length + 15 * l.length
  | [], b => by simp [encOps]
  | o :: l, b => by
    have h1 := encOps_len l (wrL b [o.k, o.a, o.b])
    have h2 := wrL_len [o.k, o.a, o.b] b
    show (encOps (wrL b [o.k, o.a, o.b]) l).length ≤ _
    simp only [List.length_cons, List.length_nil] at h2 ⊢
    omega
theorem encTasks_len {m : Nat} : ∀ (l : List PTask) (b : List Int), (∀ t ∈ l, t.ops.length ≤ m) → (l.foldl encTask b).length ≤ b.length + (35 + 15 * m) * l.length
  | [], b, _ => by simp
  | t :: l, b, h => by
    have h1 := encTasks_len l (encTask b t) fun q hq => h q (by simp [hq])
    have h2 := encOps_len t.ops (wrL b [t.pr, t.th, t.pe, t.de, t.fr, t.fl, (t.ops.length : Int)])
    have h3 := wrL_len [t.pr, t.th, t.pe, t.de, t.fr, t.fl, (t.ops.length : Int)] b
    have h4 := h t (by simp)
    have h5 : (encTask b t).length ≤ b.length + 35 + 15 * m := by
      unfold encTask
      simp only [List.length_cons, List.length_nil] at h3
      omega
    rw [List.foldl_cons, List.length_cons, Nat.mul_add, Nat.mul_one]
    omega
end Go.Sb
