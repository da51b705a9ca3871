/- The small logic is sound: regions whose order is open. Conditions: none. -/
import Derived.Test.YtbpnpmknamghkaaSbM
namespace Go.Sb
open Go

section draws
variable {P : Program} {ops : Array Oper}

theorem evOne_sound {i : Nat} {o : Oper} (hi : ops[i]? = some o) {env : Env} {a : Act} {w : World} {k : Env → M Value} {Q : Value → Hp → Prop} {next : Act → World → Prop} {Qx : Exit → Act → World → Prop}
    (hev : evOne P ops.toList o env k w.heap Q) (ha : Ag env a) (hn : ∀ env' a' w', Ag env' a' → Kept w w' → k env' w'.heap Q → next a' w') : wpOp P ops Qx i next a w := by
  unfold wpOp
  simp only [hi]
  unfold evOne at hev
  cases hg : o.guard with
  | none =>
    rw [hg] at hev
    have hw : Region.wanted o (yielded ops a.tmps) = true := by unfold Region.wanted; rw [hg]
    simp only [hw, if_true]
    exact .inl (evOp_sound hev ha fun v w' hk hv => hn _ _ _ (ha.put o.dst v) hk hv)
  | some g =>
    obtain ⟨j, want⟩ := g
    rw [hg] at hev
    simp only [] at hev
    have hwd : Region.wanted o (yielded ops a.tmps) = (yielded ops a.tmps j == some want) := by unfold Region.wanted; rw [hg]
    cases hj : guardSlot ops.toList j with
    | none => rw [hj] at hev; exact hev.elim
    | some c =>
      rw [hj] at hev
      simp only [] at hev
      cases hl : look env c with
      | none => rw [hl] at hev; exact hev.elim
      | some v =>
        rw [hl] at hev
        have hc := ha.at_ _ _ hl
        cases v <;> first | exact hev.elim | skip
        case tuple vs =>
          have hy : yielded ops a.tmps j = none := by
            unfold yielded; rw [guardSlot_eq hj, Option.bind_some, hc]
          have hw : Region.wanted o (yielded ops a.tmps) = false := by rw [hwd, hy]; rfl
          simp only [hw, Bool.false_eq_true, if_false]
          exact hn _ _ _ (ha.put o.dst undef) (.refl w) hev
        case bool b =>
          have hy := yielded_bool (tmps := a.tmps) hj hc
          rw [hy] at hwd
          simp only [] at hev
          have hset := ha.set hc
          cases want <;> cases b
          · have hw : Region.wanted o (yielded ops a.tmps) = true := by rw [hwd]; rfl
            simp only [hw, if_true]
            exact .inl (evOp_sound hev hset fun v w' hk hv => hn _ _ _ (hset.put o.dst v) hk hv)
          · have hw : Region.wanted o (yielded ops a.tmps) = false := by rw [hwd]; rfl
            simp only [hw, Bool.false_eq_true, if_false]
            exact hn _ _ _ (hset.put o.dst undef) (.refl w) hev
          · have hw : Region.wanted o (yielded ops a.tmps) = false := by rw [hwd]; rfl
            simp only [hw, Bool.false_eq_true, if_false]
            exact hn _ _ _ (hset.put o.dst undef) (.refl w) hev
          · have hw : Region.wanted o (yielded ops a.tmps) = true := by rw [hwd]; rfl
            simp only [hw, if_true]
            exact .inl (evOp_sound hev hset fun v w' hk hv => hn _ _ _ (hset.put o.dst v) hk hv)
theorem evEach_sound {env : Env} {k : Nat → Env → M Value} {h : Hp} {Q : Value → Hp → Prop} : ∀ (rs : List Nat), evEach P ops.toList env k rs h Q → ∀ i ∈ rs, ∃ o, ops[i]? = some o ∧ evOne P ops.toList o env (k i) h Q
  | [], hh => hh.elim
  | [i], hh => by
    simp only [evEach] at hh
    intro j hj
    simp only [List.mem_singleton] at hj
    subst hj
    cases ho : ops.toList[j]? with
    | none => rw [ho] at hh; exact hh.elim
    | some o => rw [ho] at hh; exact ⟨o, by rw [← Array.getElem?_toList]; exact ho, hh⟩
  | i :: i' :: is, hh => by
    simp only [evEach] at hh
    cases ho : ops.toList[i]? with
    | none => rw [ho] at hh; exact hh.elim
    | some o =>
      rw [ho] at hh
      intro j hj
      rcases List.mem_cons.1 hj with rfl | hj
      · exact ⟨o, by rw [← Array.getElem?_toList]; exact ho, hh.1⟩
      · exact evEach_sound (i' :: is) hh.2 j hj
theorem firstOf_spec {listed : Array Bool} {env : Env} {i : Nat} : ∀ (is : List Nat), firstOf P ops listed env is = some i → i ∈ is ∧ ∃ o, ops[i]? = some o ∧ guardKnown ops.toList env o.guard = true ∧ Region.free .any ops listed i = true ∧ ((pureOp P env o).isSome || stillKind o.op) = true
  | [], h => by simp [firstOf] at h
  | j :: js, h => by
    unfold firstOf at h
    cases ho : ops.toList[j]? with
    | none => simp [ho] at h
    | some o =>
      simp only [ho] at h
      split at h
      · rename_i h1 h2 h3
        cases h
        exact ⟨by simp, o, by rw [← Array.getElem?_toList]; exact ho, h1, h2, h3⟩
      · obtain ⟨h1, h2⟩ := firstOf_spec js h
        exact ⟨by simp [h1], h2⟩
theorem stillKind_quiet {op : Op} (h : stillKind op = true) : quietKind op = true ∧ isLoad op = false := by
  cases op <;> simp_all [stillKind, quietKind, isLoad]
theorem upd_self : ∀ (env : Env) (c : Nat) (x : Value), look env c = some x → upd env c (some x) = env
  | [], _, _, h => by simp [look] at h
  | y :: ys, 0, x, h => by simp only [look] at h; simp [upd, h]
  | y :: ys, c + 1, x, h => by simp only [look] at h; simp only [upd]; rw [upd_self ys c x h]
theorem evAny_sound (hs : Region.noSelect ops = true) {R : Act → World → Prop} {fin : Env → M Value} {Q : Value → Hp → Prop} : ∀ (n : Nat) (listed : Array Bool) (env : Env) (a : Act) (w : World), evAny P ops n listed env fin w.heap Q → Ag env a →
    (∀ env' a' w', Ag env' a' → Kept w w' → fin env' w'.heap Q → R a' w') → wpAny P .any ops (fun e a w => e = .normal ∧ R a w) n listed a w
  | 0, listed, env, a, w, hev, ha, hn => by
    unfold evAny at hev
    cases hr : Region.ready .any ops listed with
    | nil => rw [hr] at hev; exact ⟨hr, rfl, hn _ _ _ ha (.refl w) hev⟩
    | cons r rs => rw [hr] at hev; exact hev.elim
  | n + 1, listed, env, a, w, hev, ha, hn => by
    unfold evAny at hev
    cases hr : Region.ready .any ops listed with
    | nil => rw [hr] at hev; exact wpAny_done hr ⟨rfl, hn _ _ _ ha (.refl w) hev⟩ _
    | cons r rs =>
      rw [hr] at hev
      simp only [] at hev
      cases hf : firstOf P ops listed env (r :: rs) with
      | some i =>
        rw [hf] at hev
        obtain ⟨hmem, o, ho, hg, hfree, hk⟩ := firstOf_spec _ hf
        have ho' : ops.toList[i]? = some o := by rw [Array.getElem?_toList]; exact ho
        simp only [ho'] at hev
        have take : ∀ {v : Value} {env' : Env}, ((Region.wanted o (yielded ops a.tmps) = true ∧ ∀ w : World, (execOp a.eval o).run P w = .ok (.value v) w) ∨ (Region.wanted o (yielded ops a.tmps) = false ∧ v = undef)) → Ag env' (a.put o.dst v) → evAny P ops n (listed.setIfInBounds i true) env' fin w.heap Q → wpAny P .any ops (fun e a w => e = .normal ∧ R a w) (n + 1) listed a w := by
          intro v env' hy hag h2
          refine wpAny_take ho hs hfree (by rw [hr]; simpa using hmem) (by rintro c a w ⟨h, _⟩; cases h) hy ?_
          exact evAny_sound hs n _ _ _ w h2 hag hn
        have yes : Region.wanted o (yielded ops a.tmps) = true → (evOp P env o fun v => evAny P ops n (listed.setIfInBounds i true) (put env o.dst (some v)) fin) w.heap Q → wpAny P .any ops (fun e a w => e = .normal ∧ R a w) (n + 1) listed a w := by
          intro hw hev
          obtain ⟨v, h1, h2⟩ : ∃ v, (∀ w : World, (execOp a.eval o).run P w = .ok (.value v) w) ∧ evAny P ops n (listed.setIfInBounds i true) (put env o.dst (some v)) fin w.heap Q := by
            cases hp : pureOp P env o with
            | some v =>
              unfold evOp at hev
              rw [hp] at hev
              exact ⟨v, fun w => pureOp_sound hp ha w, hev⟩
            | none =>
              rw [hp] at hk
              obtain ⟨hq, hl⟩ := stillKind_quiet (by simpa using hk)
              obtain ⟨v, h1, h2⟩ := evOp_quiet hev ha hq
              exact ⟨v, fun w => h1 w (by rw [hl]; intro h; cases h), h2⟩
          exact take (.inl ⟨hw, h1⟩) (ha.put o.dst v) h2
        unfold evOne at hev
        cases hgd : o.guard with
        | none =>
          rw [hgd] at hev
          exact yes (by unfold Region.wanted; rw [hgd]) hev
        | some g =>
          obtain ⟨j, want⟩ := g
          rw [hgd] at hev hg
          simp only [guardKnown] at hev hg
          have hwd : Region.wanted o (yielded ops a.tmps) = (yielded ops a.tmps j == some want) := by unfold Region.wanted; rw [hgd]
          cases hj : guardSlot ops.toList j with
          | none => rw [hj] at hev; exact hev.elim
          | some c =>
            rw [hj] at hev
            simp only [] at hev
            cases hl : look env c with
            | none => rw [hl] at hev; exact hev.elim
            | some v =>
              rw [hl] at hev
              have hc := ha.at_ _ _ hl
              cases v <;> first | exact hev.elim | skip
              case tuple vs =>
                have hy : yielded ops a.tmps j = none := by
                  unfold yielded; rw [guardSlot_eq hj, Option.bind_some, hc]
                have hw : Region.wanted o (yielded ops a.tmps) = false := by rw [hwd, hy]; rfl
                exact take (.inr ⟨hw, rfl⟩) (ha.put o.dst undef) hev
              case bool b =>
                have hy := yielded_bool (tmps := a.tmps) hj hc
                rw [hy] at hwd
                simp only [] at hev
                have hself : ∀ x, look env c = some x → upd env c (some x) = env := fun x hx => upd_self env c x hx
                cases want <;> cases b <;> simp only [mIf] at hev
                · rw [hself _ hl] at hev
                  exact yes (by rw [hwd]; rfl) hev
                · rw [hself _ hl] at hev
                  exact take (.inr ⟨by rw [hwd]; rfl, rfl⟩) (ha.put o.dst undef) hev
                · rw [hself _ hl] at hev
                  exact take (.inr ⟨by rw [hwd]; rfl, rfl⟩) (ha.put o.dst undef) hev
                · rw [hself _ hl] at hev
                  exact yes (by rw [hwd]; rfl) hev
      | none =>
        rw [hf] at hev
        simp only [] at hev
        refine wpAny_all hr (by simp) fun i hi => ?_
        obtain ⟨o, ho, hone⟩ := evEach_sound _ hev i hi
        exact evOne_sound ho hone ha fun env' a' w' h1 h2 h3 => evAny_sound hs n _ _ _ w' h3 h1 fun env'' a'' w'' h4 h5 h6 => hn _ _ _ h4 (h2.trans h5) h6

/-! ### a quiet head, in whatever order, and what waits for all of it -/
section head
variable {C : World → Prop} {Hd : Nat → Bool} {L : Array Bool → Act → Prop}
def wpAnyT (P : Program) (ops : Array Oper) (C : World → Prop) (Hd : Nat → Bool) (L : Array Bool → Act → Prop) : Nat → Array Bool → Act → Prop
  | 0, listed, a => L listed a
  | f + 1, listed, a => Region.ready .any ops listed ≠ [] ∧ ∀ i ∈ Region.ready .any ops listed, Hd i = true ∧ qOp P ops C i (wpAnyT P ops C Hd L f (listed.setIfInBounds i true)) a
theorem wpAny_of_T {g : Nat} {Q' : Exit → Act → World → Prop} (hL : ∀ listed a w, C w → L listed a → wpAny P .any ops Q' g listed a w) :
    ∀ (f : Nat) (listed : Array Bool) (a : Act) (w : World), C w → wpAnyT P ops C Hd L f listed a → wpAny P .any ops Q' (f + g) listed a w
  | 0, listed, a, w, hw, h => by rw [Nat.zero_add]; exact hL _ _ _ hw h
  | f + 1, listed, a, w, hw, h => by
    rw [show f + 1 + g = (f + g) + 1 by omega]
    exact ⟨fun h0 => absurd h0 h.1, fun i hi => wpOp_of_qOp hw (fun a' w' hw' h' => wpAny_of_T hL f _ a' w' hw' h') (h.2 i hi).2⟩
theorem wpAnyT_first {i : Nat} {oi : Oper} {v : Value} (hi : ops[i]? = some oi) (hsel : ∀ (j : Nat) (o : Oper) cs b, ops[j]? = some o → o.op ≠ .select cs b) (hin : Hd i = true)
    (htail : ∀ j oj, ops[j]? = some oj → Hd j = false → ∃ e ∈ oj.after, Region.binds .any e = true ∧ e.on = i) (hdone : ∀ listed a, L listed a → ∀ j ∈ Region.ready .any ops listed, Hd j = false) :
    ∀ (f : Nat) (listed : Array Bool) (a : Act),
      (∀ j oj, ops[j]? = some oj → j ≠ i → listed.getD j true = false → (∀ e ∈ oj.after, Region.binds .any e = true → e.on ≠ i) → oi.apart ops oj = true) →
      i ∈ Region.ready .any ops listed → YieldsIn P ops C oi v a →
      wpAnyT P ops C Hd L f (listed.setIfInBounds i true) (a.put oi.dst v) → wpAnyT P ops C Hd L (f + 1) listed a := by
  have notTail : ∀ (listed : Array Bool), i ∈ Region.ready .any ops listed → ∀ j ∈ Region.ready .any ops listed, Hd j = true := by
    intro listed hr j hj
    cases hh : Hd j with
    | true => rfl
    | false =>
      obtain ⟨_, oj, hoj, hall⟩ := mem_ready.1 hj
      obtain ⟨e, he, hb, hon⟩ := htail j oj hoj hh
      have h1 := hall e he hb
      have h0 := (mem_ready.1 hr).1
      rw [hon] at h1
      rcases Nat.lt_or_ge i listed.size with h' | h'
      · simp [h'] at h0 h1; rw [h0] at h1; cases h1
      · simp [Array.getElem?_eq_none h'] at h1
  intro f
  induction f with
  | zero =>
    intro listed a _ hr hy H
    refine ⟨fun h => (by rw [h] at hr; cases hr), fun j hj => ⟨notTail listed hr j hj, ?_⟩⟩
    by_cases hji : j = i
    · subst hji; exact hy.qOp hi H
    · have h1 := hdone _ _ H j (ready_mono hj hji)
      rw [notTail listed hr j hj] at h1
      cases h1
  | succ f ih =>
    intro listed a hfree hr hy H
    refine ⟨fun h => (by rw [h] at hr; cases hr), fun j hj => ⟨notTail listed hr j hj, ?_⟩⟩
    by_cases hji : j = i
    · subst hji; exact hy.qOp hi H
    · have h1 := (H.2 j (ready_mono hj hji)).2
      obtain ⟨hjun, oj, hoj, hall⟩ := mem_ready.1 hj
      have hnot : ∀ e ∈ oj.after, Region.binds .any e = true → e.on ≠ i := fun e he hb heq => by
        have h1 := hall e he hb
        have h0 := (mem_ready.1 hr).1
        rw [heq] at h1
        rcases Nat.lt_or_ge i listed.size with h' | h'
        · simp [h'] at h0 h1; rw [h0] at h1; cases h1
        · simp [Array.getElem?_eq_none h'] at h1
      have h2 := qOp_put hoj (hfree j oj hoj hji hjun hnot) (fun cs b => hsel i oi cs b hi) (fun cs b => hsel j oj cs b hoj) hy h1
      have hfree' : ∀ k ok, ops[k]? = some ok → k ≠ i → (listed.setIfInBounds j true).getD k true = false →
          (∀ e ∈ ok.after, Region.binds .any e = true → e.on ≠ i) → oi.apart ops ok = true := fun k ok hk hki hun hno => by
        refine hfree k ok hk hki ?_ hno
        by_cases hjk : j = k
        · subst hjk; exact hjun
        · rw [getD_set_ne true hjk] at hun; exact hun
      refine qOp_mono (fun a' h3 => ih (listed.setIfInBounds j true) a' hfree' (ready_mono hr (Ne.symm hji)) h3.1 ?_) h2
      rw [Array.setIfInBounds_comm _ _ hji]
      exact h3.2
theorem wpAnyT_lex (hs : Region.noSelect ops = true) (htail : ∀ i, Hd i = true → ∀ j oj, ops[j]? = some oj → Hd j = false → ∃ e ∈ oj.after, Region.binds .any e = true ∧ e.on = i)
    (hdone : ∀ listed a, L listed a → ∀ j ∈ Region.ready .any ops listed, Hd j = false) {Qf : Act → Prop} : ∀ (hd : List Nat) (l : List Oper) (listed : Array Bool) (a : Act), atAll ops.toList hd = some l → (∀ i ∈ hd, Hd i = true) →
    lexT ops hd listed = true → (∀ a', Qf a' → L (marksOf listed hd) a') → wpQuiet P ops C Qf l a → wpAnyT P ops C Hd L hd.length listed a
  | [], l, listed, a, hl, _, _, hQ, h => by
    simp only [atAll, Option.some.injEq] at hl
    subst hl
    exact hQ _ h
  | k :: ks, l, listed, a, hl, hH, hB, hQ, h => by
    simp only [atAll] at hl
    split at hl
    · rename_i o os ho hos
      cases hl
      have h0 : ops[k]? = some o := by rw [← Array.getElem?_toList]; exact ho
      simp only [lexT, Bool.and_eq_true] at hB
      obtain ⟨⟨hr, hf⟩, hB'⟩ := hB
      have hst : qOp P ops C k (wpQuiet P ops C Qf os) a := by unfold qOp; simp only [h0]; exact h
      obtain ⟨v, hy, hK⟩ := yieldsIn_of_qOp h0 hst
      exact wpAnyT_first h0 (Region.noSelect_spec hs) (hH k (by simp)) (htail k (hH k (by simp))) hdone ks.length listed a (Region.free_spec h0 hf) (by simpa using hr) hy
        (wpAnyT_lex hs htail hdone ks os _ _ hos (fun i hi => hH i (by simp [hi])) hB' hQ hK)
    · cases hl
end head

theorem marksOf_listed : ∀ (hd : List Nat) (listed : Array Bool), (∀ i, listed.getD i false = true → (marksOf listed hd).getD i false = true) ∧ (marksOf listed hd).size = listed.size ∧ ∀ i ∈ hd, i < listed.size → (marksOf listed hd).getD i false = true
  | [], listed => ⟨fun _ h => h, rfl, by simp⟩
  | k :: ks, listed => by
    obtain ⟨h1, h2, h3⟩ := marksOf_listed ks (listed.setIfInBounds k true)
    refine ⟨fun i hi => h1 i (getD_set_true hi), by rw [marksOf, h2]; simp, ?_⟩
    intro i hi hlt
    rcases List.mem_cons.1 hi with rfl | hi
    · exact h1 _ (by simp [hlt])
    · exact h3 i hi (by simpa using hlt)
theorem atAll_map : ∀ (hd : List Nat) (l : List Oper), atAll ops.toList hd = some l → hd.map (fun i => ops[i]?) = l.map some
  | [], l, h => by simp [atAll] at h; subst h; rfl
  | k :: ks, l, h => by
    simp only [atAll] at h
    split at h
    · rename_i o os ho hos
      cases h
      rw [Array.getElem?_toList] at ho
      simp [ho, atAll_map ks os hos]
    · cases h
theorem evDraw_sound (hmix : P.follows .mixedOrders = true) {rid : Nat} {hd : List Nat} {env : Env} {fin : Env → M Value} {a : Act} {w : World} {Q : Value → Hp → Prop} {R : Act → World → Prop} (hev : evDraw P ops hd env fin w.heap Q) (ha : Ag env a)
    (hn : ∀ env' a' w', Ag env' a' → Kept w w' → fin env' w'.heap Q → R a' w') : (Code.region rid ops true).wp P (fun e a w => e = .normal ∧ R a w) a w := by
  unfold evDraw at hev
  cases hB : (lexT ops hd (Array.replicate ops.size false) && Region.noSelect ops && tailB ops hd && hd.all (fun i => decide (i < ops.size)) && decide (hd.length ≤ ops.size)) with
  | false => rw [hB] at hev; exact hev.elim
  | true =>
    rw [hB] at hev
    cases hat : atAll ops.toList hd with
    | none => rw [hat] at hev; exact hev.elim
    | some l =>
      rw [hat] at hev
      simp only [] at hev
      simp only [Bool.and_eq_true, List.all_eq_true, decide_eq_true_eq] at hB
      obtain ⟨⟨⟨⟨hlex, hns⟩, htb⟩, hlt⟩, hle⟩ := hB
      let L : Array Bool → Act → Prop := fun listed a' => listed = marksOf (Array.replicate ops.size false) hd ∧ ∀ w', Alike w w' → wpAny P .any ops (fun e a w => e = .normal ∧ R a w) (ops.size - hd.length) listed a' w'
      have hquiet := evOps_sound (goes_quiet (P := P) ops w (fun a' => L (marksOf (Array.replicate ops.size false) hd) a')) _ Value none l env _ Q hd [] a w (atAll_map hd l hat) hev ha
        fun env' a' w' h1 h2 _ h4 hA => ⟨rfl, fun w'' hA' => evAny_sound hns _ _ _ _ w'' (by rw [hA'.1, ← hA.1]; exact h4) h1 fun env'' a'' w3 h5 h6 h7 => hn _ _ _ h5 (hA'.2.trans h6) h7⟩
      have hq := hquiet ⟨rfl, .refl w⟩
      rw [List.append_nil] at hq
      have hfm : hd.filterMap (fun i => ops[i]?) = l := by
        have : hd.filterMap (fun i => ops[i]?) = (hd.map (fun i => ops[i]?)).filterMap id := by rw [List.filterMap_map]; rfl
        rw [this, atAll_map hd l hat]; simp
      rw [hfm] at hq
      have hT : wpAnyT P ops (Alike w) (fun i => hd.contains i) L hd.length (Array.replicate ops.size false) a := by
        refine wpAnyT_lex hns ?_ ?_ hd l _ a hat (fun i hi => by simpa using hi) hlex (fun a' h => h) hq
        · intro i hi j oj hoj hj
          unfold tailB at htb
          rw [List.all_eq_true] at htb
          have hjlt : j < ops.size := (Array.getElem?_eq_some_iff.1 hoj).1
          have h1 := htb j (List.mem_range.2 hjlt)
          simp only [hj, Bool.false_or, List.all_eq_true] at h1
          have h2 := h1 i (by simpa using hi)
          have : ops.toList[j]? = some oj := by rw [Array.getElem?_toList]; exact hoj
          simp only [this] at h2
          obtain ⟨e, he, hb⟩ := Array.any_eq_true'.1 h2
          simp only [Bool.and_eq_true, beq_iff_eq] at hb
          exact ⟨e, he, hb.1, hb.2⟩
        · rintro listed a' ⟨rfl, _⟩ j hj
          cases hc : hd.contains j with
          | false => rfl
          | true =>
            have hjm : j ∈ hd := by simpa using hc
            have hl := (marksOf_listed hd (Array.replicate ops.size false)).2.2 j hjm (by simpa using hlt j hjm)
            have h0 := (mem_ready.1 hj).1
            have hsz := (marksOf_listed hd (Array.replicate ops.size false)).2.1
            have : j < (marksOf (Array.replicate ops.size false) hd).size := by rw [hsz]; simpa using hlt j hjm
            simp [this] at h0 hl
            rw [h0] at hl; cases hl
      refine wp_region_any hmix ?_
      have hA := wpAny_of_T (P := P) (ops := ops) (Hd := fun i => hd.contains i) (C := Alike w) (L := L) (g := ops.size - hd.length) (Q' := fun e a w => e = .normal ∧ R a w) (fun listed a' w' hw' hL => hL.2 w' hw') hd.length (Array.replicate ops.size false) a { w with drawn := w.drawn + 1 } ⟨rfl, rfl, rfl, rfl⟩ hT
      rwa [show hd.length + (ops.size - hd.length) = ops.size by omega] at hA
end draws
end Go.Sb
