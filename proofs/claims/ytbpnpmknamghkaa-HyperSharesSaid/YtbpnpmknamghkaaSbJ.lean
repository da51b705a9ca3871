/- The small logic is sound: the evaluator's step over one operation. Conditions: none. -/
import Derived.Test.YtbpnpmknamghkaaSbV
namespace Go.Sb
open Go

section op
variable {P : Program} {α : Type} {a : Act} {w : World} {next : Act → World → Prop} {Qx : Exit → Act → World → Prop}
set_option maxHeartbeats 1000000 in
theorem evOp_quiet {env : Env} {o : Oper} {kk : Value → M α} {h : Hp} {Q : α → Hp → Prop} (hev : evOp P env o kk h Q) (ha : Ag env a) (hq : quietKind o.op = true) :
    ∃ v, (∀ w : World, (isLoad o.op = true → w.heap = h) → (execOp a.eval o).run P w = .ok (.value v) w) ∧ kk v h Q := by
  generalize hm : evOp P env o kk = m at hev
  unfold evOp at hm
  cases hp : pureOp P env o with
  | some v =>
    rw [hp] at hm
    subst hm
    exact ⟨v, fun w _ => pureOp_sound hp ha w, hev⟩
  | none =>
    rw [hp] at hm
    clear hp
    obtain ⟨dst, op, type, pos, after, guard⟩ := o
    cases op <;> simp only [quietKind, Bool.false_eq_true] at hq <;> simp only [] at hm
    case load t x =>
      split at hm <;> first | (subst hm; exact hev.elim) | skip
      rename_i p hx
      subst hm
      cases p with
      | none => exact hev.elim
      | some ad =>
        obtain ⟨v, h1, h2⟩ := ldT_sound hev
        refine ⟨v, fun w hw => ?_, h2⟩
        simp only [execOp, ha.eval hx]
        exact Sem.run_value _ w (by simp only [Instr.loadAt, Instr.sureAddr, Sem.run_bind, Sem.run_pure, Result.andThen_ok]; exact h1 w (hw rfl))
    case lookup t x i ok =>
      split at hm <;> first | (subst hm; exact hev.elim) | skip
      rename_i kt e p kd key hu hx hi
      split at hm <;> first | (subst hm; exact hev.elim) | skip
      rename_i kd' z hk hz hagg
      by_cases hkd : kd = kd'
      · subst hkd
        simp only [if_true] at hm
        subst hm
        cases p with
        | none => exact hev.elim
        | some r =>
          obtain ⟨f, n, hmap, hev⟩ := hev
          have hev' := un1_sound hev
          refine ⟨_, fun w hw => ?_, hev'⟩
          simp only [execOp, ha.eval hx, ha.eval hi]
          refine Sem.run_value _ w ?_
          have hw' := hw rfl
          subst hw'
          exact run_lookup hu hk hz hmap ok
      · simp only [hkd, if_false] at hm; subst hm; exact hev.elim
    case nilCheck x =>
      split at hm <;> first | (subst hm; exact hev.elim) | skip
      · rename_i p hx
        subst hm
        cases p with
        | none => exact hev.elim
        | some ad =>
          refine ⟨.pointer (some ad), fun w hw => ?_, hev⟩
          simp only [execOp, ha.eval hx]; rfl
      · rename_i g f c hx
        subst hm
        refine ⟨.func (.func g) f c, fun w hw => ?_, hev⟩
        simp only [execOp, ha.eval hx]; rfl
    case binOp op t x y yt =>
      split at hm <;> first | (subst hm; exact hev.elim) | skip
      · rename_i k m k' n hx hy
        have hg : ∀ w, (eqGuard op t x y (.int k m) (.int k' n)).run P w = .ok () w := fun w => eqGuard_scalar (by simp) (by simp) w
        have fin : ∀ v, (∀ w, (binOp op t (.int k m) (.int k' n)).run P w = .ok v w) → kk v h Q → ∃ v, (∀ w : World, (isLoad (.binOp op t x y yt) = true → w.heap = h) → (execOp a.eval ⟨dst, .binOp op t x y yt, type, pos, after, guard⟩).run P w = .ok (.value v) w) ∧ kk v h Q := fun v hr hk =>
          ⟨v, fun w _ => by
            simp only [execOp, ha.eval hx, ha.eval hy]
            exact Sem.run_value _ w (by rw [Sem.run_bind, hg, Result.andThen_ok, hr]), hk⟩
        cases op <;> simp only [] at hm
        case shl =>
          subst hm
          obtain ⟨h0, h1⟩ := hev
          refine fin _ (fun w => ?_) h1
          have : ¬ n < 0 := by omega
          simp [binOp, Op.shift, this]
        case shr =>
          subst hm
          obtain ⟨h0, h1⟩ := hev
          refine fin _ (fun w => ?_) h1
          have : ¬ n < 0 := by omega
          simp [binOp, Op.shift, this]
        all_goals
          by_cases hk : k = k'
          · rw [if_pos hk] at hm
            subst hk
            simp only [evBin] at hm
            subst hm
            first
              | exact hev.elim
              | (obtain ⟨h0, h1⟩ := hev
                 refine fin _ (fun w => ?_) h1
                 simp [binOp, Op.intDiv, h0])
          · rw [if_neg hk] at hm; subst hm; exact hev.elim
      · rename_i s1 s2 hx hy
        have hg : ∀ w, (eqGuard op t x y (.string s1) (.string s2)).run P w = .ok () w := fun w => eqGuard_scalar (by simp) (by simp) w
        cases op <;> simp only [] at hm <;> subst hm <;> first | exact hev.elim | skip
        obtain ⟨h0, h1⟩ := hev
        refine ⟨.string (s1 ++ s2), fun w hw => ?_, h1⟩
        simp only [execOp, ha.eval hx, ha.eval hy]
        refine Sem.run_value _ w ?_
        rw [Sem.run_bind, hg, Result.andThen_ok]
        have : ¬ (((s1.size + s2.size : Nat) : Int) > IntKind.i64.max) := by omega
        simp only [binOp, Op.stringOp, this, if_false]
        rfl
    case slice t x lo hi mx =>
      split at hm <;> first | (subst hm; exact hev.elim) | skip
      · rename_i str hu hx
        split at hm <;> first | (subst hm; exact hev.elim) | skip
        rename_i l u hl hhi
        subst hm
        obtain ⟨h0, h1, h2, h3⟩ := hev
        refine ⟨.string (str.extract l.toNat u.toNat), fun w hw => ?_, h3⟩
        simp only [execOp, ha.eval hx]
        refine Sem.run_value _ w ?_
        have hb := run_bounds (P := P) (w := w) ha (b := false) (n := str.size) (c := str.size) (mx := none) hl hhi rfl h0 h1 h2 (by omega) (by simp)
        simp only [Option.map_none] at hb
        simp only [Instr.sliceAt, Sem.run_bind, run_underlying hu, Result.andThen_ok, Instr.slice, Option.map_none, Option.isSome_none, Bool.false_eq_true, if_false, hb, Sem.run_pure]
      · rename_i e p n c hu hx
        split at hm <;> first | (subst hm; exact hev.elim) | skip
        rename_i z l u m hz hl hhi hmx
        by_cases hbad : (mx.isSome && hi.isNone) = true
        · simp only [hbad, if_true] at hm; subst hm; exact hev.elim
        · rw [if_neg hbad] at hm
          subst hm
          obtain ⟨h0, h1, h2, h3, h4⟩ := hev
          refine ⟨_, fun w hw => ?_, h4⟩
          simp only [execOp, ha.eval hx]
          refine Sem.run_value _ w ?_
          have hb := run_bounds (P := P) (w := w) ha (b := true) (n := n) (c := c) hl hhi hmx h0 h1 h2 h3 (by cases mx <;> cases hi <;> simp_all)
          simp only [Instr.sliceAt, Sem.run_bind, run_underlying hu, Result.andThen_ok, Instr.slice, hb, Sem.run_pure, run_sizeOf hz]
    case fieldAddr s x f =>
      split at hm <;> first | (subst hm; exact hev.elim) | skip
      rename_i fs p hu hx
      split at hm <;> first | (subst hm; exact hev.elim) | skip
      rename_i g hg
      split at hm <;> first | (subst hm; exact hev.elim) | skip
      rename_i n hsz
      by_cases h0 : n = 0
      · simp only [h0, if_true] at hm; subst hm; exact hev.elim
      · simp only [h0, if_false] at hm
        subst hm
        cases p with
        | none => exact hev.elim
        | some ad =>
          refine ⟨.pointer (some (ad.add g.offset)), fun w hw => ?_, hev⟩
          simp only [execOp, ha.eval hx]
          refine Sem.run_value _ w ?_
          have hgg : fs[f]? = some g := by rw [← Array.getElem?_toList]; exact hg
          simp only [Instr.fieldAt, Sem.run_bind, run_underlying hu, Result.andThen_ok, hgg, Instr.sureAddr, Sem.run_pure, fieldPlace, run_sizeOf hsz, h0, if_false]
    case indexAddr t x i =>
      split at hm <;> first | (subst hm; exact hev.elim) | skip
      · rename_i e p n c k j hu hx hi
        split at hm <;> first | (subst hm; exact hev.elim) | skip
        rename_i z hz
        subst hm
        obtain ⟨ad, h0, h1, h2, h3⟩ := hev
        simp only at h0
        subst h0
        refine ⟨.pointer (some (ad.add (j.toNat * z))), fun w hw => ?_, h3⟩
        simp only [execOp, ha.eval hx, ha.eval hi]
        refine Sem.run_value _ w ?_
        simp only at h2
        simp only [Instr.indexAt, asIntOf, Sem.run_bind, Sem.run_pure, Result.andThen_ok, run_underlying hu, h1, h2, and_self, if_true, run_sizeOf hz]
      · rename_i n e p k j hu hx hi
        split at hm <;> first | (subst hm; exact hev.elim) | skip
        rename_i z hz
        subst hm
        obtain ⟨ad, h0, h1, h2, h3⟩ := hev
        simp only at h0
        subst h0
        refine ⟨.pointer (some (ad.add (j.toNat * z))), fun w hw => ?_, h3⟩
        simp only [execOp, ha.eval hx, ha.eval hi]
        refine Sem.run_value _ w ?_
        simp only at h2
        simp only [Instr.indexAt, asIntOf, Sem.run_bind, Sem.run_pure, Result.andThen_ok, run_underlying hu, Instr.sureAddr, h1, h2, and_self, if_true, run_sizeOf hz]
    case index t x i =>
      split at hm <;> first | (subst hm; exact hev.elim) | skip
      · rename_i str k j hu hx hi
        subst hm
        obtain ⟨b, h0, h1, h2⟩ := hev
        refine ⟨.int .u8 b.toNat, fun w hw => ?_, h2⟩
        simp only [execOp, ha.eval hx, ha.eval hi]
        refine Sem.run_value _ w ?_
        simp only [Instr.index, asIntOf, Sem.run_bind, Sem.run_pure, Result.andThen_ok, run_underlying hu, h0, if_true, h1]
      · rename_i m' e cs k j hu hx hi
        split at hm <;> first | (subst hm; exact hev.elim) | skip
        rename_i de hsz hagg hue
        have key : cs.toList.length = m' → (mIdxA cs.toList j fun v => un1 P e v kk) h Q → ∃ v, (∀ w : World, (isLoad (.index t x i) = true → w.heap = h) → (execOp a.eval ⟨dst, .index t x i, type, pos, after, guard⟩).run P w = .ok (.value v) w) ∧ kk v h Q := by
          intro hlen hev
          obtain ⟨v, h0, h1, h2⟩ := hev
          refine ⟨v, fun w hw => ?_, un1_sound h2⟩
          simp only [execOp, ha.eval hx, ha.eval hi]
          refine Sem.run_value _ w ?_
          have hlt : j < m' := by
            have := (List.getElem?_eq_some_iff.1 h1).1
            omega
          have hc : cs[j.toNat]? = some v := by rw [← Array.getElem?_toList]; exact h1
          simp only [Instr.index, asIntOf, Sem.run_bind, Sem.run_pure, Result.andThen_ok, run_underlying hu, h0, hlt, and_self, if_true, run_sizeOf hsz, part, run_isAgg hue, hagg, Bool.false_eq_true, if_false, Nat.mul_one, hc]
        cases hbig : isBigT P t with
        | true =>
          rw [hbig] at hm
          subst hm
          exact key hev.1 hev.2
        | false =>
          rw [hbig] at hm
          simp only at hm
          by_cases hlen : cs.toList.length = m'
          · simp only [hlen, if_true] at hm
            subst hm
            exact key hlen hev
          · simp only [hlen, if_false] at hm; subst hm; exact hev.elim
set_option maxHeartbeats 1000000 in
theorem evOp_sound {env : Env} {o : Oper} {kk : Value → M α} {Q : α → Hp → Prop} (hev : evOp P env o kk w.heap Q) (ha : Ag env a)
    (hn : ∀ v w', Kept w w' → kk v w'.heap Q → next (a.put o.dst v) w') : o.wp P a w next Qx := by
  by_cases hq : quietKind o.op = true
  · obtain ⟨v, h1, h2⟩ := evOp_quiet hev ha hq
    exact wp_val (h1 w fun _ => rfl) (hn v w (.refl w) h2)
  generalize hm : evOp P env o kk = m at hev
  unfold evOp at hm
  cases hp : pureOp P env o with
  | some v =>
    rw [hp] at hm
    subst hm
    exact wp_val (pureOp_sound hp ha w) (hn v w (.refl w) hev)
  | none =>
    rw [hp] at hm
    clear hp
    obtain ⟨dst, op, type, pos, after, guard⟩ := o
    cases op <;> simp only [] at hm <;> first | (subst hm; exact hev.elim) | (exact absurd rfl hq) | skip
    case pick c x y =>
      split at hm <;> first | (subst hm; exact hev.elim) | skip
      rename_i b hc
      subst hm
      cases b
      · simp only [mIf] at hev
        cases hy : opd env y with
        | none => rw [hy] at hev; exact hev.elim
        | some v =>
          rw [hy] at hev
          refine wp_val (v := v) (w' := w) ?_ (hn _ w (.refl w) hev)
          simp only [execOp, ha.eval hc, ha.eval hy]; rfl
      · simp only [mIf] at hev
        cases hx : opd env x with
        | none => rw [hx] at hev; exact hev.elim
        | some v =>
          rw [hx] at hev
          refine wp_val (v := v) (w' := w) ?_ (hn _ w (.refl w) hev)
          simp only [execOp, ha.eval hc, ha.eval hx]; rfl
    case alloc T =>
      cases hz : zeroT P T with
      | none => simp only [hz] at hm; subst hm; exact hev.elim
      | some z =>
        simp only [hz] at hm; subst hm
        refine wp_val (v := .pointer (some ⟨w.heap.size, 0, none⟩)) (w' := { w with heap := w.heap.push (.cells z.cells T) }) ?_ (hn _ _ (Kept.heap w _) hev)
        simp only [execOp]
        refine Sem.run_value _ w ?_
        simp [Instr.alloc, run_zeroValue hz, newVar, newRow]
    case makeMap t re =>
      cases re with
      | some y => simp only [] at hm; subst hm; exact hev.elim
      | none =>
        simp only [] at hm
        split at hm <;> first | (subst hm; exact hev.elim) | skip
        subst hm
        refine wp_val (v := .map (some w.heap.size)) (w' := { w with heap := w.heap.push (.map #[] 0) }) ?_ (hn _ _ (Kept.heap w _) hev)
        simp only [execOp]
        refine Sem.run_value _ w ?_
        simp [Instr.makeMap, newObj, Sem.run]
    case mapUpdate t x i y =>
      split at hm <;> first | (subst hm; exact hev.elim) | skip
      rename_i kt e p kd key hu hx hi
      split at hm <;> first | (subst hm; exact hev.elim) | skip
      rename_i kd' v hk hy hagg
      by_cases hkd : kd = kd'
      · subst hkd
        simp only [if_true] at hm
        subst hm
        cases p with
        | none => exact hev.elim
        | some r =>
          obtain ⟨f, n, hmap, hev⟩ := hev
          obtain ⟨h', h1, h2, h3, h4⟩ := run_mapUpdate (v := v) (key := key) hu hk hmap
          refine wp_skp (w' := { w with heap := h' }) ?_ (hn _ _ (Kept.heap w _) (hev h' h2 h3 h4))
          simp only [execOp, ha.eval hx, ha.eval hi, ha.eval hy, Sem.run_bind, h1, Result.andThen_ok, Sem.run_pure]
      · simp only [hkd, if_false] at hm; subst hm; exact hev.elim
    case box T x =>
      cases hx : opd env x with
      | none => simp only [hx] at hm; subst hm; exact hev.elim
      | some v =>
        simp only [hx] at hm; subst hm
        refine wp_val (v := .pointer (some ⟨w.heap.size, 0, none⟩)) (w' := { w with heap := w.heap.push (.cells v.cells T) }) ?_ (hn _ _ (Kept.heap w _) hev)
        simp only [execOp, ha.eval hx]
        refine Sem.run_value _ w ?_
        simp [Instr.box, newVar, newRow]
    case buildSlice t len parts =>
      split at hm <;> first | (subst hm; exact hev.elim) | skip
      rename_i e ps hu hps
      split at hm <;> first | (subst hm; exact hev.elim) | skip
      rename_i n z hsz hz
      split at hm <;> first | (subst hm; exact hev.elim) | skip
      rename_i hle
      cases hf : fillL (fun i => some (i * n, n)) (mRow z.cells len).toList ps with
      | none => simp only [hf] at hm; subst hm; exact hev.elim
      | some cs =>
        simp only [hf] at hm
        by_cases hlen : z.cells.toList.length = n
        · simp only [hlen, if_true] at hm; subst hm
          refine wp_val (v := .slice (some ⟨w.heap.size, 0, none⟩) len len) (w' := { w with heap := w.heap.push (.cells cs.toArray e) }) ?_ (hn _ _ (Kept.heap w _) hev)
          simp only [execOp]
          refine Sem.run_value _ w ?_
          have hpm : (parts.map fun x => (x.1, a.eval x.2)).toList = ps := by rw [Array.toList_map, opdParts_map ha _ _ hps]
          have hzs : z.cells.size = n := by simpa using hlen
          have hrow : ∀ zz : Array Value, (len * n = 0 ∨ zz = z.cells) → ((Array.range (len * n)).map fun i => zz[i % zz.size]!) = mRow z.cells len := by
            intro zz hzz
            rcases hzz with h0 | h0
            · unfold mRow; rw [hzs, h0]; simp
            · rw [h0]; unfold mRow; rw [hzs]
          unfold Instr.buildSlice
          have hle' : ¬ len * n > 2 ^ 24 := by omega
          simp only [Sem.run_bind, run_underlying hu, Result.andThen_ok, run_sizeOf hsz, hle', if_false]
          by_cases h0 : len * n = 0
          · simp only [h0, if_true, pure_bind]
            have hr := hrow #[] (.inl h0)
            rw [h0] at hr
            rw [hr, fill_eq, hpm, hf]
            simp [newRow]
          · simp only [h0, if_false, Sem.run_bind, run_zeroValue hz, Result.andThen_ok, Sem.run_pure]
            rw [hrow z.cells (.inr rfl), fill_eq, hpm, hf]
            simp [newRow]
        · simp only [hlen, if_false] at hm; subst hm; exact hev.elim
    case store t x y =>
      split at hm <;> first | (subst hm; exact hev.elim) | skip
      rename_i p v n hx hy hs
      subst hm
      cases p with
      | none => exact hev.elim
      | some ad =>
        simp only [mNil] at hev
        cases hbig : isBigT P t with
        | true =>
          rw [hbig] at hev
          obtain ⟨hlen, h1, h2, h3⟩ := hev
          refine wp_skp (w' := { w with heap := hsets w.heap ad 0 v.cells.toList }) ?_ (hn _ _ (Kept.heap w _) h3)
          simp only [execOp, ha.eval hx, ha.eval hy]
          have := run_storeVar hs hlen (hfree_sound v.cells.toList 0 w.heap h1 h2 w rfl)
          simp only [Instr.storeAt, Instr.sureAddr, Sem.run_bind, Sem.run_pure, Result.andThen_ok, this]
        | false =>
        rw [hbig] at hev
        simp only at hev
        by_cases hlen : v.cells.toList.length = n
        · simp only [hlen, if_true] at hev
          obtain ⟨h', h1, h2⟩ := stCells_sound _ _ _ _ hev
          refine wp_skp (w' := { w with heap := h' }) ?_ (hn _ _ (Kept.heap w _) h2)
          simp only [execOp, ha.eval hx, ha.eval hy]
          have := run_storeVar hs hlen (h1 w rfl)
          simp only [Instr.storeAt, Instr.sureAddr, Sem.run_bind, Sem.run_pure, Result.andThen_ok, this]
        · simp only [hlen, if_false] at hev; exact hev.elim
    case convert s d x =>
      split at hm <;> first | (subst hm; exact hev.elim) | skip
      · rename_i e b hs hd hx
        split at hm <;> first | (subst hm; exact hev.elim) | skip
        rename_i he
        subst hm
        obtain ⟨c, hc1, hc2, hc3⟩ := bytesWorld_heap w e b
        have hrun := Lib.run_convert_string_bytes w s d e b hs hd he
        rw [hc3] at hrun
        have hkk := hev c hc1
        refine wp_val (v := .slice (some ⟨w.heap.size, 0, none⟩) b.size c) (w' := Lib.bytesWorld w e b) ?_ (hn _ _ ?_ ?_)
        · simp only [execOp, ha.eval hx]
          exact Sem.run_value _ w hrun
        · rw [hc2]; exact ⟨rfl, rfl, rfl⟩
        · rw [hc2]; exact hkk
      · rename_i e p n c hs hd hx
        split at hm <;> first | (subst hm; exact hev.elim) | skip
        rename_i he
        subst hm
        obtain ⟨bs, h1, h2⟩ := hev
        refine wp_val (v := .string ⟨bs.toArray⟩) (w' := w) ?_ (hn _ w (.refl w) h2)
        simp only [execOp, ha.eval hx]
        refine Sem.run_value _ w ?_
        rw [run_convert_bytes_string w s d e p n c hs he hd]
        exact run_str h1
      · rename_i e' e p n c hs hd hx
        split at hm <;> first | (subst hm; exact hev.elim) | skip
        rename_i he hsd
        subst hm
        obtain ⟨b, o, cs, T, hp, hb, hkk⟩ := hev
        have hsd : s = d := by simpa using hsd
        subst hsd
        simp only at hp
        subst hp
        refine wp_val (v := .slice (some ⟨b, o, none⟩) n c) (w' := { w with heap := w.heap.setIfInBounds b (.cells cs T (cs.size, cs.size + 1)) }) ?_ (hn _ _ (Kept.heap w _) hkk)
        simp only [execOp, ha.eval hx]
        exact Sem.run_value _ w (run_markRow hd he hb)
    case makeSlice t l c =>
      split at hm <;> first | (subst hm; exact hev.elim) | skip
      rename_i e kl li kc ci hu hl hc
      split at hm <;> first | (subst hm; exact hev.elim) | skip
      rename_i n z b hsz hz hb
      by_cases hlen : z.cells.toList.length = n
      · simp only [hlen, if_true] at hm
        subst hm
        obtain ⟨h0, h1, h2, h3, h4⟩ := hev
        refine wp_val (v := .slice (some ⟨w.heap.size, 0, none⟩) li.toNat ci.toNat) (w' := { w with heap := w.heap.push (.cells (mRow z.cells ci.toNat) e) }) ?_ (hn _ _ (Kept.heap w _) h4)
        simp only [execOp, ha.eval hl, ha.eval hc]
        exact Sem.run_value _ w (run_makeSlice hu hsz hz hb (by simpa using hlen) h0 h1 h2 h3 w)
      · simp only [hlen, if_false] at hm; subst hm; exact hev.elim
    case call c =>
      obtain ⟨callee, args, argTypes⟩ := c
      cases callee <;> (try dsimp only at hm) <;> first | (subst hm; exact hev.elim) | skip
      case value f =>
        split at hm <;> first | (subst hm; exact hev.elim) | skip
        rename_i g first cap vs hf hvs
        subst hm
        rcases hev with ⟨hc, hev⟩ | ⟨v, hc, hev⟩ | hev
        · refine wp_call (g := g) (args := first ++ vs.toArray ++ cap) (X := fun v h' => unR P type v kk h' Q) ?_ (hev w rfl) ?_
          · simp only [execOp, resolve, ha.eval hf, opds_arr ha hvs, Deferred.ofValue, Sem.run_bind, Sem.run_pure, Result.andThen_ok, invoke]
            exact hc _ w
          · intro v w' hk hx
            exact hn v w' hk (unR_sound hx)
        · refine wp_val (v := v) (w' := w) ?_ (hn v w (.refl w) (unR_sound hev))
          simp only [execOp, resolve, ha.eval hf, opds_arr ha hvs, Deferred.ofValue, Sem.run_bind, Sem.run_pure, Result.andThen_ok, invoke]
          exact hc w rfl
        · obtain ⟨v, w', hc, hk, -, hev⟩ := hev w rfl
          refine wp_val (v := v) (w' := w') ?_ (hn v w' hk (unR_sound hev))
          simp only [execOp, resolve, ha.eval hf, opds_arr ha hvs, Deferred.ofValue, Sem.run_bind, Sem.run_pure, Result.andThen_ok, invoke]
          exact hc
      case builtin b =>
        cases b <;> (try dsimp only at hm) <;> first | (subst hm; exact hev.elim) | skip
        case append =>
          split at hm <;> first | (subst hm; exact hev.elim) | skip
          rename_i p n c q m' d st xt hargs htys
          split at hm <;> first | (subst hm; exact hev.elim) | skip
          rename_i e e' hst hxt
          split at hm <;> first | (subst hm; exact hev.elim) | skip
          rename_i z b zv hz hb hzv
          by_cases hlen : zv.cells.toList.length = z
          · simp only [hlen, if_true] at hm
            subst hm
            obtain ⟨xs, hxs, hone, hrest⟩ := hev
            have hA := run_append (P := P) (s := ⟨p, n, c⟩) (x := ⟨q, m', d⟩) (ty := type) hst hxt hz hb hzv hxs hone
            have hty : argTypes = #[st, xt] := by apply Array.ext'; exact htys
            have hrun : ∀ v w', (Builtin.append_ #[st, xt] type #[.slice p n c, .slice q m' d]).run P w = .ok v w' → (execOp a.eval ⟨dst, .call ⟨.builtin .append, args, argTypes⟩, type, pos, after, guard⟩).run P w = .ok (.value v) w' := by
              intro v w' hv
              simp only [execOp, resolve, Sem.run_bind, Sem.run_pure, Result.andThen_ok, invoke, builtin, opds_arr ha hargs, hty]
              rw [show [Value.slice p n c, Value.slice q m' d].toArray = #[.slice p n c, .slice q m' d] from rfl, hv]
              rfl
            by_cases hle : n + m' ≤ c
            · simp only [hle, if_true] at hrest
              cases p with
              | none => exact wp_val (hrun _ _ (hA.1 hle w.heap rfl)) (hn _ _ (Kept.heap w _) hrest)
              | some ad =>
                obtain ⟨h1, h2⟩ := hrest
                exact wp_val (hrun _ _ (hA.1 hle _ ⟨h1, rfl⟩)) (hn _ _ (Kept.heap w _) h2)
            · simp only [hle, if_false] at hrest
              obtain ⟨h1, h2, old, h3, h4⟩ := hrest
              obtain ⟨c', hc', w', hk, hw', hr⟩ := hA.2 hle h1 h2 old h3
              refine wp_val (hrun _ _ hr) (hn _ _ hk ?_)
              rw [hw']
              exact h4 c' hc'
          · simp only [hlen, if_false] at hm; subst hm; exact hev.elim
        case copy =>
          split at hm <;> first | (subst hm; exact hev.elim) | skip
          rename_i p n c q m' d st ts hargs htys
          split at hm <;> first | (subst hm; exact hev.elim) | skip
          rename_i e hst
          split at hm <;> first | (subst hm; exact hev.elim) | skip
          rename_i z hz
          subst hm
          obtain ⟨xs, hxs, hone, hrest⟩ := hev
          have hat : argTypes[0]? = some st := by rw [← Array.getElem?_toList, htys]; rfl
          have hrun : ∀ v w', (Builtin.copy_ argTypes type #[.slice p n c, .slice q m' d]).run P w = .ok v w' → (execOp a.eval ⟨dst, .call ⟨.builtin .copy, args, argTypes⟩, type, pos, after, guard⟩).run P w = .ok (.value v) w' := by
            intro v w' hv
            simp only [execOp, resolve, Sem.run_bind, Sem.run_pure, Result.andThen_ok, invoke, builtin, opds_arr ha hargs]
            rw [show [Value.slice p n c, Value.slice q m' d].toArray = #[.slice p n c, .slice q m' d] from rfl, hv]
            rfl
          have hfc := slcells_sound (P := P) hxs w rfl
          simp only at hfc
          cases p with
          | none =>
            refine wp_val (hrun (.int .i64 (min m' n : Nat)) w ?_) (hn _ _ (.refl w) hrest)
            unfold Builtin.copy_
            simp only [hat, List.getElem?_toArray, List.getElem?_cons_zero, List.getElem?_cons_succ, Sem.run_bind, run_underlying hst, Result.andThen_ok, Builtin.lenOf, Sem.run_pure, run_sizeOf hz]
            rw [show Nat.min m' n = min m' n from rfl, hfc]
            rfl
          | some ad =>
            obtain ⟨h1, h2⟩ := hrest
            refine wp_val (hrun (.int .i64 (min m' n : Nat)) { w with heap := hsets w.heap ad 0 xs } ?_) (hn _ _ (Kept.heap w _) h2)
            unfold Builtin.copy_
            simp only [hat, List.getElem?_toArray, List.getElem?_cons_zero, List.getElem?_cons_succ, Sem.run_bind, run_underlying hst, Result.andThen_ok, Builtin.lenOf, Sem.run_pure, run_sizeOf hz]
            rw [show Nat.min m' n = min m' n from rfl, hfc]
            simp only [Result.andThen_ok]
            rw [hfree_sound xs 0 w.heap hone h1 w rfl]
            rfl
        case clear =>
          split at hm <;> first | (subst hm; exact hev.elim) | skip
          rename_i p n c st ts hargs htys
          split at hm <;> first | (subst hm; exact hev.elim) | skip
          rename_i e hst
          split at hm <;> first | (subst hm; exact hev.elim) | skip
          rename_i z zv hz hzv
          subst hm
          have hat : argTypes[0]? = some st := by rw [← Array.getElem?_toList, htys]; rfl
          have hrun : ∀ v w', (Builtin.clear_ argTypes type #[.slice p n c]).run P w = .ok v w' → (execOp a.eval ⟨dst, .call ⟨.builtin .clear, args, argTypes⟩, type, pos, after, guard⟩).run P w = .ok (.value v) w' := by
            intro v w' hv
            simp only [execOp, resolve, Sem.run_bind, Sem.run_pure, Result.andThen_ok, invoke, builtin, opds_arr ha hargs]
            rw [show [Value.slice p n c].toArray = #[.slice p n c] from rfl, hv]
            rfl
          cases p with
          | none =>
            refine wp_val (hrun undef w ?_) (hn _ _ (.refl w) hev)
            unfold Builtin.clear_
            simp only [hat, List.getElem?_toArray, List.getElem?_cons_zero, Sem.run_bind, run_underlying hst, Result.andThen_ok]
            cases n <;> rfl
          | some ad =>
            obtain ⟨h1, _, h2, h3⟩ := hev
            refine wp_val (hrun undef { w with heap := hsets w.heap ad 0 (mRow zv.cells n).toList } ?_) (hn _ _ (Kept.heap w _) h3)
            unfold Builtin.clear_
            simp only [hat, List.getElem?_toArray, List.getElem?_cons_zero, Sem.run_bind, run_underlying hst, Result.andThen_ok]
            cases n with
            | zero => simp [mRow, hsets]; rfl
            | succ n =>
              simp only [Sem.run_bind, run_zeroValue hzv, Result.andThen_ok, zeroCells_eq]
              rw [hfree_sound _ 0 w.heap h1 h2 w rfl]
              rfl
        case len =>
          split at hm <;> first | (subst hm; exact hev.elim) | skip
          rename_i p st ts hargs htys
          split at hm <;> first | (subst hm; exact hev.elim) | skip
          rename_i kt e hst
          split at hm <;> first | (subst hm; exact hev.elim) | skip
          rename_i kd hk
          subst hm
          cases p with
          | none => exact hev.elim
          | some r =>
            obtain ⟨f, n, ⟨m, clock, hb, _, hlen, _⟩, hev⟩ := hev
            have hat : argTypes[0]? = some st := by rw [← Array.getElem?_toList, htys]; rfl
            refine wp_val (v := .int .i64 n) (w' := w) ?_ (hn _ w (.refl w) hev)
            simp only [execOp, resolve, Sem.run_bind, Sem.run_pure, Result.andThen_ok, invoke, builtin, opds_arr ha hargs]
            unfold Builtin.len_
            simp only [hat, List.getElem?_toArray, List.getElem?_cons_zero, Sem.run_bind, run_underlying hst, Result.andThen_ok, run_getMap hb, Sem.run_pure]
            simp [goInt, hlen]
        case delete =>
          split at hm <;> first | (subst hm; exact hev.elim) | skip
          rename_i p kd key st ts hargs htys
          split at hm <;> first | (subst hm; exact hev.elim) | skip
          rename_i kt e hst
          split at hm <;> first | (subst hm; exact hev.elim) | skip
          rename_i kd' hk
          by_cases hkd : kd = kd'
          · subst hkd
            simp only [if_true] at hm
            subst hm
            cases p with
            | none => exact hev.elim
            | some r =>
              obtain ⟨f, n, hmap, hev⟩ := hev
              have hat : argTypes[0]? = some st := by rw [← Array.getElem?_toList, htys]; rfl
              obtain ⟨h', h1, h2, h3, h4⟩ := run_mapDelete (ty := type) (key := key) hat hst hk hmap
              refine wp_val (v := undef) (w' := { w with heap := h' }) ?_ (hn _ _ (Kept.heap w _) (hev h' h2 h3 h4))
              simp only [execOp, resolve, Sem.run_bind, Sem.run_pure, Result.andThen_ok, invoke, builtin, opds_arr ha hargs]
              rw [show [Value.map (some r), Value.int kd key].toArray = #[.map (some r), .int kd key] from rfl, h1]
              rfl
          · simp only [hkd, if_false] at hm; subst hm; exact hev.elim
end op
end Go.Sb
