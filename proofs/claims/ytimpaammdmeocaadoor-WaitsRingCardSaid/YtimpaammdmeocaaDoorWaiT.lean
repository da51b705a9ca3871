/- Who waits for whom: the plain graph, and what is reached there. Conditions: none. -/
import Derived.Test.YtimpaammdmeocaaDoorWaiS
import Derived.Test.YtimpaammdmeocaaDoorSbW
namespace Go.Proofs.YtimpaammdmeocaaDoor
open Go Go.Sb
set_option linter.unusedSimpArgs false
set_option linter.unusedVariables false
def gCells (rows : List Nat) : List Value := (List.range 4096).map fun i => .bool ((rows.getD (i / 64) 0).testBit (i % 64))
def mCells (m : Nat) : List Value := (List.range 64).map fun i => .bool (m.testBit i)
section
variable {α : Type} {h0 h : Hp} {L R : List As} {m g r : Nat} {rows : List Nat} {Q : α → Hp → Prop}
theorem Sep.stN {b : Nat} {cs cs' : List Value} {K : M α} (hs : Sep h0 h (aBlk b cs :: R)) (hl : cs'.length = cs.length) (h1 : ∀ v ∈ cs', v.oneCell' = true) (hK : ∀ h', Sep h0 h' (aBlk b cs' :: R) → K h' Q) : mStN ⟨b, 0, none⟩ cs' K h Q := by
  have e3 := hs.blk 0 rfl
  obtain ⟨g1, g2⟩ := hsets_blk cs' h 0 0 _ e3 (by omega)
  refine ⟨h1, fun j hj0 hj => ?_, hK _ (hs.upd fun F hF => ?_)⟩
  · rw [add_mk, e3.cell, e3.free]
    exact ⟨by rw [List.getElem?_eq_getElem (by omega)]; rfl, rfl⟩
  · unfold aBlk at hF ⊢
    obtain ⟨rfl, _⟩ := hF
    refine ⟨[b], ⟨rfl, ?_⟩, g2.mono fun i _ hi => by simp [hi], id, fun b hb => .inl hb⟩
    simp only [Nat.add_zero, Nat.zero_add, List.take_zero, List.nil_append] at g1
    rw [List.drop_of_length_le (by omega), List.append_nil] at g1
    exact g1
theorem Sep.ldN {b n : Nat} {cs : List Value} {K : List Value → M α} (hs : Sep h0 h L) (k : Nat) (hk : L[k]? = some (aBlk b cs)) (hn : cs.length = n) (hK : K cs h Q) : mLdN ⟨b, 0, none⟩ n K h Q := by
  refine ⟨cs, ?_, hK⟩
  rw [hcells_blk (hs.blk k hk) n 0 0 (by omega), List.drop_zero, List.take_of_length_le (by omega)]
theorem mCells_len : (mCells m).length = 64 := by simp [mCells]
theorem mCells_at {i : Nat} (hi : i < 64) : (mCells m)[i]? = some (.bool (m.testBit i)) := by simp [mCells, hi]
theorem mCells_set {i : Nat} : (mCells m).set i (.bool true) = mCells (m ||| 2 ^ i) := by
  apply List.ext_getElem (by simp [mCells])
  intro j h1 h2
  rw [List.getElem_set]
  simp only [mCells, List.getElem_map, List.getElem_range, Nat.testBit_or, Nat.testBit_two_pow]
  split
  · rename_i h; simp [h]
  · rename_i h; simp [h]
theorem mCells_off {i : Nat} (hi : i < 64) : (mCells m).set i (.bool false) = mCells (offN m (2 ^ i)) := by
  apply List.ext_getElem (by simp [mCells])
  intro j h1 h2
  have hj : j < 64 := by simpa [mCells] using h2
  rw [List.getElem_set]
  simp only [mCells, List.getElem_map, List.getElem_range]
  rw [testBit_off hi]
  split
  · rename_i h; simp [h]
  · rename_i h
    have : ¬ j = i := fun e => h e.symm
    simp [this, hj]
theorem m_ld {b : Nat} {K : Bool → M α} (hs : Sep h0 h L) (k : Nat) (hk : L[k]? = some (aBlk b (mCells m))) {i : Nat} (hi : i < 64) (hK : K (m.testBit i) h Q) : mIdx ⟨some ⟨b, 0, none⟩, 64, 64⟩ (i : Int) 1 (fun x => mLdB x K) h Q := by
  refine g_ix hi ?_
  exact hs.ldB k hk (mCells_at hi) hK
theorem gCells_at {a b : Nat} (ha : a < 64) (hb : b < 64) : (gCells rows)[64 * a + b]? = some (.bool ((rows.getD a 0).testBit b)) := by
  unfold gCells
  rw [List.getElem?_map, List.getElem?_range (by omega)]
  simp only [Option.map_some]
  rw [show (64 * a + b) / 64 = a by omega, show (64 * a + b) % 64 = b by omega]
theorem gCells_set (hg : GOk rows) {a b : Nat} (ha : a < 64) (hb : b < 64) {v : Bool} : (gCells rows).set (64 * a + b) (.bool v) = gCells (rows.set a (if v then rows.getD a 0 ||| 2 ^ b else offN (rows.getD a 0) (2 ^ b))) := by
  apply List.ext_getElem (by simp [gCells])
  intro j h1 h2
  have hj : j < 4096 := by simpa [gCells] using h2
  rw [List.getElem_set]
  simp only [gCells, List.getElem_map, List.getElem_range]
  have hlen := hg.len
  have hget : ∀ w, (rows.set a w).getD (j / 64) 0 = if a = j / 64 then w else rows.getD (j / 64) 0 := by
    intro w
    rw [List.getD_eq_getElem?_getD, List.getElem?_set]
    split
    · rw [if_pos (by omega)]; rfl
    · rw [List.getD_eq_getElem?_getD]
  rw [hget]
  split
  · rename_i h
    rw [if_pos (by omega)]
    have e : j % 64 = b := by omega
    cases v
    · simp only [Bool.false_eq_true, if_false]
      rw [e, testBit_off hb]; simp
    · simp only [if_true]
      rw [e, Nat.testBit_or, Nat.testBit_two_pow]; simp
  · rename_i h
    split
    · rename_i h3
      have hne : ¬ j % 64 = b := by omega
      have hne' : ¬ b = j % 64 := by omega
      cases v
      · simp only [Bool.false_eq_true, if_false]
        rw [testBit_off hb, ← h3]; simp [hne, show j % 64 < 64 by omega]
      · simp only [if_true]
        rw [Nat.testBit_or, Nat.testBit_two_pow, ← h3]; simp [hne']
    · rfl
theorem gg_ix {K : Addr → M α} {a b : Nat} (ha : a < 64) (hb : b < 64) (hK : K ⟨r, 64 * a + b, none⟩ h Q) : mIdx ⟨some ⟨r, 0, none⟩, 64, 64⟩ (a : Int) 64 (fun x => mIdx ⟨some x, 64, 64⟩ (b : Int) 1 K) h Q := by
  refine mIdx_of (by omega) (by omega) ?_
  rw [Int.toNat_natCast, add_mk]
  refine mIdx_of (by omega) (by omega) ?_
  rw [Int.toNat_natCast, add_mk, Nat.zero_add, Nat.mul_one, Nat.mul_comm]
  exact hK
theorem gg_ld {K : Bool → M α} (hs : Sep h0 h L) (k : Nat) (hk : L[k]? = some (aBlk r (gCells rows))) {a b : Nat} (ha : a < 64) (hb : b < 64) (hK : K ((rows.getD a 0).testBit b) h Q) : mIdx ⟨some ⟨r, 0, none⟩, 64, 64⟩ (a : Int) 64 (fun x => mIdx ⟨some x, 64, 64⟩ (b : Int) 1 fun y => mLdB y K) h Q := by
  refine gg_ix ha hb ?_
  exact hs.ldB k hk (gCells_at ha hb) hK
end
/-- where a pass through all pairs stands -/
structure Pass (rows : List Nat) (a m0 m b c : Nat) (ag : Bool) : Prop where
  lt : m < 2 ^ 64
  ok : ∀ i, m.testBit i = true → (reachN rows a).testBit i = true
  no : ag = false → m = m0 ∧ ∀ b' c', (b' < b ∨ (b' = b ∧ c' < c)) → c' < 64 → (b' = a ∨ m.testBit b' = true) → (rows.getD b' 0).testBit c' = true → m.testBit c' = true
  yes : ag = true → (lsN m0).length < (lsN m).length
  sub : (lsN m0).length ≤ (lsN m).length
theorem or_cnt {m c : Nat} (hm : m < 2 ^ 64) (hc : c < 64) (h : m.testBit c = false) : (lsN m).length < (lsN (m ||| 2 ^ c)).length := by
  refine cnt_lt (Nat.or_lt_two_pow hm (pow_lt hc)) (fun i hi => or_sub m _ i hi) fun e => ?_
  have := congrArg (fun z => Nat.testBit z c) e
  simp [Nat.testBit_or, Nat.testBit_two_pow, h] at this
section
variable {h0 h : Hp} {R : List As} {g r : Nat} {rows : List Nat}
theorem rr9 (hg : GOk rows) {a m0 t4 out : Nat} (ha : a < 64) {Q : Value → Hp → Prop} {b : Nat} (hb : b < 64)
    (next : ∀ (m : Nat) (ag : Bool) (h : Hp), Pass rows a m0 m (b + 1) 0 ag → Sep h0 h (aBlk out (mCells m) :: aBlk t4 (mCells 0) :: aBlk r (gCells rows) :: R) → K_signalboxref39_Graph_Reach_6 (some ⟨r, 0, none⟩) (a : Int) ⟨t4, 0, none⟩ ⟨out, 0, none⟩ ag ((b + 1 : Nat) : Int) h Q) : ∀ (d c m : Nat) (ag : Bool) (h : Hp), c + d = 64 → Pass rows a m0 m b c ag → Sep h0 h (aBlk out (mCells m) :: aBlk t4 (mCells 0) :: aBlk r (gCells rows) :: R) →
    K_signalboxref39_Graph_Reach_9 (some ⟨r, 0, none⟩) (a : Int) ⟨t4, 0, none⟩ ⟨out, 0, none⟩ ag (b : Int) (c : Int) h Q
  | 0, c, m, ag, h, hc, hp, hs => by
    apply S_signalboxref39_Graph_Reach_9
    unfold B_signalboxref39_Graph_Reach_9
    refine mIf_neg (by simp; omega) ?_
    rw [wrap64 _ (by omega), show (b : Int) + 1 = ((b + 1 : Nat) : Int) by omega]
    refine next m ag h ⟨hp.lt, hp.ok, fun hag => ⟨(hp.no hag).1, fun b' c' hbc h64 => (hp.no hag).2 b' c' ?_ h64⟩, hp.yes, hp.sub⟩ hs
    rcases hbc with hbc | ⟨_, hbc⟩
    · by_cases e : b' = b
      · exact .inr ⟨e, by omega⟩
      · exact .inl (by omega)
    · omega
  | d + 1, c, m, ag, h, hc, hp, hs => by
    have ih := rr9 hg ha hb next d (c + 1)
    have hw : IntKind.i64.wrap ((c : Int) + 1) = ((c + 1 : Nat) : Int) := by rw [wrap64 _ (by omega)]; omega
    apply S_signalboxref39_Graph_Reach_9
    unfold B_signalboxref39_Graph_Reach_9
    refine mIf_pos (by simp; omega) ?_
    rw [hw, mBind_ap]
    -- the pair is none to go by
    have stay : ¬ ((b = a ∨ m.testBit b = true) ∧ (rows.getD b 0).testBit c = true ∧ m.testBit c = false) → K_signalboxref39_Graph_Reach_9 (some ⟨r, 0, none⟩) (a : Int) ⟨t4, 0, none⟩ ⟨out, 0, none⟩ ag (b : Int) ((c + 1 : Nat) : Int) h Q := by
      intro hn
      refine ih m ag h (by omega) ⟨hp.lt, hp.ok, fun hag => ⟨(hp.no hag).1, fun b' c' hbc h64 h1 h2 => ?_⟩, hp.yes, hp.sub⟩ hs
      by_cases e : b' = b ∧ c' = c
      · obtain ⟨rfl, rfl⟩ := e
        cases hm : m.testBit c' with
        | true => rfl
        | false => exact absurd ⟨h1, h2, hm⟩ hn
      · exact (hp.no hag).2 b' c' (by omega) h64 h1 h2
    have go : (b = a ∨ m.testBit b = true) → (mBind (mNil (some ⟨r, 0, none⟩) fun (a10 : Addr) =>
      mIdx ⟨(some a10), 64, 64⟩ (b : Int) 64 fun (x31 : Addr) =>
      mIdx ⟨(some x31), 64, 64⟩ (c : Int) 1 fun (x32 : Addr) =>
      mLdB x32 fun (x33 : Bool) =>
      mRet x33) fun (b14 : Bool) =>
    mBind (mIf b14 (mIdx ⟨(some ⟨out, 0, none⟩), 64, 64⟩ (c : Int) 1 fun (x37 : Addr) =>
      mLdB x37 fun (x38 : Bool) =>
      mRet (!x38)) (mRet false)) fun (b17 : Bool) =>
    mIf b17 (
      mIdx ⟨(some ⟨out, 0, none⟩), 64, 64⟩ (c : Int) 1 fun (x42 : Addr) =>
      mSt x42 (.bool true) <|
      K_signalboxref39_Graph_Reach_9 (some ⟨r, 0, none⟩) (a : Int) ⟨t4, 0, none⟩ ⟨out, 0, none⟩ true (b : Int) ((c + 1 : Nat) : Int)) (
      K_signalboxref39_Graph_Reach_9 (some ⟨r, 0, none⟩) (a : Int) ⟨t4, 0, none⟩ ⟨out, 0, none⟩ ag (b : Int) ((c + 1 : Nat) : Int))) h Q := by
      intro h1
      rw [mBind_ap]
      simp only [mNil_some]
      refine gg_ld hs 2 rfl hb (show c < 64 by omega) ?_
      rw [mRet_ap, mBind_ap]
      cases h2 : (rows.getD b 0).testBit c with
      | false =>
        refine mIf_neg rfl ?_
        rw [mRet_ap]
        refine mIf_neg rfl (stay ?_)
        rw [h2]; simp
      | true =>
        refine mIf_pos rfl ?_
        refine m_ld hs 0 rfl (show c < 64 by omega) ?_
        rw [mRet_ap]
        cases h3 : m.testBit c with
        | true =>
          refine mIf_neg rfl (stay ?_)
          rw [h3]; simp
        | false =>
          refine mIf_pos rfl ?_
          refine g_ix (show c < 64 by omega) ?_
          refine hs.st 0 rfl (by rw [mCells_at (by omega)]; rfl) rfl fun h hs => ?_
          rw [List.set_cons_zero, mCells_set] at hs
          have hcnt := or_cnt hp.lt (show c < 64 by omega) h3
          refine ih _ true h (by omega) ⟨Nat.or_lt_two_pow hp.lt (pow_lt (by omega)), fun i hi => ?_, fun e => (by cases e), fun _ => Nat.lt_of_le_of_lt hp.sub hcnt, by have := hp.sub; omega⟩ hs
          rw [Nat.testBit_or, Bool.or_eq_true, Nat.testBit_two_pow] at hi
          rcases hi with hi | hi
          · exact hp.ok i hi
          · have : c = i := by simpa using hi
            subst this
            rcases h1 with rfl | h1
            · exact reach_base h2
            · exact reach_step hg (hp.ok b h1) h2
    refine mIf_intro (fun hc1 => ?_) (fun hc1 => ?_)
    · have hba : b = a := Int.ofNat_inj.1 (eq_of_beq hc1)
      rw [mRet_ap, mBind_ap]
      refine mIf_pos rfl ?_
      exact go (.inl hba)
    · have hba : b ≠ a := by intro e; subst e; simp at hc1
      refine m_ld hs 0 rfl hb ?_
      rw [mRet_ap, mBind_ap]
      cases h1 : m.testBit b with
      | true =>
        refine mIf_pos rfl ?_
        exact go (.inr h1)
      | false =>
        refine mIf_neg rfl ?_
        rw [mRet_ap, mBind_ap]
        refine mIf_neg rfl ?_
        rw [mRet_ap]
        refine mIf_neg rfl (stay ?_)
        rw [h1]; simp [hba]
theorem rr6 (hg : GOk rows) {a m0 t4 out : Nat} (ha : a < 64) {Q : Value → Hp → Prop}
    (next : ∀ (m : Nat) (ag : Bool) (h : Hp), Pass rows a m0 m 64 0 ag → Sep h0 h (aBlk out (mCells m) :: aBlk t4 (mCells 0) :: aBlk r (gCells rows) :: R) → K_signalboxref39_Graph_Reach_3 (some ⟨r, 0, none⟩) (a : Int) ⟨t4, 0, none⟩ ⟨out, 0, none⟩ ag h Q) : ∀ (d b m : Nat) (ag : Bool) (h : Hp), b + d = 64 → Pass rows a m0 m b 0 ag → Sep h0 h (aBlk out (mCells m) :: aBlk t4 (mCells 0) :: aBlk r (gCells rows) :: R) →
    K_signalboxref39_Graph_Reach_6 (some ⟨r, 0, none⟩) (a : Int) ⟨t4, 0, none⟩ ⟨out, 0, none⟩ ag (b : Int) h Q
  | 0, b, m, ag, h, hb, hp, hs => by
    have hb : b = 64 := by omega
    subst hb
    apply S_signalboxref39_Graph_Reach_6
    unfold B_signalboxref39_Graph_Reach_6
    refine mIf_neg (by simp) ?_
    exact next m ag h hp hs
  | d + 1, b, m, ag, h, hb, hp, hs => by
    apply S_signalboxref39_Graph_Reach_6
    unfold B_signalboxref39_Graph_Reach_6
    refine mIf_pos (by simp; omega) ?_
    exact rr9 hg ha (by omega) (fun m ag h hp hs => rr6 hg ha next d (b + 1) m ag h (by omega) hp hs) 64 0 m ag h rfl hp hs
theorem rr3 (hg : GOk rows) {a t4 out : Nat} (ha : a < 64) : ∀ (d m0 : Nat) (h : Hp), 64 ≤ d + (lsN m0).length → m0 < 2 ^ 64 → (∀ i, m0.testBit i = true → (reachN rows a).testBit i = true) → Sep h0 h (aBlk out (mCells m0) :: aBlk t4 (mCells 0) :: aBlk r (gCells rows) :: R) →
    K_signalboxref39_Graph_Reach_3 (some ⟨r, 0, none⟩) (a : Int) ⟨t4, 0, none⟩ ⟨out, 0, none⟩ true h (fun v h' => v = .agg (mCells (reachN rows a)).toArray ∧ Sep h0 h' (aBlk r (gCells rows) :: R))
  | d, m0, h, hd, hlt, hok, hs => by
    apply S_signalboxref39_Graph_Reach_3
    unfold B_signalboxref39_Graph_Reach_3
    refine mIf_pos rfl ?_
    refine rr6 hg ha (m0 := m0) (fun m ag h hp hsn => ?_) 64 0 m0 false h rfl ⟨hlt, hok, fun _ => ⟨rfl, fun b' c' hbc => by omega⟩, fun e => (by cases e), Nat.le_refl _⟩ hs
    cases ag with
    | true =>
      have h1 := hp.yes rfl
      have h64 := ls_len (w := m)
      obtain ⟨d, rfl⟩ : ∃ e, d = e + 1 := ⟨d - 1, by omega⟩
      exact rr3 hg ha d m h (by omega) hp.lt hp.ok hsn
    | false =>
      obtain ⟨rfl, hcl⟩ := hp.no rfl
      have hm : m = reachN rows a := by
        apply Nat.eq_of_testBit_eq
        intro i
        rw [Bool.eq_iff_iff]
        refine ⟨hp.ok i, fun hi => ?_⟩
        refine reach_least hg (P := fun j => m.testBit j = true) (fun j hj => ?_) (fun c j hc hj => ?_) i hi
        · exact hcl a j (.inl ha) (bit_lt (hg.at_ a) hj) (.inl rfl) hj
        · exact hcl c j (.inl (bit_lt hp.lt hc)) (bit_lt (hg.at_ c) hj) (.inr hc) hj
      rw [hm] at hsn
      apply S_signalboxref39_Graph_Reach_3
      unfold B_signalboxref39_Graph_Reach_3
      refine mIf_neg rfl ?_
      refine Sep.ldN hsn 0 rfl mCells_len ?_
      refine ⟨mCells_len, ?_⟩
      refine Sep.stN hsn.swap (by rw [mCells_len, mCells_len]) (by intro v hv; simp [mCells] at hv; obtain ⟨i, _, rfl⟩ := hv; rfl) fun h hs => ?_
      refine Sep.ldN hs 0 rfl mCells_len ?_
      exact ⟨rfl, hs.drop.drop⟩
theorem rReach_s (hg : GOk rows) {a : Nat} (ha : a < 64) (hs : Sep h0 h (aBlk r (gCells rows) :: R)) : N_signalboxref39_Graph_Reach (some ⟨r, 0, none⟩) (a : Int) h (fun v h' => v = .agg (mCells (reachN rows a)).toArray ∧ Sep h0 h' (aBlk r (gCells rows) :: R)) := by
  apply S_signalboxref39_Graph_Reach
  unfold B_signalboxref39_Graph_Reach
  refine Sep.new hs fun t4 h hs => ?_
  refine Sep.new hs fun out h hs => ?_
  exact rr3 hg ha 64 0 h (by omega) (Nat.two_pow_pos 64) (fun i hi => by simp at hi) hs
end
end Go.Proofs.YtimpaammdmeocaaDoor
