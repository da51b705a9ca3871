/- The small logic in use: its steps as rewrite rules, blocks of memory, what is kept. Conditions: none. -/
import Derived.Test.YtbpnpmknamghkaaSbO
namespace Go.Sb
open Go

section rules
variable {α β : Type} {h : Hp} {Q : α → Hp → Prop}
@[simp] theorem mRet_ap (a : α) : mRet a h Q = Q a h := id rfl
@[simp] theorem mBind_ap (m : M β) (k : β → M α) : mBind m k h Q = m h fun a h' => k a h' Q := id rfl
@[simp] theorem mIf_true (x y : M α) : mIf true x y = x := id rfl
@[simp] theorem mIf_false (x y : M α) : mIf false x y = y := id rfl
@[simp] theorem mNil_some (a : Addr) (k : Addr → M α) : mNil (some a) k = k a := id rfl
@[simp] theorem mNil_none (k : Addr → M α) : mNil none k = mFail := id rfl
@[simp] theorem mFail_ap : (mFail : M α) h Q = False := id rfl
@[simp] theorem mAnd_ap (x y : M α) : mAnd x y h Q = (x h Q ∧ y h Q) := id rfl
@[simp] theorem mGuard_ap (c : Prop) (k : M α) : mGuard c k h Q = (c ∧ k h Q) := id rfl
@[simp] theorem mNew_ap (cs : Array Value) (T : TypeId) (k : Addr → M α) : mNew cs T k h Q = k ⟨h.size, 0, none⟩ (h.push (.cells cs T)) Q := id rfl
@[simp] theorem unI_int (kd : IntKind) (n : Int) (k : Int → M α) : unI kd (.int kd n) k = k n := by simp [unI]
@[simp] theorem unB_bool (b : Bool) (k : Bool → M α) : unB (.bool b) k = k b := id rfl
@[simp] theorem unS_string (b : ByteArray) (k : ByteArray → M α) : unS (.string b) k = k b := id rfl
@[simp] theorem unP_pointer (b : Option Addr) (k : Option Addr → M α) : unP (.pointer b) k = k b := id rfl
@[simp] theorem unL_slice (p : Option Addr) (n c : Nat) (k : Sl → M α) : unL (.slice p n c) k = k ⟨p, n, c⟩ := id rfl
@[simp] theorem unF_func (g : Nat) (f c : Array Value) (k : Nat → Array Value → Array Value → M α) : unF (.func (.func g) f c) k = k g f c := id rfl
@[simp] theorem unA_agg (cs : Array Value) (k : List Value → M α) : unA (.agg cs) k = k cs.toList := id rfl
@[simp] theorem unT_tuple (cs : Array Value) (k : List Value → M α) : unT (.tuple cs) k = k cs.toList := id rfl
@[simp] theorem unC_cons (c : Value) (cs : List Value) (k : Value → List Value → M α) : unC (c :: cs) k = k c cs := id rfl
@[simp] theorem unE_nil (k : M α) : unE [] k = k := id rfl
@[simp] theorem un2_tuple {β γ : Type} (u : Value → (β → M α) → M α) (u' : Value → (γ → M α) → M α) (a b : Value) (k : β → γ → M α) : un2 u u' (.tuple #[a, b]) k = u a fun x => u' b fun y => k x y := id rfl
@[simp] theorem un3_tuple {β γ δ : Type} (u : Value → (β → M α) → M α) (u' : Value → (γ → M α) → M α) (u'' : Value → (δ → M α) → M α) (a b c : Value) (k : β → γ → δ → M α) : un3 u u' u'' (.tuple #[a, b, c]) k = u a fun x => u' b fun y => u'' c fun z => k x y z := id rfl
theorem mIf_intro {b : Bool} {x y : M α} (hx : b = true → x h Q) (hy : b = false → y h Q) : mIf b x y h Q := by
  cases b
  · exact hy rfl
  · exact hx rfl
theorem mQ_intro {m : M Value} {k : Value → M α} (v : Value) (hm : m h fun v' h' => v' = v ∧ h' = h) (hk : k v h Q) : mQ m k h Q := ⟨v, hm, hk⟩
theorem mLdI_of {kd : IntKind} {a : Addr} {k : Int → M α} {n : Int} (hc : hcell h a = some (.int kd n)) (hk : k n h Q) : mLdI kd a k h Q := ⟨n, hc, hk⟩
theorem mLdB_of {a : Addr} {k : Bool → M α} {n : Bool} (hc : hcell h a = some (.bool n)) (hk : k n h Q) : mLdB a k h Q := ⟨n, hc, hk⟩
theorem mLdS_of {a : Addr} {k : ByteArray → M α} {n : ByteArray} (hc : hcell h a = some (.string n)) (hk : k n h Q) : mLdS a k h Q := ⟨n, hc, hk⟩
theorem mLdP_of {a : Addr} {k : Option Addr → M α} {n : Option Addr} (hc : hcell h a = some (.pointer n)) (hk : k n h Q) : mLdP a k h Q := ⟨n, hc, hk⟩
theorem mLdL_of {a : Addr} {k : Sl → M α} {p : Option Addr} {n c : Nat} (hc : hcell h a = some (.slice p n c)) (hk : k ⟨p, n, c⟩ h Q) : mLdL a k h Q := ⟨⟨p, n, c⟩, hc, hk⟩
theorem mSt_of {a : Addr} {v u : Value} {k : M α} (hv : v.oneCell' = true) (hc : hcell h a = some u) (hf : hfrozen h a = false) (hk : k (hset h a v) Q) : mSt a v k h Q := ⟨hv, by rw [hc]; rfl, hf, hk⟩
theorem mIdx_of {p : Addr} {n c : Nat} {i : Int} {sz : Nat} {k : Addr → M α} (h0 : 0 ≤ i) (h1 : i < n) (hk : k (p.add (i.toNat * sz)) h Q) : mIdx ⟨some p, n, c⟩ i sz k h Q := ⟨p, rfl, h0, h1, hk⟩
end rules

/-! ### blocks -/
/-- a block of the program's own, with what its cells hold -/
def Blk (h : Hp) (b : Nat) (cs : List Value) : Prop := ∃ T, h[b]? = some (.cells cs.toArray T (0, 0))
@[simp] theorem add_mk (b o k : Nat) : (⟨b, o, none⟩ : Addr).add k = ⟨b, o + k, none⟩ := by
  unfold Addr.add
  split
  · rename_i h; subst h; rfl
  · rfl
@[simp] theorem size_hset (h : Hp) (a : Addr) (v : Value) : (hset h a v).size = h.size := by simp [hset]
theorem Blk.lt {h : Hp} {b : Nat} {cs : List Value} (hb : Blk h b cs) : b < h.size := by
  obtain ⟨T, hT⟩ := hb
  exact (Array.getElem?_eq_some_iff.1 hT).1
theorem Blk.cell {h : Hp} {b : Nat} {cs : List Value} (hb : Blk h b cs) (o : Nat) : hcell h ⟨b, o, none⟩ = cs[o]? := by
  obtain ⟨T, hT⟩ := hb
  simp [hcell, hT]
theorem Blk.free {h : Hp} {b : Nat} {cs : List Value} (hb : Blk h b cs) (o : Nat) : hfrozen h ⟨b, o, none⟩ = false := by
  obtain ⟨T, hT⟩ := hb
  simp [hfrozen, hT]
theorem hset_at_ne (h : Hp) (a : Addr) (v : Value) (b : Nat) (hne : b ≠ a.block) : (hset h a v)[b]? = h[b]? := by
  simp only [hset, Array.getElem?_modify]
  rw [if_neg (fun e => hne e.symm)]
theorem Blk.set {h : Hp} {b : Nat} {cs : List Value} (hb : Blk h b cs) (o : Nat) (v : Value) : Blk (hset h ⟨b, o, none⟩ v) b (cs.set o v) := by
  obtain ⟨T, hT⟩ := hb
  refine ⟨T, ?_⟩
  simp [hset, Array.getElem?_modify, hT]
theorem Blk.other {h : Hp} {b : Nat} {cs : List Value} (hb : Blk h b cs) {a : Addr} (v : Value) (hne : b ≠ a.block) : Blk (hset h a v) b cs := by
  obtain ⟨T, hT⟩ := hb
  exact ⟨T, by rw [hset_at_ne h a v b hne]; exact hT⟩
theorem Blk.push {h : Hp} {b : Nat} {cs : List Value} (hb : Blk h b cs) (o : Obj) : Blk (h.push o) b cs := by
  have := hb.lt
  obtain ⟨T, hT⟩ := hb
  exact ⟨T, by rw [Array.getElem?_push, if_neg (by omega)]; exact hT⟩
theorem Blk.new (h : Hp) (cs : List Value) (T : TypeId) : Blk (h.push (.cells cs.toArray T)) h.size cs := ⟨T, by simp⟩
theorem Blk.new' (h : Hp) (cs : Array Value) (T : TypeId) : Blk (h.push (.cells cs T)) h.size cs.toList := ⟨T, by simp⟩
theorem Blk.uniq {h : Hp} {b : Nat} {cs cs' : List Value} (hb : Blk h b cs) (hb' : Blk h b cs') : cs = cs' := by
  obtain ⟨T, hT⟩ := hb
  obtain ⟨T', hT'⟩ := hb'
  rw [hT] at hT'
  exact (by simpa using hT' : cs = cs' ∧ T = T').1

/-- nothing but the blocks of F has turned -/
structure Keeps (F : Nat → Prop) (h h' : Hp) : Prop where
  size : h.size ≤ h'.size
  at_ : ∀ b, b < h.size → ¬ F b → h'[b]? = h[b]?
theorem Keeps.refl (F : Nat → Prop) (h : Hp) : Keeps F h h := ⟨Nat.le_refl _, fun _ _ _ => rfl⟩
theorem Keeps.trans {F : Nat → Prop} {a b c : Hp} (h : Keeps F a b) (h' : Keeps F b c) : Keeps F a c :=
  ⟨Nat.le_trans h.size h'.size, fun i hi hf => (h'.at_ i (Nat.lt_of_lt_of_le hi h.size) hf).trans (h.at_ i hi hf)⟩
theorem Keeps.mono {F G : Nat → Prop} {a b : Hp} (h : Keeps F a b) (hFG : ∀ i, i < a.size → F i → G i) : Keeps G a b :=
  ⟨h.size, fun i hi hg => h.at_ i hi fun hf => hg (hFG i hi hf)⟩
theorem Keeps.push (F : Nat → Prop) (h : Hp) (o : Obj) : Keeps F h (h.push o) := ⟨by simp, fun b hb _ => by rw [Array.getElem?_push, if_neg (by omega)]⟩
theorem Keeps.set {F : Nat → Prop} (h : Hp) (a : Addr) (v : Value) (hF : F a.block) : Keeps F h (hset h a v) :=
  ⟨by simp, fun b _ hb => hset_at_ne h a v b fun e => hb (e ▸ hF)⟩
theorem Keeps.blk {F : Nat → Prop} {h h' : Hp} (hk : Keeps F h h') {b : Nat} {cs : List Value} (hb : Blk h b cs) (hF : ¬ F b) : Blk h' b cs := by
  have := hb.lt
  obtain ⟨T, hT⟩ := hb
  exact ⟨T, by rw [hk.at_ b this hF]; exact hT⟩
theorem Keeps.cell {F : Nat → Prop} {h h' : Hp} (hk : Keeps F h h') {a : Addr} (ha : a.block < h.size) (hF : ¬ F a.block) : hcell h' a = hcell h a := by
  unfold hcell; rw [hk.at_ a.block ha hF]
/-- all that was there is as it was -/
abbrev Old (h h' : Hp) : Prop := Keeps (fun _ => False) h h'
/-- what stood below B is as it was -/
structure Under (B : Nat) (h h' : Hp) : Prop where
  size : h.size ≤ h'.size
  at_ : ∀ b, b < B → h'[b]? = h[b]?
theorem Under.refl (B : Nat) (h : Hp) : Under B h h := ⟨Nat.le_refl _, fun _ _ => rfl⟩
theorem Under.trans {B : Nat} {a b c : Hp} (h : Under B a b) (h' : Under B b c) : Under B a c := ⟨Nat.le_trans h.size h'.size, fun i hi => (h'.at_ i hi).trans (h.at_ i hi)⟩
theorem Under.push {B : Nat} (h : Hp) (o : Obj) (hB : B ≤ h.size) : Under B h (h.push o) := ⟨by simp, fun b hb => by rw [Array.getElem?_push, if_neg (by omega)]⟩
theorem Under.set {B : Nat} (h : Hp) (a : Addr) (v : Value) (hB : B ≤ a.block) : Under B h (hset h a v) := ⟨by simp, fun b hb => hset_at_ne h a v b (by omega)⟩
theorem Under.of_keeps {B : Nat} {F : Nat → Prop} {h h' : Hp} (hk : Keeps F h h') (hB : B ≤ h.size) (hF : ∀ b, F b → B ≤ b) : Under B h h' :=
  ⟨hk.size, fun b hb => hk.at_ b (by omega) fun hf => by have := hF b hf; omega⟩
theorem Under.cell {B : Nat} {h h' : Hp} (hu : Under B h h') {a : Addr} (ha : a.block < B) : hcell h' a = hcell h a := by
  unfold hcell; rw [hu.at_ a.block ha]

theorem wrap64 (n : Int) (h : -9223372036854775808 ≤ n ∧ n ≤ 9223372036854775807) : IntKind.i64.wrap n = n := IntWalk.i64_in n h
theorem wrapu8 (n : Int) (h : 0 ≤ n ∧ n ≤ 255) : IntKind.u8.wrap n = n := IntWalk.u8_in n h
theorem wrapu64 (n : Int) (h : 0 ≤ n ∧ n ≤ 18446744073709551615) : IntKind.u64.wrap n = n := by
  simp [IntKind.wrap, IntKind.bits, IntKind.signed]; omega

/-! ### rows of elements, each of the same number of cells -/
section rows
variable {α : Type}
theorem flat_length {enc : α → List Value} {sz : Nat} (he : ∀ a, (enc a).length = sz) : ∀ l : List α, (l.flatMap enc).length = l.length * sz
  | [] => by simp
  | a :: l => by rw [List.flatMap_cons, List.length_append, he, flat_length he l, List.length_cons, Nat.succ_mul]; omega
theorem flat_get {enc : α → List Value} {sz : Nat} (he : ∀ a, (enc a).length = sz) : ∀ (l : List α) (i j : Nat) (a : α), l[i]? = some a → j < sz → (l.flatMap enc)[i * sz + j]? = (enc a)[j]?
  | [], i, j, a, h, _ => by simp at h
  | b :: l, 0, j, a, h, hj => by
    simp only [List.getElem?_cons_zero, Option.some.injEq] at h
    subst h
    rw [List.flatMap_cons, Nat.zero_mul, Nat.zero_add, List.getElem?_append_left (by rw [he]; exact hj)]
  | b :: l, i + 1, j, a, h, hj => by
    simp only [List.getElem?_cons_succ] at h
    rw [List.flatMap_cons, List.getElem?_append_right (by rw [he, Nat.succ_mul]; omega), he, show (i + 1) * sz + j - sz = i * sz + j by rw [Nat.succ_mul]; omega]
    exact flat_get he l i j a h hj
theorem flat_set {enc : α → List Value} {sz : Nat} (he : ∀ a, (enc a).length = sz) : ∀ (l : List α) (i j : Nat) (a a' : α) (v : Value), l[i]? = some a → j < sz → enc a' = (enc a).set j v → (l.flatMap enc).set (i * sz + j) v = (l.set i a').flatMap enc
  | [], i, j, a, a', v, h, _, _ => by simp at h
  | b :: l, 0, j, a, a', v, h, hj, ha => by
    simp only [List.getElem?_cons_zero, Option.some.injEq] at h
    subst h
    rw [List.flatMap_cons, Nat.zero_mul, Nat.zero_add, List.set_append_left _ _ (by rw [he]; exact hj), List.set_cons_zero, List.flatMap_cons, ha]
  | b :: l, i + 1, j, a, a', v, h, hj, ha => by
    simp only [List.getElem?_cons_succ] at h
    rw [List.flatMap_cons, List.set_append_right _ _ (by rw [he, Nat.succ_mul]; omega), he, show (i + 1) * sz + j - sz = i * sz + j by rw [Nat.succ_mul]; omega, flat_set he l i j a a' v h hj ha, List.set_cons_succ, List.flatMap_cons]
end rows
theorem growBy_le (n : Nat) : ∀ (r c : Nat), c < n → Builtin.growBy n r c ≤ 2 * n + 192
  | 0, c, h => by simp only [Builtin.growBy]; omega
  | r + 1, c, h => by
    simp only [Builtin.growBy]
    split
    · omega
    · by_cases h2 : c + (c + 768) / 4 < n
      · exact growBy_le n r _ h2
      · have : ∀ (r c : Nat), n ≤ c → Builtin.growBy n r c = c ∨ r = 0 := by
          intro r c hc
          cases r with
          | zero => exact .inr rfl
          | succ r => left; simp only [Builtin.growBy]; rw [if_pos (by omega)]
        rcases this r (c + (c + 768) / 4) (by omega) with h3 | h3
        · rw [h3]; omega
        · subst h3; simp only [Builtin.growBy]; omega
theorem nextcap_le (n c : Nat) (h : c < n) : Builtin.nextslicecap n c ≤ 2 * n + 192 := by
  unfold Builtin.nextslicecap
  split
  · omega
  · split
    · omega
    · exact growBy_le n 4 c h

/-- a slice that the program owns, whose elements' cells are these -/
def OwnS (h : Hp) (s : Sl) (sz : Nat) (cs : List Value) : Prop :=
  (s = ⟨none, 0, 0⟩ ∧ cs = []) ∨ ∃ q rest, s.p = some ⟨q, 0, none⟩ ∧ cs.length = s.n * sz ∧ s.n ≤ s.c ∧ rest.length = (s.c - s.n) * sz ∧ Blk h q (cs ++ rest)
/-- the block of a slice's row -/
def Sl.at (s : Sl) (q : Nat) : Prop := ∃ o, s.p = some ⟨q, o, none⟩
theorem hcells_blk {h : Hp} {b : Nat} {cs : List Value} (hb : Blk h b cs) : ∀ (n o i : Nat), o + i + n ≤ cs.length → hcells h ⟨b, o, none⟩ i n = some ((cs.drop (o + i)).take n)
  | 0, o, i, _ => by simp [hcells]
  | n + 1, o, i, hl => by
    simp only [hcells, add_mk, hb.cell]
    rw [List.getElem?_eq_getElem (by omega), hcells_blk hb n o (i + 1) (by omega)]
    simp only []
    rw [List.drop_eq_getElem_cons (by omega : o + i < cs.length), List.take_succ_cons, Nat.add_assoc]
theorem OwnS.cells {h : Hp} {s : Sl} {sz : Nat} {cs : List Value} (ho : OwnS h s sz cs) : slcells h s s.n sz = some cs := by
  rcases ho with ⟨rfl, rfl⟩ | ⟨q, rest, hp, hl, hn, hr, hb⟩
  · rfl
  · unfold slcells
    rw [hp]
    simp only []
    rw [hcells_blk hb _ 0 0 (by simp; omega), ← hl]
    simp
theorem hsets_blk {b : Nat} : ∀ (vs : List Value) (h : Hp) (o i : Nat) (cs : List Value), Blk h b cs → o + i + vs.length ≤ cs.length →
    Blk (hsets h ⟨b, o, none⟩ i vs) b (cs.take (o + i) ++ vs ++ cs.drop (o + i + vs.length)) ∧ Keeps (· = b) h (hsets h ⟨b, o, none⟩ i vs)
  | [], h, o, i, cs, hb, _ => by simp [hsets, hb, Keeps.refl]
  | v :: vs, h, o, i, cs, hb, hl => by
    simp only [List.length_cons] at hl
    simp only [hsets, add_mk]
    obtain ⟨h1, h2⟩ := hsets_blk vs (hset h ⟨b, o + i, none⟩ v) o (i + 1) _ (hb.set (o + i) v) (by simp; omega)
    refine ⟨?_, (Keeps.set (F := fun x => x = b) h ⟨b, o + i, none⟩ v rfl).trans h2⟩
    have e : (cs.set (o + i) v).take (o + (i + 1)) ++ vs ++ (cs.set (o + i) v).drop (o + (i + 1) + vs.length) = cs.take (o + i) ++ v :: vs ++ cs.drop (o + i + (vs.length + 1)) := by
      apply List.ext_getElem?
      intro k
      simp only [List.getElem?_append, List.getElem?_take, List.getElem?_drop, List.length_append, List.length_take, List.length_set, List.getElem?_set, List.length_cons]
      have m1 : min (o + (i + 1)) cs.length = o + i + 1 := by omega
      have m2 : min (o + i) cs.length = o + i := by omega
      simp only [m1, m2]
      by_cases k1 : k < o + i
      · have : ¬ o + i = k := by omega
        simp [k1, this, show k < o + i + 1 + vs.length by omega, show k < o + i + 1 by omega, show k < o + i + (vs.length + 1) by omega, show k < o + (i + 1) by omega]
      · by_cases k2 : k = o + i
        · subst k2
          simp [show o + i < o + i + 1 + vs.length by omega, show o + i < cs.length by omega, show o + i < o + (i + 1) by omega]
        · by_cases k3 : k < o + i + 1 + vs.length
          · have e1 : k - (o + i) = (k - (o + i + 1)) + 1 := by omega
            simp [k1, k3, show ¬ k < o + i + 1 by omega, show k < o + i + (vs.length + 1) by omega, e1]
          · simp [k3, show ¬ k < o + i + (vs.length + 1) by omega]
            have e2 : o + (i + 1) + vs.length + (k - (o + i + 1 + vs.length)) = o + i + (vs.length + 1) + (k - (o + i + (vs.length + 1))) := by omega
            rw [e2]
            have : ¬ o + i = o + i + (vs.length + 1) + (k - (o + i + (vs.length + 1))) := by omega
            simp [this]
    rw [List.length_cons, ← e]
    exact h1
theorem mRow_length (z : Array Value) (n : Nat) : (mRow z n).size = n * z.size := by simp [mRow]
/-- APPEND to a slice that the program owns -/
theorem mApp_own {α : Type} {T sz bytes : Nat} {zero : Array Value} {s x : Sl} {k : Sl → M α} {h : Hp} {Q : α → Hp → Prop} {cs xs : List Value} (hs : OwnS h s sz cs) (hx : slcells h x x.n sz = some xs) (hone : ∀ v ∈ xs, v.oneCell' = true)
    (hz : zero.size = sz) (hxl : xs.length = x.n * sz) (hb : 0 < bytes) (hroom : (2 * (s.n + x.n) + 192) * bytes ≤ 2 ^ 48)
    (hk : ∀ s' h', OwnS h' s' sz (cs ++ xs) → s'.n = s.n + x.n → Keeps s.at h h' → (∀ q, s'.at q → s.at q ∨ h.size ≤ q) → k s' h' Q) : mApp T sz bytes zero s x k h Q := by
  refine ⟨xs, hx, hone, ?_⟩
  by_cases hle : s.n + x.n ≤ s.c
  · rw [if_pos hle]
    rcases hs with ⟨rfl, rfl⟩ | ⟨q, rest, hp, hl, hn, hr, hblk⟩
    · simp only at hle ⊢
      have hx0 : x.n = 0 := by omega
      have : xs = [] := by rw [hx0] at hxl; simpa using hxl
      subst this
      refine hk _ _ (.inl ⟨by rw [hx0], rfl⟩) rfl (.refl _ _) ?_
      rintro q ⟨o, h⟩; cases h
    · simp only [hp, add_mk, Nat.zero_add]
      have hroom2 : s.n * sz + xs.length ≤ (cs ++ rest).length := by
        rw [List.length_append, hl, hr, hxl]
        have : (s.c - s.n) * sz ≥ x.n * sz := Nat.mul_le_mul_right _ (by omega)
        omega
      obtain ⟨h1, h2⟩ := hsets_blk xs h (s.n * sz) 0 (cs ++ rest) hblk (by omega)
      refine ⟨fun j hj0 hj => ?_, hk _ _ (.inr ⟨q, (cs ++ rest).drop (s.n * sz + xs.length), rfl, ?_, hle, ?_, ?_⟩) rfl (h2.mono fun i _ hi => ⟨0, by rw [hp, hi]⟩) ?_⟩
      · rw [add_mk, hblk.cell, hblk.free]
        exact ⟨by rw [List.getElem?_eq_getElem (by omega)]; rfl, rfl⟩
      · simp only [List.length_append]; rw [hl, hxl, Nat.add_mul]
      · rw [List.length_drop, List.length_append, hl, hr, hxl]
        simp only
        rw [Nat.sub_mul, Nat.sub_mul, Nat.add_mul]
        have : (s.n + x.n) * sz ≤ s.c * sz := Nat.mul_le_mul_right _ hle
        rw [Nat.add_mul] at this
        omega
      · rw [Nat.add_zero] at h1
        rw [← hl, List.take_left' rfl, hl] at h1
        rw [List.append_assoc] at h1 ⊢
        exact h1
      · rintro q' ⟨o, ho⟩
        simp only [Option.some.injEq, Addr.mk.injEq] at ho
        exact .inl ⟨0, by rw [hp, ho.1]⟩
  · rw [if_neg hle]
    have hnc := nextcap_le (s.n + x.n) s.c (by omega)
    refine ⟨hb, Nat.le_trans (Nat.mul_le_mul_right _ hnc) hroom, cs, hs.cells, fun c hc => ?_⟩
    have hcl : cs.length = s.n * sz := by
      rcases hs with ⟨rfl, rfl⟩ | ⟨q, rest, hp, hl, _⟩
      · simp
      · exact hl
    refine hk _ _ (.inr ⟨h.size, (mRow zero (c - (s.n + x.n))).toList, rfl, ?_, hc, ?_, ?_⟩) rfl (.push _ _ _) ?_
    · rw [List.length_append, hcl, hxl, Nat.add_mul]
    · rw [Array.length_toList, mRow_length, hz]
    · have := Blk.new' h ((cs ++ xs).toArray ++ mRow zero (c - (s.n + x.n))) T
      simpa using this
    · rintro q' ⟨o, ho⟩
      simp only [Option.some.injEq, Addr.mk.injEq] at ho
      exact .inr (by omega)

/-- a row of whole numbers that can be read, below block B -/
structure RdI (B : Nat) (h : Hp) (k : IntKind) (s : Sl) (zs : List Int) : Prop where
  n : s.n = zs.length
  at_ : ∀ i z, zs[i]? = some z → ∃ a, s.p = some a ∧ a.block < B ∧ hcell h (a.add i) = some (.int k z)
  wf : ∀ z ∈ zs, k.min ≤ z ∧ z ≤ k.max
theorem add_block (a : Addr) (i : Nat) : (a.add i).block = a.block := by unfold Addr.add; split <;> rfl
theorem RdI.under {B : Nat} {h h' : Hp} {k : IntKind} {s : Sl} {zs : List Int} (hr : RdI B h k s zs) (hu : Under B h h') : RdI B h' k s zs :=
  ⟨hr.n, fun i z hz => by
    obtain ⟨a, h1, h2, h3⟩ := hr.at_ i z hz
    exact ⟨a, h1, h2, by rw [hu.cell (by rw [add_block]; exact h2)]; exact h3⟩, hr.wf⟩
theorem RdI.idx {α : Type} {B : Nat} {h : Hp} {k : IntKind} {s : Sl} {zs : List Int} (hr : RdI B h k s zs) {i : Int} {K : Addr → M α} {Q : α → Hp → Prop} (h0 : 0 ≤ i) (h1 : i < zs.length)
    (hk : ∀ a, hcell h a = some (.int k (zs.getD i.toNat 0)) → K a h Q) : mIdx s i 1 K h Q := by
  have hlt : i.toNat < zs.length := by omega
  obtain ⟨a, e1, _, e3⟩ := hr.at_ i.toNat _ (List.getElem?_eq_getElem hlt)
  refine ⟨a, e1, h0, by rw [hr.n]; exact h1, hk _ ?_⟩
  rw [Nat.mul_one, e3]
  simp [hlt]
theorem RdI.blk {B b : Nat} {h : Hp} {k : IntKind} {zs : List Int} {rest : List Value} {c : Nat} (hb : Blk h b (zs.map (.int k) ++ rest)) (hB : b < B) (hwf : ∀ z ∈ zs, k.min ≤ z ∧ z ≤ k.max) : RdI B h k ⟨some ⟨b, 0, none⟩, zs.length, c⟩ zs :=
  ⟨rfl, fun i z hz => ⟨_, rfl, hB, by
    rw [add_mk, hb.cell, Nat.zero_add, List.getElem?_append_left (by have := (List.getElem?_eq_some_iff.1 hz).1; simpa using this)]
    simp [hz]⟩, hwf⟩
/-- a row of bools that can be read, below block B -/
structure RdB (B : Nat) (h : Hp) (s : Sl) (zs : List Bool) : Prop where
  n : s.n = zs.length
  at_ : ∀ i z, zs[i]? = some z → ∃ a, s.p = some a ∧ a.block < B ∧ hcell h (a.add i) = some (.bool z)
theorem RdB.under {B : Nat} {h h' : Hp} {s : Sl} {zs : List Bool} (hr : RdB B h s zs) (hu : Under B h h') : RdB B h' s zs :=
  ⟨hr.n, fun i z hz => by
    obtain ⟨a, h1, h2, h3⟩ := hr.at_ i z hz
    exact ⟨a, h1, h2, by rw [hu.cell (by rw [add_block]; exact h2)]; exact h3⟩⟩
theorem RdB.idx {α : Type} {B : Nat} {h : Hp} {s : Sl} {zs : List Bool} (hr : RdB B h s zs) {i : Int} {K : Addr → M α} {Q : α → Hp → Prop} (h0 : 0 ≤ i) (h1 : i < zs.length)
    (hk : ∀ a, hcell h a = some (.bool (zs.getD i.toNat false)) → K a h Q) : mIdx s i 1 K h Q := by
  have hlt : i.toNat < zs.length := by omega
  obtain ⟨a, e1, _, e3⟩ := hr.at_ i.toNat _ (List.getElem?_eq_getElem hlt)
  refine ⟨a, e1, h0, by rw [hr.n]; exact h1, hk _ ?_⟩
  rw [Nat.mul_one, e3]
  simp [hlt]
theorem Nf_conseq {P : Program} {f : FuncId} {args : Array Value} {h : Hp} {Q Q' : Value → Hp → Prop} (hh : Nf P f args h Q) (hq : ∀ v h', Q v h' → Q' v h') : Nf P f args h Q' := hh.mono hq

/-! ### bits -/
theorem bv_wrap64 (n : Int) : BitVec.ofInt 64 (IntKind.i64.wrap n) = BitVec.ofInt 64 n := by
  apply BitVec.eq_of_toInt_eq
  simp only [BitVec.toInt_ofInt]
  rw [IntKind.wrap_i64]
  unfold Int.bmod
  simp only [Nat.reducePow]
  omega
theorem bv_wrap8 (n : Int) : BitVec.ofInt 8 (IntKind.u8.wrap n) = BitVec.ofInt 8 n := by
  apply BitVec.eq_of_toNat_eq
  simp only [BitVec.toNat_ofInt]
  rw [IntKind.wrap_u8]
  simp only [Nat.reducePow]
  omega
theorem bv_ofNat (w : Nat) (x : BitVec w) : BitVec.ofInt w (x.toNat : Int) = x := by
  apply BitVec.eq_of_toNat_eq
  simp
/-- the low 8 bits of a number -/
def low8 (m : Int) : BitVec 8 := BitVec.ofInt 8 m
theorem low8_wrap64 (n : Int) : low8 (IntKind.i64.wrap n) = low8 n := by
  unfold low8
  apply BitVec.eq_of_toNat_eq
  simp only [BitVec.toNat_ofInt]
  rw [IntKind.wrap_i64]
  simp only [Nat.reducePow]
  omega
theorem low8_set (m : Int) : low8 m = (BitVec.ofInt 64 m).setWidth 8 := by
  unfold low8
  apply BitVec.eq_of_toNat_eq
  simp only [BitVec.toNat_ofInt, BitVec.toNat_setWidth, Nat.reducePow]
  omega
theorem low8_nat (x : BitVec 64) : low8 (x.toNat : Int) = x.setWidth 8 := by rw [low8_set, bv_ofNat]
theorem iand_255 (m : Int) : iand .i64 m 255 = ((low8 m).toNat : Int) := by
  unfold iand
  show IntKind.i64.wrap ((BitVec.ofInt 64 m &&& BitVec.ofInt 64 255).toNat : Int) = _
  have h1 : (BitVec.ofInt 64 m &&& BitVec.ofInt 64 255).toNat = (low8 m).toNat := by
    rw [low8_set, BitVec.toNat_and, BitVec.toNat_setWidth]
    have : (BitVec.ofInt 64 255).toNat = 2 ^ 8 - 1 := by decide
    rw [this, Nat.and_two_pow_sub_one_eq_mod]
  rw [h1]
  have := (low8 m).isLt
  exact wrap64 _ (by omega)
theorem low8_iand (a b : Int) : low8 (iand .i64 a b) = low8 a &&& low8 b := by
  unfold iand
  rw [low8_wrap64]
  show low8 ((BitVec.ofInt 64 a &&& BitVec.ofInt 64 b).toNat : Int) = _
  rw [low8_nat, BitVec.setWidth_and, low8_set, low8_set]
theorem low8_ior (a b : Int) : low8 (ior .i64 a b) = low8 a ||| low8 b := by
  unfold ior
  rw [low8_wrap64]
  show low8 ((BitVec.ofInt 64 a ||| BitVec.ofInt 64 b).toNat : Int) = _
  rw [low8_nat, BitVec.setWidth_or, low8_set, low8_set]
theorem low8_iandn (a b : Int) : low8 (iandn .i64 a b) = low8 a &&& ~~~low8 b := by
  unfold iandn
  rw [low8_wrap64]
  show low8 ((BitVec.ofInt 64 a &&& ~~~BitVec.ofInt 64 b).toNat : Int) = _
  rw [low8_nat, low8_set, low8_set]
  apply BitVec.eq_of_getLsbD_eq
  intro i hi
  simp [hi]
theorem low8_bv (x : BitVec 8) : low8 (x.toNat : Int) = x := bv_ofNat 8 x
theorem u8_bv (x : BitVec 8) : IntKind.u8.wrap (x.toNat : Int) = x.toNat := wrapu8 _ (by have := x.isLt; omega)

theorem mRow_one (z : Value) (n : Nat) : mRow #[z] n = Array.replicate n z := by
  unfold mRow
  apply Array.ext (by simp)
  intro i h1 h2
  simp [Nat.mod_one]

end Go.Sb
