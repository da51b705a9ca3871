/- Times told by gaps: the list in memory, and what each call answers. Conditions: none. -/
import Derived.Test.YtinjifhjjkdmoaaDltM
import Derived.Test.YtinjifhjjkdmoaaSbW
import Derived.Test.YtinjifhjjkdmoaaSbX
import Derived.Test.YtinjifhjjkdmoaaSbY
import Derived.Test.YtinjifhjjkdmoaaDelP
namespace Go.Proofs.Ytinjifhjjkdmoaa
open Go Go.Sb
set_option linter.unusedSimpArgs false
set_option linter.unusedVariables false
/-- a node: its block, its key and gap -/
structure Nd where
  b : Nat
  k : Int
  g : Int
abbrev Nd.kg (n : Nd) : Int × Int := (n.k, n.g)
def ptrO : List Nd → Option Addr → Option Addr
  | [], p => p
  | n :: _, _ => some ⟨n.b, 0, none⟩
def ndA : List Nd → Option Addr → List As
  | [], _ => []
  | n :: l, p => aBlk n.b [.int .i64 n.k, .int .i64 n.g, .pointer (ptrO l p)] :: ndA l p
theorem ptrO_append (a b : List Nd) (p : Option Addr) : ptrO (a ++ b) p = ptrO a (ptrO b p) := by cases a <;> rfl
theorem ndA_append : ∀ (a b : List Nd) (p : Option Addr), ndA (a ++ b) p = ndA a (ptrO b p) ++ ndA b p
  | [], b, p => rfl
  | n :: a, b, p => by
    rw [List.cons_append, ndA, ndA, ndA_append a b p, ptrO_append]; rfl
theorem ndA_len : ∀ (a : List Nd) (p : Option Addr), (ndA a p).length = a.length
  | [], p => rfl
  | n :: a, p => by rw [ndA, List.length_cons, List.length_cons, ndA_len a p]
/-- where the pointer behind these nodes lies -/
def loc (d : Nat) : List Nd → Addr
  | [] => ⟨d, 0, none⟩
  | n :: l => match l with
    | [] => ⟨n.b, 2, none⟩
    | _ => loc d l
theorem loc_snoc (d : Nat) : ∀ (a : List Nd) (m : Nd), loc d (a ++ [m]) = ⟨m.b, 2, none⟩
  | [], m => rfl
  | n :: a, m => by
    have h1 := loc_snoc d a m
    cases a with
    | nil => rfl
    | cons n' a' => exact h1
/-- the head, and some nodes, and what the last one points to -/
abbrev dq (d : Nat) (n : Int) (a : List Nd) (q : Option Addr) (X : List As) : List As := aBlk d [.pointer (ptrO a q), .int .i64 n] :: (ndA a q ++ X)
section
variable {h0 h : Hp} {R X : List As} {d : Nat} {n : Int} {a b : List Nd} {q : Option Addr} {α : Type} {Q : α → Hp → Prop}
theorem dq_snoc (d : Nat) (n : Int) (a : List Nd) (m : Nd) (q : Option Addr) (X : List As) : dq d n (a ++ [m]) q X = dq d n a (some ⟨m.b, 0, none⟩) (aBlk m.b [.int .i64 m.k, .int .i64 m.g, .pointer q] :: X) := by
  unfold dq
  rw [ptrO_append, ndA_append, List.append_assoc]
  rfl
theorem dq_append (d : Nat) (n : Int) (a c : List Nd) (q : Option Addr) (X : List As) : dq d n (a ++ c) q X = dq d n a (ptrO c q) (ndA c q ++ X) := by
  unfold dq
  rw [ptrO_append, ndA_append, List.append_assoc]
theorem snoc_cases (a : List Nd) : a = [] ∨ ∃ c m, a = c ++ [m] := by
  rcases List.eq_nil_or_concat a with h | ⟨c, m, h⟩
  · exact .inl h
  · exact .inr ⟨c, m, by simpa using h⟩
theorem ldAt (hs : Sep h0 h (dq d n a q X)) {K : Option Addr → M α} (hK : K q h Q) : mLdP (loc d a) K h Q := by
  rcases snoc_cases a with rfl | ⟨c, m, rfl⟩
  · exact hs.ldP 0 rfl rfl hK
  · rw [dq_snoc] at hs
    rw [loc_snoc]
    refine hs.ldP (c.length + 1) (b := m.b) (o := 2) (cs := [.int .i64 m.k, .int .i64 m.g, .pointer q]) ?_ rfl hK
    rw [List.getElem?_cons_succ, List.getElem?_append_right (by rw [ndA_len]; omega), ndA_len, Nat.sub_self]
    rfl
theorem stAt (hs : Sep h0 h (dq d n a q X)) (q' : Option Addr) {K : M α} (hK : ∀ h', Sep h0 h' (dq d n a q' X) → K h' Q) : mSt (loc d a) (.pointer q') K h Q := by
  rcases snoc_cases a with rfl | ⟨c, m, rfl⟩
  · exact hs.st 0 rfl rfl rfl fun h' hs => hK h' hs
  · rw [dq_snoc] at hs
    rw [loc_snoc]
    refine hs.st (c.length + 1) (b := m.b) (o := 2) (cs := [.int .i64 m.k, .int .i64 m.g, .pointer q]) ?_ rfl rfl fun h' hs => hK h' ?_
    · rw [List.getElem?_cons_succ, List.getElem?_append_right (by rw [ndA_len]; omega), ndA_len, Nat.sub_self]
      rfl
    · rw [dq_snoc]
      rw [List.set_cons_succ, List.set_append_right _ _ (by rw [ndA_len]; omega), ndA_len, Nat.sub_self] at hs
      exact hs
theorem dqN (hs : Sep h0 h (dq d n a q X)) : Sep h0 h (aBlk d [.pointer (ptrO a q), .int .i64 n] :: (ndA a q ++ X)) := hs
/-- what stands behind the nodes comes to the head -/
theorem dqX {x : As} (hs : Sep h0 h (dq d n a q (x :: X))) : Sep h0 h (x :: dq d n a q X) := by
  refine hs.perm ?_
  exact (List.perm_middle (l₁ := aBlk d [.pointer (ptrO a q), .int .i64 n] :: ndA a q))
theorem dqX' {x : As} (hs : Sep h0 h (x :: dq d n a q X)) : Sep h0 h (dq d n a q (x :: X)) := by
  refine hs.perm ?_
  exact (List.perm_middle (l₁ := aBlk d [.pointer (ptrO a q), .int .i64 n] :: ndA a q)).symm
/-- THE LIST -/
def aDl (d : Nat) (l : DL) : As := aEx fun ns : List Nd => aStar (aPure (ns.map Nd.kg = l)) (aAll (dq d (l.length : Int) ns none []))
theorem aDl_iff {l : DL} : Sep h0 h (aDl d l :: R) ↔ ∃ ns : List Nd, ns.map Nd.kg = l ∧ Sep h0 h (dq d (l.length : Int) ns none R) := by
  unfold aDl
  rw [Sep.ex]
  simp only [Sep.star, Sep.pure]
  constructor
  · rintro ⟨ns, h1, h2⟩
    refine ⟨ns, h1, ?_⟩
    have := Sep.alls.1 h2
    simpa [dq] using this
  · rintro ⟨ns, h1, h2⟩
    refine ⟨ns, h1, Sep.alls.2 ?_⟩
    simpa [dq] using h2
theorem New_s (hs : Sep h0 h R) : N_delta_New h (fun v h' => ∃ d, v = .pointer (some ⟨d, 0, none⟩) ∧ Sep h0 h' (aDl d [] :: R)) := by
  apply S_delta_New
  unfold B_delta_New
  refine Sep.new hs fun b h hs => ?_
  exact ⟨b, rfl, aDl_iff.2 ⟨[], rfl, hs⟩⟩
/-- where a key's node hangs -/
def hang (d : Nat) (ns : List Nd) : Option (Nat × Int) → Value
  | none => .tuple #[.pointer none, .int .i64 0]
  | some (i, due) => .tuple #[.pointer (some (loc d (ns.take i))), .int .i64 due]
theorem link5 {key : Int} : ∀ (b a : List Nd) (due : Int), 0 ≤ due → (∀ p ∈ b.map Nd.kg, 0 ≤ p.2) → due + dsum (b.map Nd.kg) ≤ 16777216 → Sep h0 h (dq d n a (ptrO b none) (ndA b none ++ R)) →
    K_delta_List_link_5 key due (loc d a) h (fun v h' => v = hang d (a ++ b) (fnk key (b.map Nd.kg) a.length due) ∧ h' = h)
  | [], a, due, hd, hg, hsum, hs => by
    apply S_delta_List_link_5
    unfold B_delta_List_link_5
    refine ldAt hs ?_
    refine mIf_neg rfl ?_
    exact ⟨rfl, rfl⟩
  | m :: b, a, due, hd, hg, hsum, hs => by
    have hg1 := hg m.kg (by simp)
    have hg2 : ∀ p ∈ b.map Nd.kg, 0 ≤ p.2 := fun p hp => hg p (by simp only [List.map_cons, List.mem_cons]; exact .inr hp)
    have hnn := dsum_nn hg2
    have hsum' : due + (m.g + dsum (b.map Nd.kg)) ≤ 16777216 := hsum
    have hg1' : 0 ≤ m.g := hg1
    have hw : IntKind.i64.wrap (due + m.g) = due + m.g := wrap64 _ (by omega)
    have hx := dqX hs
    apply S_delta_List_link_5
    unfold B_delta_List_link_5
    refine ldAt hs ?_
    refine mIf_pos rfl ?_
    refine ldAt hs ?_
    simp only [ptrO, mNil_some, add_mk, Nat.zero_add]
    refine hx.ldI 0 rfl rfl ?_
    refine ldAt hs ?_
    simp only [ptrO, mNil_some, add_mk, Nat.zero_add]
    refine hx.ldI 0 rfl rfl ?_
    rw [hw]
    refine mIf_intro (fun hc => ?_) (fun hc => ?_)
    · have hk : m.k = key := by simpa using hc
      refine ⟨?_, rfl⟩
      rw [show fnk key ((m :: b).map Nd.kg) a.length due = some (a.length, due + m.g) from if_pos hk]
      show _ = Value.tuple #[.pointer (some (loc d ((a ++ m :: b).take a.length))), .int .i64 (due + m.g)]
      rw [List.take_left' rfl]
    · have hk : ¬ m.k = key := by simpa using hc
      refine ldAt hs ?_
      simp only [ptrO, mNil_some, add_mk, Nat.zero_add]
      have hs2 : Sep h0 h (dq d n (a ++ [m]) (ptrO b none) (ndA b none ++ R)) := by rw [dq_snoc]; exact hs
      have := link5 (key := key) b (a ++ [m]) (due + m.g) (by omega) hg2 (by omega) hs2
      rw [loc_snoc, List.append_assoc, List.length_append] at this
      rw [show fnk key ((m :: b).map Nd.kg) a.length due = fnk key (b.map Nd.kg) (a.length + 1) (due + m.g) from if_neg hk]
      exact this
theorem link_s {key : Int} {ns : List Nd} {l : DL} (hl : ns.map Nd.kg = l) (hok : DOk l) (hs : Sep h0 h (dq d n ns none R)) : N_delta_List_link (some ⟨d, 0, none⟩) key h (fun v h' => v = hang d ns (fnk key l 0 0) ∧ h' = h) := by
  apply S_delta_List_link
  unfold B_delta_List_link
  refine mIf_neg rfl ?_
  have hs2 : Sep h0 h (dq d n [] (ptrO ns none) (ndA ns none ++ R)) := hs
  have := link5 (key := key) ns [] 0 (by omega) (by rw [hl]; exact hok.gap) (by rw [hl]; have := hok.sum; omega) hs2
  rw [hl] at this
  exact this
/-- a key is put in -/
theorem put17 {x : Nat} (hs : Sep h0 h (dq d n a q X)) (hn : 0 ≤ n ∧ n ≤ 1000) : K_delta_List_Put_17 (some ⟨d, 0, none⟩) (loc d a) ⟨x, 0, none⟩ h (fun v h' => v = .int .i64 0 ∧ Sep h0 h' (dq d (n + 1) a (some ⟨x, 0, none⟩) X)) := by
  apply S_delta_List_Put_17
  unfold B_delta_List_Put_17
  refine stAt hs _ fun h hs => ?_
  simp only [mNil_some, add_mk, Nat.zero_add]
  refine hs.ldI 0 rfl rfl ?_
  rw [wrap64 (n + 1) (by omega)]
  refine hs.st 0 rfl rfl rfl fun h hs => ?_
  exact ⟨rfl, hs⟩
theorem put11 {key : Int} {nn : Nat} (hn : nn ≤ 1000) : ∀ (b a : List Nd) (t : Int) (h : Hp), 0 ≤ t → t ≤ 16777216 → DOk (b.map Nd.kg) → Sep h0 h (dq d (nn : Int) a (ptrO b none) (ndA b none ++ R)) →
    K_delta_List_Put_11 (some ⟨d, 0, none⟩) key t (loc d a) h (fun v h' => v = .int .i64 0 ∧ ∃ ns, ns.map Nd.kg = a.map Nd.kg ++ ins key (b.map Nd.kg) t ∧ Sep h0 h' (dq d ((nn + 1 : Nat) : Int) ns none R))
  | [], a, t, h, h0t, ht, hok, hs => by
    apply S_delta_List_Put_11
    unfold B_delta_List_Put_11
    refine ldAt hs ?_
    rw [mBind_ap]
    refine mIf_neg rfl ?_
    rw [mRet_ap]
    refine mIf_neg rfl ?_
    refine ldAt hs ?_
    refine Sep.new hs fun x h hs => ?_
    have hs : Sep h0 h (aBlk x [.int .i64 key, .int .i64 t, .pointer none] :: dq d (nn : Int) a none R) := hs
    simp only [add_mk, Nat.zero_add]
    refine hs.ldP 0 rfl rfl ?_
    refine mIf_neg rfl ?_
    refine (put17 (x := x) (dqX' hs) (by omega)).mono ?_
    rintro v h ⟨rfl, hs⟩
    refine ⟨rfl, a ++ [⟨x, key, t⟩], by simp [ins], ?_⟩
    rw [dq_snoc]
    exact hs
  | m :: b, a, t, h, h0t, ht, hok, hs => by
    obtain ⟨ok2, g0, gs, gn⟩ := hok.tail
    have hx := dqX hs
    apply S_delta_List_Put_11
    unfold B_delta_List_Put_11
    refine ldAt hs ?_
    rw [mBind_ap]
    refine mIf_pos rfl ?_
    refine ldAt hs ?_
    simp only [ptrO, mNil_some, add_mk, Nat.zero_add]
    refine hx.ldI 0 rfl rfl ?_
    rw [mRet_ap]
    refine mIf_dec (fun hc => ?_) (fun hc => ?_)
    · refine ldAt hs ?_
      simp only [ptrO, mNil_some, add_mk, Nat.zero_add]
      refine hx.ldI 0 rfl rfl ?_
      refine ldAt hs ?_
      simp only [ptrO, mNil_some, add_mk, Nat.zero_add]
      rw [wrap64 (t - m.g) (by omega)]
      have hs2 : Sep h0 h (dq d (nn : Int) (a ++ [m]) (ptrO b none) (ndA b none ++ R)) := by rw [dq_snoc]; exact hs
      have := put11 (key := key) hn b (a ++ [m]) (t - m.g) h (by omega) (by omega) ok2 hs2
      rw [loc_snoc] at this
      rw [show ins key ((m :: b).map Nd.kg) t = m.kg :: ins key (b.map Nd.kg) (t - m.g) from if_pos hc]
      rw [List.map_append, List.append_assoc] at this
      exact this
    · rw [show ins key ((m :: b).map Nd.kg) t = (key, t) :: (m.k, m.g - t) :: b.map Nd.kg from if_neg hc]
      refine ldAt hs ?_
      refine Sep.new hs fun x h hs => ?_
      have hs : Sep h0 h (aBlk x [.int .i64 key, .int .i64 t, .pointer (some ⟨m.b, 0, none⟩)] :: dq d (nn : Int) a (some ⟨m.b, 0, none⟩) (aBlk m.b [.int .i64 m.k, .int .i64 m.g, .pointer (ptrO b none)] :: (ndA b none ++ R))) := hs
      simp only [add_mk, Nat.zero_add]
      refine hs.ldP 0 rfl rfl ?_
      refine mIf_pos rfl ?_
      refine hs.ldP 0 rfl rfl ?_
      simp only [mNil_some, add_mk, Nat.zero_add]
      have hs : Sep h0 h (aBlk m.b [.int .i64 m.k, .int .i64 m.g, .pointer (ptrO b none)] :: aBlk x [.int .i64 key, .int .i64 t, .pointer (some ⟨m.b, 0, none⟩)] :: dq d (nn : Int) a (some ⟨m.b, 0, none⟩) (ndA b none ++ R)) :=
        hs.perm (List.perm_middle (l₁ := aBlk x [.int .i64 key, .int .i64 t, .pointer (some ⟨m.b, 0, none⟩)] :: aBlk d [.pointer (ptrO a (some ⟨m.b, 0, none⟩)), .int .i64 (nn : Int)] :: ndA a (some ⟨m.b, 0, none⟩)))
      refine hs.ldI 0 rfl rfl ?_
      rw [wrap64 (m.g - t) (by omega)]
      refine hs.st 0 rfl rfl rfl fun h hs => ?_
      have hs : Sep h0 h (aBlk x [.int .i64 key, .int .i64 t, .pointer (some ⟨m.b, 0, none⟩)] :: dq d (nn : Int) a (some ⟨m.b, 0, none⟩) (aBlk m.b [.int .i64 m.k, .int .i64 (m.g - t), .pointer (ptrO b none)] :: (ndA b none ++ R))) :=
        hs.perm (List.perm_middle (l₁ := aBlk x [.int .i64 key, .int .i64 t, .pointer (some ⟨m.b, 0, none⟩)] :: aBlk d [.pointer (ptrO a (some ⟨m.b, 0, none⟩)), .int .i64 (nn : Int)] :: ndA a (some ⟨m.b, 0, none⟩))).symm
      refine (put17 (x := x) (dqX' hs) (by omega)).mono ?_
      rintro v h ⟨rfl, hs⟩
      refine ⟨rfl, a ++ ⟨x, key, t⟩ :: ⟨m.b, m.k, m.g - t⟩ :: b, by simp, ?_⟩
      rw [dq_append]
      exact hs
/-- which code a putting gives -/
def putC (l : DL) (key t : Int) : Int := if t < 0 ∨ t > 16777216 then 5 else if (fnk key l 0 0).isSome then 10 else 0
def putL (l : DL) (key t : Int) : DL := if putC l key t = 0 then ins key l t else l
theorem Put_s {l : DL} {key t : Int} (hok : DOk l) (hlen : l.length ≤ 255) (hs : Sep h0 h (aDl d l :: R)) : N_delta_List_Put (some ⟨d, 0, none⟩) key t h (fun v h' => v = .int .i64 (putC l key t) ∧ Sep h0 h' (aDl d (putL l key t) :: R)) := by
  have hs0 := hs
  obtain ⟨ns, hl, hs⟩ := aDl_iff.1 hs
  apply S_delta_List_Put
  unfold B_delta_List_Put
  rw [mBind_ap]
  refine (link_s (key := key) hl hok hs).mono ?_
  rintro v h' ⟨rfl, rfl⟩
  have key1 : ∀ (p : Option Addr) (w : Int), p.isNone = (fnk key l 0 0).isNone → (mIf (some (⟨d, 0, none⟩ : Addr)).isNone (
    mRet (.int .i64 (1 : Int))) (
    mIf ((decide (t < (0 : Int))) || (decide (t > (16777216 : Int)))) (
      mRet (.int .i64 (5 : Int))) (
      mIf (!p.isNone) (
        mRet (.int .i64 (10 : Int))) (
        mNil (some (⟨d, 0, none⟩ : Addr)) fun (a3 : Addr) =>
        mLdI .i64 (a3.add 1) fun (x34 : Int) =>
        mIf (decide (x34 ≥ (256 : Int))) (
          mRet (.int .i64 (7 : Int))) (
          mNil (some (⟨d, 0, none⟩ : Addr)) fun (a7 : Addr) =>
          K_delta_List_Put_11 (some ⟨d, 0, none⟩) key t a7)))) : M Value) h' (fun v h' => v = .int .i64 (putC l key t) ∧ Sep h0 h' (aDl d (putL l key t) :: R)) := by
    intro p w hp
    refine mIf_neg rfl ?_
    unfold putL putC
    refine mIf_intro (fun hc => ?_) (fun hc => ?_)
    · have hc : t < 0 ∨ t > 16777216 := by simpa using hc
      rw [if_pos hc, if_neg (by omega)]
      exact ⟨rfl, hs0⟩
    · have hc : ¬ (t < 0 ∨ t > 16777216) := by simpa using hc
      rw [if_neg hc, hp]
      cases hf : fnk key l 0 0 with
      | some x =>
        refine mIf_pos rfl ?_
        exact ⟨rfl, hs0⟩
      | none =>
        refine mIf_neg rfl ?_
        simp only [mNil_some, add_mk, Nat.zero_add]
        refine hs.ldI 0 rfl rfl ?_
        refine mIf_neg (by simp; omega) ?_
        have hs2 : Sep h0 h' (dq d (l.length : Int) [] (ptrO ns none) (ndA ns none ++ R)) := hs
        refine (put11 (key := key) (by omega) ns [] t h' (by omega) (by omega) (by rw [hl]; exact hok) hs2).mono ?_
        rintro v h ⟨rfl, ns', hl', hs⟩
        refine ⟨rfl, aDl_iff.2 ⟨ns', ?_, ?_⟩⟩
        · rw [hl', hl]; rfl
        · show Sep h0 h (dq d ((ins key l t).length : Int) ns' none R)
          rw [ins_len]
          exact hs
  cases hf : fnk key l 0 0 with
  | none =>
    rw [hf] at key1
    exact key1 none 0 rfl
  | some x =>
    obtain ⟨i, due⟩ := x
    rw [hf] at key1
    exact key1 (some (loc d (ns.take i))) due rfl
/-- a node is taken out -/
theorem cut_s {m : Nd} {b : List Nd} (hok : DOk ((m :: b).map Nd.kg)) (hn : 0 ≤ n ∧ n ≤ 1000) (hs : Sep h0 h (dq d n a (ptrO (m :: b) none) (ndA (m :: b) none ++ R))) : N_delta_List_cut (some ⟨d, 0, none⟩) (some (loc d a)) h (fun v h' => v = .tuple #[] ∧ ∃ b', b'.map Nd.kg = cutL ((m :: b).map Nd.kg) 0 ∧ Sep h0 h' (dq d (n - 1) a (ptrO b' none) (ndA b' none ++ R))) := by
  obtain ⟨ok2, g0, gs, gn⟩ := hok.tail
  have cut3 : ∀ {h : Hp} {b' : List Nd} {k g : Int}, b'.map Nd.kg = cutL ((m :: b).map Nd.kg) 0 → Sep h0 h (dq d n a (some ⟨m.b, 0, none⟩) (aBlk m.b [.int .i64 k, .int .i64 g, .pointer (ptrO b' none)] :: (ndA b' none ++ R))) → K_delta_List_cut_3 (some ⟨d, 0, none⟩) (some (loc d a)) (some ⟨m.b, 0, none⟩) h (fun v h' => v = .tuple #[] ∧ ∃ b', b'.map Nd.kg = cutL ((m :: b).map Nd.kg) 0 ∧ Sep h0 h' (dq d (n - 1) a (ptrO b' none) (ndA b' none ++ R))) := by
    intro h b' k g he hs
    apply S_delta_List_cut_3
    unfold B_delta_List_cut_3
    simp only [mNil_some, add_mk, Nat.zero_add]
    refine (dqX hs).ldP 0 rfl rfl ?_
    refine stAt hs _ fun h hs => ?_
    refine hs.ldI 0 rfl rfl ?_
    rw [wrap64 (n - 1) (by omega)]
    refine hs.st 0 rfl rfl rfl fun h hs => ?_
    have hs : Sep h0 h (dq d (n - 1) a (ptrO b' none) (aBlk m.b [.int .i64 k, .int .i64 g, .pointer (ptrO b' none)] :: (ndA b' none ++ R))) := hs
    exact ⟨rfl, b', he, (dqX hs).drop⟩
  have hx := dqX hs
  apply S_delta_List_cut
  unfold B_delta_List_cut
  rw [mNil_some]
  refine ldAt hs ?_
  simp only [ptrO, mNil_some, add_mk, Nat.zero_add]
  refine hx.ldP 0 rfl rfl ?_
  cases b with
  | nil =>
    refine mIf_neg rfl ?_
    exact cut3 (b' := []) rfl hs
  | cons m2 b =>
    obtain ⟨ok3, g3, gs3, gn3⟩ := ok2.tail
    have gs' : m.g + (m2.g + dsum (b.map Nd.kg)) ≤ 16777216 := gs
    refine mIf_pos rfl ?_
    refine hx.ldP 0 rfl rfl ?_
    simp only [ptrO, mNil_some, add_mk, Nat.zero_add]
    have hx2 : Sep h0 h (aBlk m2.b [.int .i64 m2.k, .int .i64 m2.g, .pointer (ptrO b none)] :: aBlk m.b [.int .i64 m.k, .int .i64 m.g, .pointer (some ⟨m2.b, 0, none⟩)] :: dq d n a (some ⟨m.b, 0, none⟩) (ndA b none ++ R)) :=
      hx.perm (List.perm_middle (l₁ := aBlk m.b [.int .i64 m.k, .int .i64 m.g, .pointer (some ⟨m2.b, 0, none⟩)] :: aBlk d [.pointer (ptrO a (some ⟨m.b, 0, none⟩)), .int .i64 n] :: ndA a (some ⟨m.b, 0, none⟩)))
    refine hx2.ldI 0 rfl rfl ?_
    refine hx2.ldI 1 rfl rfl ?_
    rw [wrap64 (m2.g + m.g) (by omega)]
    refine hx2.st 0 rfl rfl rfl fun h hs => ?_
    have hs : Sep h0 h (aBlk m.b [.int .i64 m.k, .int .i64 m.g, .pointer (some ⟨m2.b, 0, none⟩)] :: dq d n a (some ⟨m.b, 0, none⟩) (aBlk m2.b [.int .i64 m2.k, .int .i64 (m2.g + m.g), .pointer (ptrO b none)] :: (ndA b none ++ R))) :=
      hs.perm (List.perm_middle (l₁ := aBlk m.b [.int .i64 m.k, .int .i64 m.g, .pointer (some ⟨m2.b, 0, none⟩)] :: aBlk d [.pointer (ptrO a (some ⟨m.b, 0, none⟩)), .int .i64 n] :: ndA a (some ⟨m.b, 0, none⟩))).symm
    exact cut3 (b' := ⟨m2.b, m2.k, m2.g + m.g⟩ :: b) rfl (dqX' hs)
theorem fnk_some {key : Int} : ∀ (l : DL) (i : Nat) (due : Int) (j : Nat) (w : Int), fnk key l i due = some (j, w) → i ≤ j ∧ j - i < l.length
  | [], i, due, j, w, h => by simp [fnk] at h
  | (k, g) :: r, i, due, j, w, h => by
    unfold fnk at h
    split at h
    · simp only [Option.some.injEq, Prod.mk.injEq] at h
      simp; omega
    · have := fnk_some r (i + 1) (due + g) j w h
      simp; omega
theorem cutL_split : ∀ (a : DL) (x : Int × Int) (b : DL), cutL (a ++ x :: b) a.length = a ++ cutL (x :: b) 0
  | [], x, b => rfl
  | y :: a, x, b => by
    have ih := cutL_split a x b
    have e : cutL (y :: (a ++ x :: b)) (a.length + 1) = y :: cutL (a ++ x :: b) a.length := by cases a <;> rfl
    rw [List.cons_append, List.length_cons, e, ih]
    rfl
theorem cutL_len : ∀ (l : DL) (i : Nat), i < l.length → (cutL l i).length = l.length - 1
  | [], i, h => by simp at h
  | [(_, _)], 0, h => rfl
  | (_, _) :: (_, _) :: r, 0, h => rfl
  | x :: r, i + 1, h => by
    have e : cutL (x :: r) (i + 1) = x :: cutL r i := by cases r <;> rfl
    rw [e, List.length_cons, cutL_len r i (by simpa using h), List.length_cons]
    simp at h
    omega
def dropL (l : DL) (key : Int) : DL := match fnk key l 0 0 with
  | none => l
  | some (i, _) => cutL l i
theorem Drop_s {l : DL} {key : Int} (hok : DOk l) (hlen : l.length ≤ 256) (hs : Sep h0 h (aDl d l :: R)) : N_delta_List_Drop (some ⟨d, 0, none⟩) key h (fun v h' => v = .bool (fnk key l 0 0).isSome ∧ Sep h0 h' (aDl d (dropL l key) :: R)) := by
  have hs0 := hs
  obtain ⟨ns, hl, hs⟩ := aDl_iff.1 hs
  apply S_delta_List_Drop
  unfold B_delta_List_Drop
  rw [mBind_ap]
  refine (link_s (key := key) hl hok hs).mono ?_
  rintro v h' ⟨rfl, rfl⟩
  unfold dropL
  cases hf : fnk key l 0 0 with
  | none =>
    simp only [hang, un2_tuple, unP_pointer, unI_int]
    refine mIf_pos rfl ?_
    exact ⟨rfl, hs0⟩
  | some x =>
    obtain ⟨i, due⟩ := x
    simp only [hang, un2_tuple, unP_pointer, unI_int]
    refine mIf_neg rfl ?_
    have hi := (fnk_some l 0 0 i due hf).2
    have hnl : ns.length = l.length := by rw [← hl]; simp
    have hin : i < ns.length := by omega
    have hsp : ns = ns.take i ++ ns[i] :: ns.drop (i + 1) := by rw [← List.drop_eq_getElem_cons hin, List.take_append_drop]
    rw [mBind_ap]
    have hs2 : Sep h0 h' (dq d (l.length : Int) (ns.take i) (ptrO (ns[i] :: ns.drop (i + 1)) none) (ndA (ns[i] :: ns.drop (i + 1)) none ++ R)) := by
      rw [hsp, dq_append] at hs
      exact hs
    have hok2 : DOk ((ns[i] :: ns.drop (i + 1)).map Nd.kg) := by
      rw [← List.drop_eq_getElem_cons hin, List.map_drop, hl]
      have : ∀ (l : DL) (i : Nat), DOk l → DOk (l.drop i) := by
        intro l
        induction l with
        | nil => intro i h; simpa using h
        | cons p r ih =>
          intro i h
          obtain ⟨k, g⟩ := p
          cases i with
          | zero => exact h
          | succ i => exact ih i h.tail.1
      exact this l i hok
    refine (cut_s hok2 (by omega) hs2).mono ?_
    rintro v h ⟨rfl, b', hb', hs⟩
    refine ⟨rfl, aDl_iff.2 ⟨ns.take i ++ b', ?_, ?_⟩⟩
    · rw [List.map_append, hb', List.map_take, hl]
      have h1 := cutL_split (l.take i) (ns[i].kg) ((ns.drop (i + 1)).map Nd.kg)
      have h2 : l = l.take i ++ ns[i].kg :: (ns.drop (i + 1)).map Nd.kg := by
        conv => lhs; rw [← hl, hsp]
        rw [List.map_append, List.map_take, hl]
        rfl
      rw [← h2, List.length_take, Nat.min_eq_left (by omega)] at h1
      exact h1.symm
    · rw [dq_append, cutL_len l i hi]
      rw [show ((l.length - 1 : Nat) : Int) = (l.length : Int) - 1 by omega]
      exact hs
def nextV (l : DL) : Value := .tuple #[.int .i64 (l.headD (0, 0)).2, .bool (decide (0 < l.length))]
theorem Next_s {l : DL} (hs : Sep h0 h (aDl d l :: R)) : N_delta_List_Next (some ⟨d, 0, none⟩) h (fun v h' => v = nextV l ∧ h' = h) := by
  obtain ⟨ns, hl, hs⟩ := aDl_iff.1 hs
  have hs2 : Sep h0 h (dq d (l.length : Int) [] (ptrO ns none) (ndA ns none ++ R)) := hs
  apply S_delta_List_Next
  unfold B_delta_List_Next
  rw [mBind_ap]
  refine mIf_neg rfl ?_
  rw [mNil_some]
  refine ldAt hs2 ?_
  cases ns with
  | nil =>
    subst hl
    rw [mRet_ap]
    refine mIf_pos rfl ?_
    exact ⟨rfl, rfl⟩
  | cons m ns =>
    subst hl
    rw [mRet_ap]
    refine mIf_neg rfl ?_
    rw [mNil_some]
    refine ldAt hs2 ?_
    simp only [ptrO, mNil_some, add_mk, Nat.zero_add]
    refine (dqX hs2).ldI 0 rfl rfl ?_
    exact ⟨rfl, rfl⟩
def dueV (o : Option (Nat × Int)) : Value := .tuple #[.int .i64 ((o.map (·.2)).getD 0), .bool o.isSome]
theorem Due_s {l : DL} {key : Int} (hok : DOk l) (hs : Sep h0 h (aDl d l :: R)) : N_delta_List_Due (some ⟨d, 0, none⟩) key h (fun v h' => v = dueV (fnk key l 0 0) ∧ h' = h) := by
  obtain ⟨ns, hl, hs⟩ := aDl_iff.1 hs
  apply S_delta_List_Due
  unfold B_delta_List_Due
  rw [mBind_ap]
  refine (link_s (key := key) hl hok hs).mono ?_
  rintro v h' ⟨rfl, rfl⟩
  cases hf : fnk key l 0 0 with
  | none => exact ⟨rfl, rfl⟩
  | some x => exact ⟨rfl, rfl⟩
end
end Go.Proofs.Ytinjifhjjkdmoaa
