/- Pool: what each call answers, over what is owned. Conditions: none. -/
import Derived.Test.YtkoenpliddhhoaaPoolM
import Derived.Test.YtkoenpliddhhoaaSbS
namespace Go.Proofs.Ytkoenpliddhhoaa
open Go Go.Sb
set_option linter.unusedSimpArgs false
set_option linter.unusedVariables false

structure Cell where
  next : Int
  owner : Int
  taken : Bool
def Cell.enc (x : Cell) : List Value := [.int .i64 x.next, .int .i64 x.owner, .bool x.taken]
/-- free blocks, each naming the next one -/
def Chain (cells : List Cell) : Int → List Nat → Prop
  | first, [] => first = -1
  | first, i :: fr => first = (i : Int) ∧ ∃ c, cells[i]? = some c ∧ Chain cells c.next fr
theorem Chain.set {cells : List Cell} {i : Nat} {c : Cell} : ∀ {first : Int} {fr : List Nat}, Chain cells first fr → i ∉ fr → Chain (cells.set i c) first fr
  | _, [], h, _ => h
  | _, j :: fr, ⟨h1, c', h2, h3⟩, hi => by
    simp only [List.mem_cons, not_or] at hi
    exact ⟨h1, c', by rw [List.getElem?_set_ne hi.1]; exact h2, h3.set hi.2⟩
structure PI (n : Nat) (cells : List Cell) (first : Int) (fr : List Nat) (tk : List Bool) (ow : List Int) : Prop where
  n1 : cells.length = n
  n2 : tk.length = n
  n3 : ow.length = n
  nd : fr.Nodup
  chain : Chain cells first fr
  free : ∀ i ∈ fr, tk[i]? = some false
  tk_ : ∀ (i : Nat) (c : Cell), cells[i]? = some c → tk[i]? = some c.taken ∧ (c.taken = true → ow[i]? = some c.owner)
theorem PI.fr_lt {n : Nat} {cells : List Cell} {first : Int} {fr : List Nat} {tk : List Bool} {ow : List Int} (h : PI n cells first fr tk ow) {i : Nat} (hi : i ∈ fr) : i < n := by
  have := h.free i hi
  have := (List.getElem?_eq_some_iff.1 this).1
  have := h.n2
  omega
theorem nodup_le : ∀ (n : Nat) (l : List Nat), l.Nodup → (∀ i ∈ l, i < n) → l.length ≤ n
  | 0, l, _, hl => by
    cases l with
    | nil => simp
    | cons x l => have := hl x (by simp); omega
  | n + 1, l, hn, hl => by
    by_cases hm : n ∈ l
    · have h1 := nodup_le n (l.erase n) (hn.erase n) fun i hi => by
        have := (hn.mem_erase_iff).1 hi
        have := hl i this.2
        omega
      rw [List.length_erase_of_mem hm] at h1
      omega
    · have := nodup_le n l hn fun i hi => by
        have := hl i hi
        have : i ≠ n := fun h => hm (h ▸ hi)
        omega
      omega
theorem PI.fr_le {n : Nat} {cells : List Cell} {first : Int} {fr : List Nat} {tk : List Bool} {ow : List Int} (h : PI n cells first fr tk ow) : fr.length ≤ n := nodup_le n fr h.nd fun _ hi => h.fr_lt hi
def aPool (b n : Nat) (fr : List Nat) (tk : List Bool) (ow : List Int) (low : Int) : As := aEx fun x : Sl × List Cell × Int => aStar (aPure (PI n x.2.1 x.2.2 fr tk ow)) (aStar (aBlk b [.slice x.1.p x.1.n x.1.c, .int .i64 x.2.2, .int .i64 fr.length, .int .i64 low]) (aRow Cell.enc 3 x.1 x.2.1))
section
variable {h0 h : Hp} {R : List As} {b n : Nat} {fr : List Nat} {tk : List Bool} {ow : List Int} {low : Int}
theorem aPool_iff : Sep h0 h (aPool b n fr tk ow low :: R) ↔ ∃ (s : Sl) (cells : List Cell) (first : Int), PI n cells first fr tk ow ∧ Sep h0 h (aBlk b [.slice s.p s.n s.c, .int .i64 first, .int .i64 fr.length, .int .i64 low] :: aRow Cell.enc 3 s cells :: R) := by
  unfold aPool; rw [Sep.ex]; simp only [Sep.star, Sep.pure, Prod.exists]
theorem range'_chain {n k : Nat} {cells : List Cell} {first : Int} {tk : List Bool} {ow : List Int} (h : PI n cells first (List.range' (k + 1) (n - (k + 1))) tk ow) (hk : k < n) {c : Cell} (hc : cells[k]? = some c) (hf : c.taken = false) :
    PI n (cells.set k ⟨first, c.owner, c.taken⟩) k (List.range' k (n - k)) tk ow where
  n1 := by simpa using h.n1
  n2 := h.n2
  n3 := h.n3
  nd := List.nodup_range'
  chain := by
    have hl := h.n1
    rw [show n - k = (n - (k + 1)) + 1 by omega, List.range'_succ]
    refine ⟨rfl, _, by rw [List.getElem?_set_self (by omega)], ?_⟩
    exact h.chain.set (by simp; omega)
  free := by
    intro i hi
    rw [show n - k = (n - (k + 1)) + 1 by omega, List.range'_succ, List.mem_cons] at hi
    rcases hi with rfl | hi
    · rw [(h.tk_ _ _ hc).1, hf]
    · exact h.free i hi
  tk_ := by
    intro i c' hc'
    rw [List.getElem?_set] at hc'
    split at hc'
    · subst_vars
      split at hc'
      · cases hc'; exact ⟨(h.tk_ _ _ hc).1, fun ht => by simp [hf] at ht⟩
      · cases hc'
    · exact h.tk_ i c' hc'
theorem New_s (hs : Sep h0 h R) (hn : n ≤ 1024) : N_pool_New (n : Int) h (fun v h' => ∃ b, v = .pointer (some ⟨b, 0, none⟩) ∧ Sep h0 h' (aPool b n (List.range n) (List.replicate n false) (List.replicate n 0) n :: R)) := by
  apply S_pool_New
  unfold B_pool_New
  refine mIf_neg (by simp; omega) ?_
  refine hs.make Cell.enc 3 ⟨0, 0, false⟩ rfl (by omega) (by omega) (by omega) fun s h hsn hs => ?_
  (refine Sep.new hs fun nb h hs => ?_; try simp only [List.toList_toArray] at hs)
  have loop : ∀ (d k : Nat) (h : Hp) (cells : List Cell) (first : Int), k = d → k ≤ n → PI n cells first (List.range' k (n - k)) (List.replicate n false) (List.replicate n 0) →
      Sep h0 h (aBlk nb [.slice s.p s.n s.c, .int .i64 first, .int .i64 n, .int .i64 n] :: aRow Cell.enc 3 s cells :: R) →
      K_pool_New_5 ⟨nb, 0, none⟩ ((k : Int) - 1) h (fun v h' => ∃ b, v = .pointer (some ⟨b, 0, none⟩) ∧ Sep h0 h' (aPool b n (List.range n) (List.replicate n false) (List.replicate n 0) n :: R)) := by
    intro d
    induction d with
    | zero =>
      rintro k h cells first rfl _ hI hs
      apply S_pool_New_5
      unfold B_pool_New_5
      rw [decide_eq_false (by omega), mIf_false]
      refine ⟨nb, rfl, aPool_iff.2 ⟨s, cells, first, ?_, ?_⟩⟩
      · rw [List.range_eq_range']; exact hI
      · simpa using hs
    | succ d ih =>
      rintro k h cells first hk hkn hI hs
      have hl := hI.n1
      have hrn := hs.rowLen 1 rfl
      apply S_pool_New_5
      unfold B_pool_New_5
      rw [decide_eq_true (by omega), mIf_true]
      refine Sep.ldL hs 0 rfl rfl ?_; (refine Sep.ldI hs 0 rfl rfl ?_; (refine Sep.idx hs 1 rfl (by first | omega | (simp only [List.length_set, List.length_map, List.length_replicate, List.length_append, List.length_cons, List.length_nil, List.length_reverse, List.length_range]; omega) | (simp; omega)) (by first | omega | (simp only [List.length_set, List.length_map, List.length_replicate, List.length_append, List.length_cons, List.length_nil, List.length_reverse, List.length_range]; omega) | (simp; omega)) fun aa haa => ?_; try simp only [Int.toNat_natCast] at haa); simp only [add_mk, Nat.zero_add])
      subst hk
      have e : (((d + 1 : Nat) : Int) - 1).toNat = d := by omega
      rw [e] at haa
      have hc : cells[d]? = some cells[d] := List.getElem?_eq_getElem (by omega)
      refine hs.rst0 1 ⟨first, cells[d].owner, cells[d].taken⟩ rfl (fun _ => rfl) haa hc (by omega) rfl rfl fun h hs => ?_
      simp only [List.set_cons_zero, List.set_cons_succ] at hs
      ((refine Sep.st hs 0 rfl rfl rfl fun h hs => ?_; simp only [List.set_cons_zero, List.set_cons_succ] at hs))
      rw [wrap64 _ (by omega), show ((d + 1 : Nat) : Int) - 1 = (d : Int) by omega]
      refine ih d h _ _ rfl (by omega) (range'_chain hI (by omega) hc ?_) ?_
      · have := (hI.tk_ _ _ hc).1
        rw [List.getElem?_replicate, if_pos (by omega)] at this
        simpa using this.symm
      · rw [show ((d + 1 : Nat) : Int) - 1 = (d : Int) by omega] at hs
        exact hs
  rw [wrap64 _ (by omega)]
  refine loop n n h (List.replicate n ⟨0, 0, false⟩) (-1) rfl (Nat.le_refl _) ?_ ?_
  · rw [Nat.sub_self]
    refine ⟨by simp, by simp, by simp, by simp, rfl, by simp, fun i c hc => ?_⟩
    rw [List.getElem?_replicate] at hc
    split at hc
    · cases hc
      rw [List.getElem?_replicate, if_pos (by assumption)]
      exact ⟨rfl, by simp⟩
    · cases hc
  · simpa using hs
theorem New_bad (h : Hp) (n : Int) (hn : n < 0 ∨ n > 1024) : N_pool_New n h (fun v h' => v = .pointer none ∧ h' = h) := by
  apply S_pool_New
  unfold B_pool_New
  exact mIf_pos (by simpa using hn) ⟨rfl, rfl⟩
theorem PI.get {n i : Nat} {cells : List Cell} {first : Int} {fr : List Nat} {tk : List Bool} {ow : List Int} (h : PI n cells first (i :: fr) tk ow) {c : Cell} (hc : cells[i]? = some c) (who : Int) :
    PI n (cells.set i ⟨-1, who, true⟩) c.next fr (tk.set i true) (ow.set i who) where
  n1 := by simpa using h.n1
  n2 := by simpa using h.n2
  n3 := by simpa using h.n3
  nd := (List.nodup_cons.1 h.nd).2
  chain := by
    obtain ⟨_, c', h1, h2⟩ := h.chain
    rw [hc] at h1
    cases h1
    exact h2.set (List.nodup_cons.1 h.nd).1
  free := by
    intro j hj
    rw [List.getElem?_set_ne (by rintro rfl; exact (List.nodup_cons.1 h.nd).1 hj)]
    exact h.free j (by simp [hj])
  tk_ := by
    intro j c' hc'
    have h1 := h.n1; have h2 := h.n2; have h3 := h.n3
    have hi := (List.getElem?_eq_some_iff.1 hc).1
    rw [List.getElem?_set] at hc'
    split at hc'
    · subst_vars
      cases hc'
      rw [List.getElem?_set_self (by omega), List.getElem?_set_self (by omega)]
      exact ⟨rfl, fun _ => rfl⟩
    · rename_i hne
      rw [List.getElem?_set_ne hne, List.getElem?_set_ne hne]
      exact h.tk_ j c' hc'
theorem Get_none (hs : Sep h0 h (aPool b n [] tk ow low :: R)) (who : Int) : N_pool_Pool_Get (some ⟨b, 0, none⟩) who h (fun v h' => v = .tuple #[.int .i64 0, .int .i64 8] ∧ Sep h0 h' (aPool b n [] tk ow low :: R)) := by
  obtain ⟨s, cells, first, hI, hs⟩ := aPool_iff.1 hs
  obtain rfl : first = -1 := hI.chain
  apply S_pool_Pool_Get
  unfold B_pool_Pool_Get
  (simp only [Option.isNone_some, mNil_some, add_mk, Nat.zero_add, mIf_false]; refine Sep.ldI hs 0 rfl rfl ?_)
  exact ⟨rfl, aPool_iff.2 ⟨s, cells, -1, hI, hs⟩⟩
theorem Get_s {i : Nat} (hs : Sep h0 h (aPool b n (i :: fr) tk ow low :: R)) (hn : n ≤ 1024) (who : Int) : N_pool_Pool_Get (some ⟨b, 0, none⟩) who h (fun v h' => v = .tuple #[.int .i64 (i : Nat), .int .i64 0] ∧ Sep h0 h' (aPool b n fr (tk.set i true) (ow.set i who) (if (fr.length : Int) < low then (fr.length : Int) else low) :: R)) := by
  obtain ⟨s, cells, first, hI, hs⟩ := aPool_iff.1 hs
  obtain ⟨rfl, c, hc, hch⟩ := hI.chain
  have hi := (List.getElem?_eq_some_iff.1 hc).1
  have h1 := hI.n1
  have hfr := hI.fr_le
  simp only [List.length_cons] at hfr
  apply S_pool_Pool_Get
  unfold B_pool_Pool_Get
  (simp only [Option.isNone_some, mNil_some, add_mk, Nat.zero_add, mIf_false]; refine Sep.ldI hs 0 rfl rfl ?_)
  refine mIf_neg (by simp) ?_
  (refine Sep.ldI hs 0 rfl rfl ?_; refine Sep.ldL hs 0 rfl rfl ?_; (refine Sep.idx hs 1 rfl (by first | omega | (simp only [List.length_set, List.length_map, List.length_replicate, List.length_append, List.length_cons, List.length_nil, List.length_reverse, List.length_range]; omega) | (simp; omega)) (by first | omega | (simp only [List.length_set, List.length_map, List.length_replicate, List.length_append, List.length_cons, List.length_nil, List.length_reverse, List.length_range]; omega) | (simp; omega)) fun aa haa => ?_; try simp only [Int.toNat_natCast] at haa); refine Sep.rldI0 hs 1 rfl (fun _ => rfl) haa (List.getElem?_eq_getElem (by first | omega | (simp only [List.length_set, List.length_map, List.length_replicate, List.length_append, List.length_cons, List.length_nil, List.length_reverse, List.length_range]; omega) | (simp; omega))) rfl ?_; (refine Sep.st hs 0 rfl rfl rfl fun h hs => ?_; simp only [List.set_cons_zero, List.set_cons_succ] at hs); refine Sep.ldL hs 0 rfl rfl ?_; (refine Sep.idx hs 1 rfl (by first | omega | (simp only [List.length_set, List.length_map, List.length_replicate, List.length_append, List.length_cons, List.length_nil, List.length_reverse, List.length_range]; omega) | (simp; omega)) (by first | omega | (simp only [List.length_set, List.length_map, List.length_replicate, List.length_append, List.length_cons, List.length_nil, List.length_reverse, List.length_range]; omega) | (simp; omega)) fun aa_1 haa_1 => ?_; try simp only [Int.toNat_natCast] at haa_1))
  have e : cells[i]'hi = c := (List.getElem?_eq_some_iff.1 hc).2
  refine hs.rst0 1 ⟨-1, c.owner, c.taken⟩ rfl (fun _ => rfl) haa_1 hc (by omega) rfl rfl fun h hs => ?_
  refine hs.rst 1 ⟨-1, who, c.taken⟩ rfl (fun _ => rfl) haa_1 (List.getElem?_set_self hi) (by omega) rfl rfl fun h hs => ?_
  refine hs.rst 1 ⟨-1, who, true⟩ rfl (fun _ => rfl) haa_1 (List.getElem?_set_self (by simpa using hi)) (by omega) rfl rfl fun h hs => ?_
  simp only [List.set_cons_zero, List.set_cons_succ, List.set_set] at hs
  (refine Sep.ldI hs 0 rfl rfl ?_; (refine Sep.st hs 0 rfl rfl rfl fun h hs => ?_; simp only [List.set_cons_zero, List.set_cons_succ] at hs); refine Sep.ldI hs 0 rfl rfl ?_; refine Sep.ldI hs 0 rfl rfl ?_; (refine Sep.st hs 0 rfl rfl rfl fun h hs => ?_; simp only [List.set_cons_zero, List.set_cons_succ] at hs))
  rw [e, show IntKind.i64.wrap (((i :: fr).length : Int) - 1) = fr.length by rw [wrap64 _ (by simp; omega)]; simp] at hs
  exact ⟨rfl, aPool_iff.2 ⟨s, _, _, hI.get hc who, hs⟩⟩
theorem Get_nil (h : Hp) (who : Int) : N_pool_Pool_Get none who h (fun v h' => v = .tuple #[.int .i64 0, .int .i64 1] ∧ h' = h) := by
  apply S_pool_Pool_Get
  unfold B_pool_Pool_Get
  simp
theorem Free_s (hs : Sep h0 h (aPool b n fr tk ow low :: R)) : N_pool_Pool_Free (some ⟨b, 0, none⟩) h (fun v h' => v = .int .i64 fr.length ∧ Sep h0 h' (aPool b n fr tk ow low :: R)) := by
  obtain ⟨s, cells, first, hI, hs⟩ := aPool_iff.1 hs
  apply S_pool_Pool_Free
  unfold B_pool_Pool_Free
  (simp only [Option.isNone_some, mNil_some, add_mk, Nat.zero_add, mIf_false]; refine Sep.ldI hs 0 rfl rfl ?_)
  exact ⟨rfl, aPool_iff.2 ⟨s, _, _, hI, hs⟩⟩
theorem Free_nil (h : Hp) : N_pool_Pool_Free none h (fun v h' => v = .int .i64 0 ∧ h' = h) := by
  apply S_pool_Pool_Free
  unfold B_pool_Pool_Free
  simp
theorem Low_s (hs : Sep h0 h (aPool b n fr tk ow low :: R)) : N_pool_Pool_Low (some ⟨b, 0, none⟩) h (fun v h' => v = .int .i64 low ∧ Sep h0 h' (aPool b n fr tk ow low :: R)) := by
  obtain ⟨s, cells, first, hI, hs⟩ := aPool_iff.1 hs
  apply S_pool_Pool_Low
  unfold B_pool_Pool_Low
  (simp only [Option.isNone_some, mNil_some, add_mk, Nat.zero_add, mIf_false]; refine Sep.ldI hs 0 rfl rfl ?_)
  exact ⟨rfl, aPool_iff.2 ⟨s, _, _, hI, hs⟩⟩
theorem Low_nil (h : Hp) : N_pool_Pool_Low none h (fun v h' => v = .int .i64 0 ∧ h' = h) := by
  apply S_pool_Pool_Low
  unfold B_pool_Pool_Low
  simp
theorem Owner_s (hs : Sep h0 h (aPool b n fr tk ow low :: R)) {i : Nat} (hi : i < n) : N_pool_Pool_Owner (some ⟨b, 0, none⟩) i h (fun v h' => (∃ (o : Int) (t : Bool), v = .tuple #[.int .i64 o, .bool t] ∧ tk[i]? = some t ∧ (t = true → ow[i]? = some o)) ∧ Sep h0 h' (aPool b n fr tk ow low :: R)) := by
  obtain ⟨s, cells, first, hI, hs⟩ := aPool_iff.1 hs
  have h1 := hI.n1
  have hrn := hs.rowLen 1 rfl
  apply S_pool_Pool_Owner
  unfold B_pool_Pool_Owner
  (simp only [Option.isNone_some, Bool.false_or, mNil_some, mBind_ap]; rw [decide_eq_false (by omega), mIf_false]; refine Sep.ldL hs 0 rfl rfl ?_; rw [mRet_ap]; rw [decide_eq_false (by omega), mIf_false]; refine Sep.ldL hs 0 rfl rfl ?_; (refine Sep.idx hs 1 rfl (by first | omega | (simp only [List.length_set, List.length_map, List.length_replicate, List.length_append, List.length_cons, List.length_nil, List.length_reverse, List.length_range]; omega) | (simp; omega)) (by first | omega | (simp only [List.length_set, List.length_map, List.length_replicate, List.length_append, List.length_cons, List.length_nil, List.length_reverse, List.length_range]; omega) | (simp; omega)) fun aa haa => ?_; try simp only [Int.toNat_natCast] at haa); refine Sep.rldI hs 1 rfl (fun _ => rfl) haa (List.getElem?_eq_getElem (by first | omega | (simp only [List.length_set, List.length_map, List.length_replicate, List.length_append, List.length_cons, List.length_nil, List.length_reverse, List.length_range]; omega) | (simp; omega))) rfl ?_; refine Sep.ldL hs 0 rfl rfl ?_; (refine Sep.idx hs 1 rfl (by first | omega | (simp only [List.length_set, List.length_map, List.length_replicate, List.length_append, List.length_cons, List.length_nil, List.length_reverse, List.length_range]; omega) | (simp; omega)) (by first | omega | (simp only [List.length_set, List.length_map, List.length_replicate, List.length_append, List.length_cons, List.length_nil, List.length_reverse, List.length_range]; omega) | (simp; omega)) fun aa_1 haa_1 => ?_; try simp only [Int.toNat_natCast] at haa_1); refine Sep.rldB hs 1 rfl (fun _ => rfl) haa_1 (List.getElem?_eq_getElem (by first | omega | (simp only [List.length_set, List.length_map, List.length_replicate, List.length_append, List.length_cons, List.length_nil, List.length_reverse, List.length_range]; omega) | (simp; omega))) rfl ?_)
  have hc : cells[i]? = some (cells[i]'(by omega)) := List.getElem?_eq_getElem (by omega)
  exact ⟨⟨_, _, rfl, hI.tk_ i _ hc⟩, aPool_iff.2 ⟨s, _, _, hI, hs⟩⟩
theorem Owner_nil (h : Hp) (i : Int) : N_pool_Pool_Owner none i h (fun v h' => v = .tuple #[.int .i64 0, .bool false] ∧ h' = h) := by
  apply S_pool_Pool_Owner
  unfold B_pool_Pool_Owner
  simp
theorem Put_range (hs : Sep h0 h (aPool b n fr tk ow low :: R)) {i : Int} (hi : i < 0 ∨ (n : Int) ≤ i) (who : Int) : N_pool_Pool_Put (some ⟨b, 0, none⟩) i who h (fun v h' => v = .int .i64 5 ∧ Sep h0 h' (aPool b n fr tk ow low :: R)) := by
  obtain ⟨s, cells, first, hI, hs⟩ := aPool_iff.1 hs
  have h1 := hI.n1
  have hrn := hs.rowLen 1 rfl
  apply S_pool_Pool_Put
  unfold B_pool_Pool_Put
  (simp only [Option.isNone_some, mNil_some, add_mk, Nat.zero_add, mIf_false, mBind_ap])
  rcases hi with hi | hi
  · (rw [decide_eq_true (by omega), mIf_true]; rw [mRet_ap]; simp only [mIf_true])
    exact ⟨rfl, aPool_iff.2 ⟨s, _, _, hI, hs⟩⟩
  · (rw [decide_eq_false (by omega), mIf_false]; refine Sep.ldL hs 0 rfl rfl ?_; rw [mRet_ap]; rw [decide_eq_true (by omega), mIf_true])
    exact ⟨rfl, aPool_iff.2 ⟨s, _, _, hI, hs⟩⟩
theorem Put_nil (h : Hp) (i who : Int) : N_pool_Pool_Put none i who h (fun v h' => v = .int .i64 1 ∧ h' = h) := by
  apply S_pool_Pool_Put
  unfold B_pool_Pool_Put
  simp
theorem PI.put {n i : Nat} {cells : List Cell} {first : Int} {fr : List Nat} {tk : List Bool} {ow : List Int} (h : PI n cells first fr tk ow) (hi : tk[i]? = some true) :
    PI n (cells.set i ⟨first, 0, false⟩) i (i :: fr) (tk.set i false) ow where
  n1 := by simpa using h.n1
  n2 := by simpa using h.n2
  n3 := h.n3
  nd := List.nodup_cons.2 ⟨fun hm => by have := h.free i hm; rw [hi] at this; simp at this, h.nd⟩
  chain := by
    have h1 := h.n1; have h2 := h.n2
    have hl := (List.getElem?_eq_some_iff.1 hi).1
    exact ⟨rfl, _, by rw [List.getElem?_set_self (by omega)], h.chain.set fun hm => by have := h.free i hm; rw [hi] at this; simp at this⟩
  free := by
    intro j hj
    have hl := (List.getElem?_eq_some_iff.1 hi).1
    rcases List.mem_cons.1 hj with rfl | hj
    · rw [List.getElem?_set_self hl]
    · by_cases hij : i = j
      · subst hij; rw [List.getElem?_set_self hl]
      · rw [List.getElem?_set_ne hij]; exact h.free j hj
  tk_ := by
    intro j c' hc'
    have h1 := h.n1; have h2 := h.n2
    have hl := (List.getElem?_eq_some_iff.1 hi).1
    by_cases hij : i = j
    · subst hij
      rw [List.getElem?_set_self (by omega)] at hc' ⊢
      cases hc'
      exact ⟨rfl, by simp⟩
    · rw [List.getElem?_set_ne hij] at hc' ⊢
      exact h.tk_ j c' hc'
/-- may this one give this block back? -/
def mine (tk : List Bool) (ow : List Int) (who : Int) (i : Nat) : Bool := tk[i]?.getD false && (ow[i]?.getD 0 == who)
theorem Put_none (hs : Sep h0 h (aPool b n fr tk ow low :: R)) {i : Nat} (hi : i < n) {who : Int} (hm : mine tk ow who i = false) : N_pool_Pool_Put (some ⟨b, 0, none⟩) i who h (fun v h' => v = .int .i64 6 ∧ Sep h0 h' (aPool b n fr tk ow low :: R)) := by
  obtain ⟨s, cells, first, hI, hs⟩ := aPool_iff.1 hs
  have h1 := hI.n1
  have hrn := hs.rowLen 1 rfl
  have hc : cells[i]? = some (cells[i]'(by omega)) := List.getElem?_eq_getElem (by omega)
  obtain ⟨ht, ho⟩ := hI.tk_ i _ hc
  unfold mine at hm
  rw [ht] at hm
  apply S_pool_Pool_Put
  unfold B_pool_Pool_Put
  (simp only [Option.isNone_some, mNil_some, add_mk, Nat.zero_add, mIf_false, mBind_ap]; rw [decide_eq_false (by omega), mIf_false]; refine Sep.ldL hs 0 rfl rfl ?_; rw [mRet_ap]; rw [decide_eq_false (by omega), mIf_false]; refine Sep.ldL hs 0 rfl rfl ?_; (refine Sep.idx hs 1 rfl (by first | omega | (simp only [List.length_set, List.length_map, List.length_replicate, List.length_append, List.length_cons, List.length_nil, List.length_reverse, List.length_range]; omega) | (simp; omega)) (by first | omega | (simp only [List.length_set, List.length_map, List.length_replicate, List.length_append, List.length_cons, List.length_nil, List.length_reverse, List.length_range]; omega) | (simp; omega)) fun aa haa => ?_; try simp only [Int.toNat_natCast] at haa); refine Sep.rldB hs 1 rfl (fun _ => rfl) haa (List.getElem?_eq_getElem (by first | omega | (simp only [List.length_set, List.length_map, List.length_replicate, List.length_append, List.length_cons, List.length_nil, List.length_reverse, List.length_range]; omega) | (simp; omega))) rfl ?_; simp only [mBind_ap])
  cases hcase : (cells[i]'(by omega)).taken with
  | false =>
    (simp only [Bool.not_false, mIf_true]; rw [mRet_ap]; simp only [mIf_true])
    exact ⟨rfl, aPool_iff.2 ⟨s, _, _, hI, hs⟩⟩
  | true =>
    rw [ho hcase, hcase] at hm
    (simp only [Bool.not_true, mIf_false]; refine Sep.rldI hs 1 rfl (fun _ => rfl) haa (List.getElem?_eq_getElem (by first | omega | (simp only [List.length_set, List.length_map, List.length_replicate, List.length_append, List.length_cons, List.length_nil, List.length_reverse, List.length_range]; omega) | (simp; omega))) rfl ?_; rw [mRet_ap])
    refine mIf_pos ?_ ?_
    · simpa using hm
    · (skip)
      exact ⟨rfl, aPool_iff.2 ⟨s, _, _, hI, hs⟩⟩
theorem Put_s (hs : Sep h0 h (aPool b n fr tk ow low :: R)) (hn : n ≤ 1024) {i : Nat} (hi : i < n) {who : Int} (hm : mine tk ow who i = true) : N_pool_Pool_Put (some ⟨b, 0, none⟩) i who h (fun v h' => v = .int .i64 0 ∧ Sep h0 h' (aPool b n (i :: fr) (tk.set i false) ow low :: R)) := by
  obtain ⟨s, cells, first, hI, hs⟩ := aPool_iff.1 hs
  have h1 := hI.n1
  have hfr := hI.fr_le
  have hrn := hs.rowLen 1 rfl
  have hil : i < cells.length := by omega
  have hc : cells[i]? = some (cells[i]'(by omega)) := List.getElem?_eq_getElem (by omega)
  obtain ⟨ht, ho⟩ := hI.tk_ i _ hc
  unfold mine at hm
  rw [ht] at hm
  simp only [Option.getD_some, Bool.and_eq_true] at hm
  rw [ho hm.1] at hm
  have hw : (cells[i]'(by omega)).owner = who := by simpa using hm.2
  apply S_pool_Pool_Put
  unfold B_pool_Pool_Put
  (simp only [Option.isNone_some, mNil_some, add_mk, Nat.zero_add, mIf_false, mBind_ap]; rw [decide_eq_false (by omega), mIf_false]; refine Sep.ldL hs 0 rfl rfl ?_; rw [mRet_ap]; rw [decide_eq_false (by omega), mIf_false]; refine Sep.ldL hs 0 rfl rfl ?_; (refine Sep.idx hs 1 rfl (by first | omega | (simp only [List.length_set, List.length_map, List.length_replicate, List.length_append, List.length_cons, List.length_nil, List.length_reverse, List.length_range]; omega) | (simp; omega)) (by first | omega | (simp only [List.length_set, List.length_map, List.length_replicate, List.length_append, List.length_cons, List.length_nil, List.length_reverse, List.length_range]; omega) | (simp; omega)) fun aa haa => ?_; try simp only [Int.toNat_natCast] at haa); refine Sep.rldB hs 1 rfl (fun _ => rfl) haa (List.getElem?_eq_getElem (by first | omega | (simp only [List.length_set, List.length_map, List.length_replicate, List.length_append, List.length_cons, List.length_nil, List.length_reverse, List.length_range]; omega) | (simp; omega))) rfl ?_; simp only [mBind_ap])
  rw [hm.1]
  (simp only [Bool.not_true, mIf_false]; refine Sep.rldI hs 1 rfl (fun _ => rfl) haa (List.getElem?_eq_getElem (by first | omega | (simp only [List.length_set, List.length_map, List.length_replicate, List.length_append, List.length_cons, List.length_nil, List.length_reverse, List.length_range]; omega) | (simp; omega))) rfl ?_; rw [mRet_ap])
  simp only [hw, bne_self_eq_false]
  (simp only [mIf_false]; refine Sep.ldI hs 0 rfl rfl ?_)
  refine hs.rst0 1 ⟨first, (cells[i]'hil).owner, (cells[i]'hil).taken⟩ rfl (fun _ => rfl) haa hc (by omega) rfl rfl fun h hs => ?_
  refine hs.rst 1 ⟨first, 0, (cells[i]'hil).taken⟩ rfl (fun _ => rfl) haa (List.getElem?_set_self hil) (by omega) rfl rfl fun h hs => ?_
  refine hs.rst 1 ⟨first, 0, false⟩ rfl (fun _ => rfl) haa (List.getElem?_set_self (by simpa using hil)) (by omega) rfl rfl fun h hs => ?_
  simp only [List.set_cons_zero, List.set_cons_succ, List.set_set] at hs
  ((refine Sep.st hs 0 rfl rfl rfl fun h hs => ?_; simp only [List.set_cons_zero, List.set_cons_succ] at hs); refine Sep.ldI hs 0 rfl rfl ?_; (refine Sep.st hs 0 rfl rfl rfl fun h hs => ?_; simp only [List.set_cons_zero, List.set_cons_succ] at hs))
  rw [show IntKind.i64.wrap ((fr.length : Int) + 1) = ((i :: fr).length : Nat) by rw [wrap64 _ (by omega)]; simp] at hs
  exact ⟨rfl, aPool_iff.2 ⟨s, _, _, hI.put (by rw [ht, hm.1]), hs⟩⟩
/-- whose are they? -/
def mines (tk : List Bool) (ow : List Int) (who : Int) (k : Nat) : List Nat := (List.range k).filter (mine tk ow who)
theorem mines_succ (tk : List Bool) (ow : List Int) (who : Int) (k : Nat) : mines tk ow who (k + 1) = mines tk ow who k ++ (if mine tk ow who k then [k] else []) := by
  unfold mines
  rw [List.range_succ, List.filter_append]
  congr 1
  by_cases hm : mine tk ow who k = true <;> simp [hm]
theorem mines_len (tk : List Bool) (ow : List Int) (who : Int) (k : Nat) : (mines tk ow who k).length ≤ k := by
  unfold mines
  have := List.length_filter_le (mine tk ow who) (List.range k)
  simpa using this
abbrev encI : Int → List Value := fun z => [.int .i64 z]
abbrev ints (l : List Nat) : List Int := l.map (fun i : Nat => (i : Int))
theorem All_s (hs : Sep h0 h (aPool b n fr tk ow low :: R)) (hn : n ≤ 1024) (who : Int) : N_pool_Pool_All (some ⟨b, 0, none⟩) who h (fun v h' => ∃ out : Sl, v = .slice out.p out.n out.c ∧ Sep h0 h' (aPool b n fr tk ow low :: aRow encI 1 out (ints (mines tk ow who n)) :: R)) := by
  obtain ⟨s, cells, first, hI, hs⟩ := aPool_iff.1 hs
  have h1 := hI.n1
  have hrn := hs.rowLen 1 rfl
  apply S_pool_Pool_All
  unfold B_pool_Pool_All
  (simp only [Option.isNone_some, mNil_some, mIf_false]; refine Sep.ldL hs 0 rfl rfl ?_)
  have loop : ∀ (d k : Nat) (h : Hp) (out : Sl), k + d = n → Sep h0 h (aRow encI 1 out (ints (mines tk ow who k)) :: aBlk b [.slice s.p s.n s.c, .int .i64 first, .int .i64 fr.length, .int .i64 low] :: aRow Cell.enc 3 s cells :: R) →
      K_pool_Pool_All_5 who out s (s.n : Int) (k : Int) h (fun v h' => ∃ out : Sl, v = .slice out.p out.n out.c ∧ Sep h0 h' (aPool b n fr tk ow low :: aRow encI 1 out (ints (mines tk ow who n)) :: R)) := by
    intro d
    induction d with
    | zero =>
      intro k h out hk hs
      apply S_pool_Pool_All_5
      unfold B_pool_Pool_All_5
      (rw [decide_eq_false (by omega), mIf_false])
      have hkn : k = n := by omega
      rw [hkn] at hs
      have hs := hs.swap.perm (.cons _ (.swap _ _ _))
      have hs := aPool_iff.2 ⟨s, cells, first, hI, hs⟩
      exact ⟨out, rfl, hs⟩
    | succ d ih =>
      intro k h out hk hs
      apply S_pool_Pool_All_5
      unfold B_pool_Pool_All_5
      (rw [decide_eq_true (by omega), mIf_true]; (refine Sep.idx hs 2 rfl (by first | omega | (simp only [List.length_set, List.length_map, List.length_replicate, List.length_append, List.length_cons, List.length_nil, List.length_reverse, List.length_range]; omega) | (simp; omega)) (by first | omega | (simp only [List.length_set, List.length_map, List.length_replicate, List.length_append, List.length_cons, List.length_nil, List.length_reverse, List.length_range]; omega) | (simp; omega)) fun aa haa => ?_; try simp only [Int.toNat_natCast] at haa); refine Sep.rldI0 hs 2 rfl (fun _ => rfl) haa (List.getElem?_eq_getElem (by first | omega | (simp only [List.length_set, List.length_map, List.length_replicate, List.length_append, List.length_cons, List.length_nil, List.length_reverse, List.length_range]; omega) | (simp; omega))) rfl ?_; refine Sep.rldI hs 2 rfl (fun _ => rfl) haa (List.getElem?_eq_getElem (by first | omega | (simp only [List.length_set, List.length_map, List.length_replicate, List.length_append, List.length_cons, List.length_nil, List.length_reverse, List.length_range]; omega) | (simp; omega))) rfl ?_; refine Sep.rldB hs 2 rfl (fun _ => rfl) haa (List.getElem?_eq_getElem (by first | omega | (simp only [List.length_set, List.length_map, List.length_replicate, List.length_append, List.length_cons, List.length_nil, List.length_reverse, List.length_range]; omega) | (simp; omega))) rfl ?_; (refine Sep.new hs fun nb h hs => ?_; try simp only [List.toList_toArray] at hs); (refine Sep.st hs 0 rfl rfl rfl fun h hs => ?_; simp only [List.set_cons_zero, List.set_cons_succ] at hs); (refine Sep.st hs 0 rfl rfl rfl fun h hs => ?_; simp only [List.set_cons_zero, List.set_cons_succ] at hs); (refine Sep.st hs 0 rfl rfl rfl fun h hs => ?_; simp only [List.set_cons_zero, List.set_cons_succ] at hs); refine Sep.ldB hs 0 rfl rfl ?_; simp only [add_mk, Nat.zero_add, mBind_ap])
      have hc : cells[k]? = some (cells[k]'(by omega)) := List.getElem?_eq_getElem (by omega)
      obtain ⟨ht, ho⟩ := hI.tk_ k _ hc
      have hml := mines_len tk ow who k
      have cont : ∀ (h : Hp) (out : Sl), Sep h0 h (aRow encI 1 out (ints (mines tk ow who (k + 1))) :: aBlk b [.slice s.p s.n s.c, .int .i64 first, .int .i64 fr.length, .int .i64 low] :: aRow Cell.enc 3 s cells :: R) →
          K_pool_Pool_All_5 who out s (s.n : Int) (IntKind.i64.wrap ((k : Int) + 1)) h (fun v h' => ∃ out : Sl, v = .slice out.p out.n out.c ∧ Sep h0 h' (aPool b n fr tk ow low :: aRow encI 1 out (ints (mines tk ow who n)) :: R)) := by
        intro h out hs
        rw [wrap64 _ (by omega), show (k : Int) + 1 = ((k + 1 : Nat) : Int) by omega]
        exact ih (k + 1) h out (by omega) hs
      have hmk : mine tk ow who k = ((cells[k]'(by omega)).taken && ((cells[k]'(by omega)).owner == who)) := by
        unfold mine
        rw [ht]
        cases hcase : (cells[k]'(by omega)).taken with
        | false => rfl
        | true => rw [ho hcase]; rfl
      cases hcase : (cells[k]'(by omega)).taken with
      | false =>
        (simp only [mIf_false]; rw [mRet_ap]; simp only [mIf_false])
        refine cont h out ?_
        rw [mines_succ, hmk, hcase]
        simpa using hs.drop
      | true =>
        (simp only [mIf_true]; refine Sep.ldI hs 0 rfl rfl ?_; rw [mRet_ap])
        refine mIf_intro (fun hw => ?_) (fun hw => ?_)
        · (refine Sep.new hs fun nb_1 h hs => ?_; try simp only [List.toList_toArray] at hs)
          refine hs.app1 2 0 (k : Int) rfl rfl (fun _ => rfl) (by simp [encI, Value.oneCell']) rfl (by omega) (by simp; omega) fun s' h hn' hs => ?_
          simp only [List.set_cons_zero, List.set_cons_succ] at hs
          refine cont h s' ?_
          rw [mines_succ, hmk, hcase, hw]
          simpa [ints] using hs.drop.drop
        · refine cont h out ?_
          rw [mines_succ, hmk, hcase, hw]
          simpa using hs.drop
  exact loop n 0 h ⟨none, 0, 0⟩ (by omega) (by simpa [mines] using hs.nilRow encI 1)
theorem All_nil (h : Hp) (who : Int) : N_pool_Pool_All none who h (fun v h' => v = .slice none 0 0 ∧ h' = h) := by
  apply S_pool_Pool_All
  unfold B_pool_Pool_All
  simp
/-- these are given back, one by one -/
def recF : List Nat → List Nat → List Nat
  | [], fr => fr
  | i :: l, fr => recF l (i :: fr)
def recT : List Nat → List Bool → List Bool
  | [], tk => tk
  | i :: l, tk => recT l (tk.set i false)
theorem recF_snoc : ∀ (l : List Nat) (i : Nat) (fr : List Nat), recF (l ++ [i]) fr = i :: recF l fr
  | [], _, _ => rfl
  | j :: l, i, fr => recF_snoc l i (j :: fr)
theorem recT_snoc : ∀ (l : List Nat) (i : Nat) (tk : List Bool), recT (l ++ [i]) tk = (recT l tk).set i false
  | [], _, _ => rfl
  | j :: l, i, tk => recT_snoc l i (tk.set j false)
theorem recT_out : ∀ (l : List Nat) (i : Nat) (tk : List Bool), i ∉ l → (recT l tk)[i]? = tk[i]?
  | [], _, _, _ => rfl
  | j :: l, i, tk, hi => by
    simp only [List.mem_cons, not_or] at hi
    rw [recT, recT_out l i _ hi.2, List.getElem?_set_ne (Ne.symm hi.1)]
theorem mine_out {l : List Nat} {i : Nat} {tk : List Bool} {ow : List Int} {who : Int} (hi : i ∉ l) : mine (recT l tk) ow who i = mine tk ow who i := by
  unfold mine
  rw [recT_out l i tk hi]
theorem Reclaim_s (hs : Sep h0 h (aPool b n fr tk ow low :: R)) (hn : n ≤ 1024) (who : Int) : N_pool_Pool_Reclaim (some ⟨b, 0, none⟩) who h (fun v h' => v = .int .i64 (mines tk ow who n).length ∧ Sep h0 h' (aPool b n (recF (mines tk ow who n) fr) (recT (mines tk ow who n) tk) ow low :: R)) := by
  apply S_pool_Pool_Reclaim
  unfold B_pool_Pool_Reclaim
  rw [mBind_ap]
  refine (All_s hs hn who).mono ?_
  rintro v h ⟨out, rfl, hs⟩
  simp only [unL_slice]
  have hml := mines_len tk ow who n
  have loop : ∀ (rest done : List Nat) (h : Hp), done ++ rest = mines tk ow who n → Sep h0 h (aPool b n (recF done fr) (recT done tk) ow low :: aRow encI 1 out (ints (mines tk ow who n)) :: R) →
      K_pool_Pool_Reclaim_3 (some ⟨b, 0, none⟩) who out out (out.n : Int) (done.length : Int) h (fun v h' => v = .int .i64 (mines tk ow who n).length ∧ Sep h0 h' (aPool b n (recF (mines tk ow who n) fr) (recT (mines tk ow who n) tk) ow low :: R)) := by
    intro rest
    induction rest with
    | nil =>
      intro done h hd hs
      have hrn := hs.rowLen 1 rfl
      rw [List.append_nil] at hd
      subst hd
      rw [List.length_map] at hrn
      apply S_pool_Pool_Reclaim_3
      unfold B_pool_Pool_Reclaim_3
      (rw [decide_eq_false (by omega), mIf_false])
      exact ⟨by rw [hrn], hs.swap.drop⟩
    | cons i rest ih =>
      intro done h hd hs
      have hrn := hs.rowLen 1 rfl
      have hl := congrArg List.length hd
      simp only [List.length_append, List.length_cons] at hl
      rw [List.length_map] at hrn
      apply S_pool_Pool_Reclaim_3
      unfold B_pool_Pool_Reclaim_3
      (rw [decide_eq_true (by omega), mIf_true]; (refine Sep.idx hs 1 rfl (by first | omega | (simp only [List.length_set, List.length_map, List.length_replicate, List.length_append, List.length_cons, List.length_nil, List.length_reverse, List.length_range]; omega) | (simp; omega)) (by first | omega | (simp only [List.length_set, List.length_map, List.length_replicate, List.length_append, List.length_cons, List.length_nil, List.length_reverse, List.length_range]; omega) | (simp; omega)) fun aa haa => ?_; try simp only [Int.toNat_natCast] at haa); refine Sep.rldI0 hs 1 rfl (fun _ => rfl) haa (List.getElem?_eq_getElem (by first | omega | (simp only [List.length_set, List.length_map, List.length_replicate, List.length_append, List.length_cons, List.length_nil, List.length_reverse, List.length_range]; omega) | (simp; omega))) rfl ?_; simp only [mBind_ap])
      have hget : (ints (mines tk ow who n))[done.length]'(by simp; omega) = (i : Int) := by
        simp only [List.getElem_map, ← hd]
        simp
      rw [hget]
      have hmem : i ∈ mines tk ow who n := by rw [← hd]; simp
      have hnd : (mines tk ow who n).Nodup := List.nodup_range.filter _
      rw [← hd] at hnd
      have hnot : i ∉ done := fun hx => by
        have := (List.nodup_append.1 hnd).2.2 i hx i (by simp)
        exact this rfl
      have hm := List.mem_filter.1 hmem
      refine (Put_s hs hn (List.mem_range.1 hm.1) ((mine_out hnot).trans hm.2)).mono ?_
      rintro v h ⟨rfl, hs⟩
      simp only [unI_int]
      rw [wrap64 _ (by omega), show (done.length : Int) + 1 = ((done ++ [i]).length : Nat) by simp]
      exact ih (done ++ [i]) h (by rw [← hd]; simp) (by rw [recF_snoc, recT_snoc]; exact hs)
  exact loop _ [] h rfl hs
theorem Reclaim_nil (h : Hp) (who : Int) : N_pool_Pool_Reclaim none who h (fun v h' => v = .int .i64 0 ∧ h' = h) := by
  apply S_pool_Pool_Reclaim
  unfold B_pool_Pool_Reclaim
  rw [mBind_ap]
  refine (All_nil h who).mono ?_
  rintro v h ⟨rfl, rfl⟩
  simp only [unL_slice]
  apply S_pool_Pool_Reclaim_3
  unfold B_pool_Pool_Reclaim_3
  simp
end
end Go.Proofs.Ytkoenpliddhhoaa
