/- Lines: what each call answers, over what is owned. Conditions: none. -/
import Derived.Test.YtkmenmagclojmaaLinesM
import Derived.Test.YtkmenmagclojmaaSbS
namespace Go.Proofs.Ytkmenmagclojmaa
open Go Go.Sb

def encL (x : Bool × Bool) : List Value := [.bool x.1, .bool x.2]
/-- the lines behind block b -/
def aL (b : Nat) (l : List (Bool × Bool)) : As := aEx fun s : Sl => aStar (aBlk b [.slice s.p s.n s.c]) (aRow encL 2 s l)
variable {h0 h : Hp} {R : List As} {b : Nat} {l : List (Bool × Bool)}
theorem aL_iff : Sep h0 h (aL b l :: R) ↔ ∃ s : Sl, Sep h0 h (aBlk b [.slice s.p s.n s.c] :: aRow encL 2 s l :: R) := by
  unfold aL; rw [Sep.ex]; simp only [Sep.star]
def lin {X : Type} (l : List X) (i : Int) : Bool := decide (i ≥ 0) && decide (i < l.length)
theorem lin_iff {X : Type} {l : List X} {i : Int} : lin l i = true ↔ 0 ≤ i ∧ i < l.length := by unfold lin; simp
theorem lin_not {X : Type} {l : List X} {i : Int} : lin l i = false ↔ i < 0 ∨ i ≥ l.length := by
  rw [← Bool.not_eq_true, lin_iff]; omega
def lget (l : List (Bool × Bool)) (i : Int) : Bool × Bool := l.getD i.toNat (false, false)
theorem lget_at {i : Int} (hi : lin l i = true) : l[i.toNat]? = some (lget l i) := by
  have := lin_iff.1 hi
  unfold lget; simp [show i.toNat < l.length by omega]
theorem lLen_s (hs : Sep h0 h (aL b l :: R)) : N_lines_Lines_Len (some ⟨b, 0, none⟩) h (fun v h' => v = .int .i64 l.length ∧ h' = h) := by
  obtain ⟨s, hs⟩ := aL_iff.1 hs
  have hl := hs.rowLen 1 rfl
  apply S_lines_Lines_Len
  unfold B_lines_Lines_Len
  simp only [Option.isNone_some, mIf_false, mNil_some]
  refine Sep.ldL hs 0 rfl rfl ?_
  simp [hl]
theorem lLen_nil (h : Hp) : N_lines_Lines_Len none h (fun v h' => v = .int .i64 0 ∧ h' = h) := by
  apply S_lines_Lines_Len
  unfold B_lines_Lines_Len
  simp
theorem at_s {s : Sl} (hs : Sep h0 h (aBlk b [.slice s.p s.n s.c] :: aRow encL 2 s l :: R)) (i : Int) : N_lines_Lines_at (some ⟨b, 0, none⟩) i h (fun v h' => h' = h ∧ if lin l i then ∃ a, v = .pointer (some a) ∧ At s a i.toNat 2 else v = .pointer none) := by
  apply S_lines_Lines_at
  unfold B_lines_Lines_at
  rw [mBind_ap]
  have key : ∀ c : Bool, c = !(lin l i) → (mIf c (mRet (Value.pointer none)) (mNil (some ⟨b, 0, none⟩) fun (a4 : Addr) => mLdL a4 fun (x16 : Sl) => mIdx x16 i 2 fun (x18 : Addr) => mRet (Value.pointer (some x18)))) h (fun v h' => h' = h ∧ if lin l i then ∃ a, v = Value.pointer (some a) ∧ At s a i.toNat 2 else v = Value.pointer none) := by
    intro c hc
    cases hi : lin l i
    · rw [hi] at hc; rw [hc]; exact ⟨rfl, rfl⟩
    · rw [hi] at hc; rw [hc]
      have := lin_iff.1 hi
      simp only [Bool.not_true, mIf_false, mNil_some]
      refine Sep.ldL hs 0 rfl rfl ?_; refine Sep.idx hs 1 rfl (by first | omega | (simp only [List.length_set, List.length_map, List.length_replicate, List.length_append, List.length_cons, List.length_nil]; omega) | (simp; omega)) (by first | omega | (simp only [List.length_set, List.length_map, List.length_replicate, List.length_append, List.length_cons, List.length_nil]; omega) | (simp; omega)) fun a ha => ?_
      exact ⟨rfl, a, rfl, ha⟩
  by_cases h0' : i < 0
  · rw [decide_eq_true h0']
    rw [mIf_true, mRet_ap]
    exact key true (by rw [lin_not.2 (.inl h0')]; rfl)
  · rw [decide_eq_false h0']
    simp only [mIf_false, mBind_ap]
    refine (lLen_s (aL_iff.2 ⟨s, hs⟩)).mono ?_
    rintro v h' ⟨rfl, rfl⟩
    simp only [unI_int, mRet_ap]
    refine key _ ?_
    unfold lin
    rw [decide_eq_true (by omega : i ≥ 0), Bool.true_and]
    by_cases h1 : i < l.length
    · rw [decide_eq_true h1, decide_eq_false (by omega)]; rfl
    · rw [decide_eq_false h1, decide_eq_true (by omega)]; rfl
theorem at_nil (h : Hp) (i : Int) : N_lines_Lines_at none i h (fun v h' => v = .pointer none ∧ h' = h) := by
  apply S_lines_Lines_at
  unfold B_lines_Lines_at
  rw [mBind_ap]
  by_cases h0' : i < 0
  · rw [decide_eq_true h0']
    simp
  · rw [decide_eq_false h0']
    simp only [mIf_false, mBind_ap]
    refine (lLen_nil h).mono ?_
    rintro v h' ⟨rfl, rfl⟩
    simp only [unI_int, mRet_ap]
    rw [decide_eq_true (by omega : i ≥ 0)]
    simp
/-- the lines behind a turn of one -/
def lput (l : List (Bool × Bool)) (i : Int) (x : Bool × Bool) : List (Bool × Bool) := if lin l i then l.set i.toNat x else l
def lerr (l : List (Bool × Bool)) (i : Int) : Int := if lin l i then 0 else 6
theorem lRaise_s (hs : Sep h0 h (aL b l :: R)) (i : Int) : N_lines_Lines_Raise (some ⟨b, 0, none⟩) i h (fun v h' => v = .tuple #[.bool (lin l i && !(lget l i).1), .int .i64 (lerr l i)] ∧ Sep h0 h' (aL b (lput l i ((lget l i).1, (lget l i).1)) :: R)) := by
  obtain ⟨s, hs⟩ := aL_iff.1 hs
  apply S_lines_Lines_Raise
  unfold B_lines_Lines_Raise
  rw [mBind_ap]
  refine (at_s hs i).mono ?_
  rintro v h' ⟨rfl, hv⟩
  unfold lerr lput
  cases hi : lin l i <;> rw [hi] at hv
  · simp only [Bool.false_eq_true, if_false] at hv ⊢
    subst hv
    exact ⟨rfl, aL_iff.2 ⟨s, hs⟩⟩
  · simp only [if_true] at hv ⊢
    obtain ⟨a, rfl, hat⟩ := hv
    simp only [unP_pointer, Option.isNone_some, mIf_false, mNil_some]
    have hx := lget_at hi
    refine hs.rldB0 1 rfl (fun _ => rfl) hat hx rfl ?_
    refine hs.rst 1 ((lget l i).1, (lget l i).1) rfl (fun _ => rfl) hat hx (by omega) rfl rfl fun h hs => ?_
    simp only [List.set_cons_zero, List.set_cons_succ] at hs
    have hi' := lin_iff.1 hi
    refine hs.rldB0 1 rfl (fun _ => rfl) hat (x := ((lget l i).1, (lget l i).1)) (List.getElem?_set_self (by omega)) rfl ?_
    exact ⟨by simp, aL_iff.2 ⟨s, hs⟩⟩
theorem lMask_s (hs : Sep h0 h (aL b l :: R)) (i : Int) : N_lines_Lines_Mask (some ⟨b, 0, none⟩) i h (fun v h' => v = .int .i64 (lerr l i) ∧ Sep h0 h' (aL b (lput l i (true, (lget l i).2)) :: R)) := by
  obtain ⟨s, hs⟩ := aL_iff.1 hs
  apply S_lines_Lines_Mask
  unfold B_lines_Lines_Mask
  rw [mBind_ap]
  refine (at_s hs i).mono ?_
  rintro v h' ⟨rfl, hv⟩
  unfold lerr lput
  cases hi : lin l i <;> rw [hi] at hv
  · simp only [Bool.false_eq_true, if_false] at hv ⊢
    subst hv
    exact ⟨rfl, aL_iff.2 ⟨s, hs⟩⟩
  · simp only [if_true] at hv ⊢
    obtain ⟨a, rfl, hat⟩ := hv
    simp only [unP_pointer, Option.isNone_some, mIf_false, mNil_some]
    have hx := lget_at hi
    refine hs.rst0 1 (true, (lget l i).2) rfl (fun _ => rfl) hat hx (by omega) rfl rfl fun h hs => ?_
    simp only [List.set_cons_zero, List.set_cons_succ] at hs
    exact ⟨rfl, aL_iff.2 ⟨s, hs⟩⟩
theorem lUnmask_s (hs : Sep h0 h (aL b l :: R)) (i : Int) : N_lines_Lines_Unmask (some ⟨b, 0, none⟩) i h (fun v h' => v = .tuple #[.bool (lin l i && (lget l i).2), .int .i64 (lerr l i)] ∧ Sep h0 h' (aL b (lput l i (false, false)) :: R)) := by
  obtain ⟨s, hs⟩ := aL_iff.1 hs
  apply S_lines_Lines_Unmask
  unfold B_lines_Lines_Unmask
  rw [mBind_ap]
  refine (at_s hs i).mono ?_
  rintro v h' ⟨rfl, hv⟩
  unfold lerr lput
  cases hi : lin l i <;> rw [hi] at hv
  · simp only [Bool.false_eq_true, if_false] at hv ⊢
    subst hv
    exact ⟨rfl, aL_iff.2 ⟨s, hs⟩⟩
  · simp only [if_true] at hv ⊢
    obtain ⟨a, rfl, hat⟩ := hv
    simp only [unP_pointer, Option.isNone_some, mIf_false, mNil_some]
    have hx := lget_at hi
    have hi' := lin_iff.1 hi
    refine hs.rldB 1 rfl (fun _ => rfl) hat hx rfl ?_
    refine hs.rst0 1 (false, (lget l i).2) rfl (fun _ => rfl) hat hx (by omega) rfl rfl fun h hs => ?_
    simp only [List.set_cons_zero, List.set_cons_succ] at hs
    refine hs.rst 1 (x := (false, (lget l i).2)) (false, false) rfl (fun _ => rfl) hat (List.getElem?_set_self (by omega)) (by omega) rfl rfl fun h hs => ?_
    simp only [List.set_cons_zero, List.set_cons_succ, List.set_set] at hs
    exact ⟨by simp, aL_iff.2 ⟨s, hs⟩⟩
theorem lMasked_s (hs : Sep h0 h (aL b l :: R)) (i : Int) : N_lines_Lines_Masked (some ⟨b, 0, none⟩) i h (fun v h' => v = .bool (lin l i && (lget l i).1) ∧ h' = h) := by
  obtain ⟨s, hs⟩ := aL_iff.1 hs
  apply S_lines_Lines_Masked
  unfold B_lines_Lines_Masked
  rw [mBind_ap]
  refine (at_s hs i).mono ?_
  rintro v h' ⟨rfl, hv⟩
  cases hi : lin l i <;> rw [hi] at hv
  · simp only [Bool.false_eq_true, if_false] at hv ⊢
    subst hv
    exact ⟨rfl, rfl⟩
  · simp only [if_true] at hv ⊢
    obtain ⟨a, rfl, hat⟩ := hv
    simp only [unP_pointer, Option.isNone_some, Bool.not_false, mIf_true, mNil_some, mBind_ap]
    exact hs.rldB0 1 rfl (fun _ => rfl) hat (lget_at hi) rfl ⟨by simp, rfl⟩
theorem lLatched_s (hs : Sep h0 h (aL b l :: R)) (i : Int) : N_lines_Lines_Latched (some ⟨b, 0, none⟩) i h (fun v h' => v = .bool (lin l i && (lget l i).2) ∧ h' = h) := by
  obtain ⟨s, hs⟩ := aL_iff.1 hs
  apply S_lines_Lines_Latched
  unfold B_lines_Lines_Latched
  rw [mBind_ap]
  refine (at_s hs i).mono ?_
  rintro v h' ⟨rfl, hv⟩
  cases hi : lin l i <;> rw [hi] at hv
  · simp only [Bool.false_eq_true, if_false] at hv ⊢
    subst hv
    exact ⟨rfl, rfl⟩
  · simp only [if_true] at hv ⊢
    obtain ⟨a, rfl, hat⟩ := hv
    simp only [unP_pointer, Option.isNone_some, Bool.not_false, mIf_true, mNil_some, mBind_ap]
    exact hs.rldB 1 rfl (fun _ => rfl) hat (lget_at hi) rfl ⟨by simp, rfl⟩
theorem lNil (h : Hp) (i : Int) : N_lines_Lines_Raise none i h (fun v h' => v = .tuple #[.bool false, .int .i64 6] ∧ h' = h) ∧ N_lines_Lines_Mask none i h (fun v h' => v = .int .i64 6 ∧ h' = h) ∧
    N_lines_Lines_Masked none i h (fun v h' => v = .bool false ∧ h' = h) ∧ N_lines_Lines_Latched none i h (fun v h' => v = .bool false ∧ h' = h) := by
  refine ⟨?_, ?_, ?_, ?_⟩
  · apply S_lines_Lines_Raise
    unfold B_lines_Lines_Raise
    rw [mBind_ap]
    refine (at_nil h i).mono ?_
    rintro v h' ⟨rfl, rfl⟩
    simp
  · apply S_lines_Lines_Mask
    unfold B_lines_Lines_Mask
    rw [mBind_ap]
    refine (at_nil h i).mono ?_
    rintro v h' ⟨rfl, rfl⟩
    simp
  · apply S_lines_Lines_Masked
    unfold B_lines_Lines_Masked
    rw [mBind_ap]
    refine (at_nil h i).mono ?_
    rintro v h' ⟨rfl, rfl⟩
    simp
  · apply S_lines_Lines_Latched
    unfold B_lines_Lines_Latched
    rw [mBind_ap]
    refine (at_nil h i).mono ?_
    rintro v h' ⟨rfl, rfl⟩
    simp
def lcnt (n : Int) : Nat := (min (max n 0) 8).toNat
theorem lcnt_eq (n : Int) : (if (8 : Int) < (if (0 : Int) > n then (0 : Int) else n) then (8 : Int) else (if (0 : Int) > n then (0 : Int) else n)) = (lcnt n : Int) := by
  unfold lcnt; omega
theorem lNew_s (hs : Sep h0 h R) (n : Int) : N_lines_New n h (fun v h' => ∃ b, v = .pointer (some ⟨b, 0, none⟩) ∧ Sep h0 h' (aL b (List.replicate (lcnt n) (false, false)) :: R)) := by
  apply S_lines_New
  unfold B_lines_New
  rw [lcnt_eq]
  have hc : lcnt n ≤ 8 := by unfold lcnt; omega
  refine hs.make encL 2 (false, false) rfl (by omega) (by omega) (by omega) fun s h hn hs => ?_
  rw [Int.toNat_natCast] at hs
  (refine Sep.new hs fun nb h hs => ?_; try simp only [List.toList_toArray] at hs)
  exact ⟨nb, rfl, aL_iff.2 ⟨s, hs⟩⟩
theorem lfixed_s (hs : Sep h0 h R) : N_signalboxlaw14_fixed h (fun v h' => v = .bool true ∧ Sep h0 h' R) := by
  apply S_signalboxlaw14_fixed
  unfold B_signalboxlaw14_fixed
  rw [mBind_ap]
  refine (lNew_s hs 2).mono ?_
  rintro v h ⟨b, rfl, hs⟩
  have e : List.replicate (lcnt 2) (false, false) = [(false, false), (false, false)] := by rfl
  rw [e] at hs
  simp only [unP_pointer, mBind_ap]
  refine (lRaise_s hs 1).mono ?_
  rintro v h ⟨rfl, hs⟩
  have e1 : lput [(false, false), (false, false)] 1 ((lget [(false, false), (false, false)] 1).1, (lget [(false, false), (false, false)] 1).1) = [(false, false), (false, false)] := by rfl
  rw [e1] at hs
  simp only [un2_tuple, unB_bool, unI_int, mBind_ap]
  refine (lMask_s hs 1).mono ?_
  rintro v h ⟨rfl, hs⟩
  have e1 : lput [(false, false), (false, false)] 1 (true, (lget [(false, false), (false, false)] 1).2) = [(false, false), (true, false)] := by rfl
  rw [e1] at hs
  simp only [unI_int, mBind_ap]
  refine (lRaise_s hs 1).mono ?_
  rintro v h ⟨rfl, hs⟩
  have e1 : lput [(false, false), (true, false)] 1 ((lget [(false, false), (true, false)] 1).1, (lget [(false, false), (true, false)] 1).1) = [(false, false), (true, true)] := by rfl
  rw [e1] at hs
  simp only [un2_tuple, unB_bool, unI_int, mBind_ap]
  refine (lUnmask_s hs 1).mono ?_
  rintro v h ⟨rfl, hs⟩
  have e1 : lput [(false, false), (true, true)] 1 (false, false) = [(false, false), (false, false)] := by rfl
  rw [e1] at hs
  simp only [un2_tuple, unB_bool, unI_int, mBind_ap]
  refine (lUnmask_s hs 1).mono ?_
  rintro v h ⟨rfl, hs⟩
  have e1 : lput [(false, false), (false, false)] 1 (false, false) = [(false, false), (false, false)] := by rfl
  rw [e1] at hs
  simp only [un2_tuple, unB_bool, unI_int, mBind_ap]
  refine (lRaise_s hs 2).mono ?_
  rintro v h ⟨rfl, hs⟩
  have e1 : lput [(false, false), (false, false)] 2 ((lget [(false, false), (false, false)] 2).1, (lget [(false, false), (false, false)] 2).1) = [(false, false), (false, false)] := by rfl
  rw [e1] at hs
  simp only [un2_tuple, unB_bool, unI_int, mBind_ap]
  refine mIf_pos (by decide) ?_
  rw [mBind_ap]
  refine (lLen_s hs).mono ?_
  rintro v h' ⟨rfl, rfl⟩
  exact ⟨rfl, hs.drop⟩
theorem LinesOnce_ok {h : Hp} {i times : Int} (hi : 0 ≤ i ∧ i ≤ 255) (ht : 0 ≤ times ∧ times ≤ 255) : N_signalboxlaw14_LinesOnce i times h (fun v h' => v = .bool true ∧ Under h.size h h') := by
  apply S_signalboxlaw14_LinesOnce
  unfold B_signalboxlaw14_LinesOnce
  rw [mBind_ap]
  refine (lfixed_s (Sep.init h)).mono ?_
  rintro v h1 ⟨rfl, hs⟩
  simp only [unB_bool, Bool.not_true, mIf_false, mBind_ap]
  refine (lNew_s hs 8).mono ?_
  rintro v h2 ⟨b, rfl, hs⟩
  simp only [unP_pointer, mBind_ap]
  refine ⟨by decide, ?_⟩
  have hmod : Int.tmod i 8 = i % 8 := Int.tmod_eq_emod_of_nonneg hi.1
  rw [hmod, wrap64 _ (by omega)]
  generalize hk : i % 8 = k
  have hk8 : 0 ≤ k ∧ k < 8 := by omega
  have hl8 : ∀ l : List (Bool × Bool), l.length = 8 → lin l k = true := fun l hl => lin_iff.2 (by omega)
  have hput : ∀ (l : List (Bool × Bool)) x, l.length = 8 → lget (lput l k x) k = x ∧ (lput l k x).length = 8 := by
    intro l x hl
    unfold lput
    rw [hl8 l hl]
    simp only [if_true]
    have : k.toNat < l.length := by omega
    exact ⟨by unfold lget; simp [this], by simp [hl]⟩
  rw [mBind_ap]
  refine (lMask_s hs k).mono ?_
  rintro v h3 ⟨rfl, hs⟩
  simp only [unI_int]
  have hlen : (List.replicate (lcnt 8) (false, false)).length = 8 := by rfl
  have h1 : lget (List.replicate (lcnt 8) (false, false)) k = (false, false) := by
    unfold lget
    rw [show lcnt 8 = 8 from rfl]
    rw [List.getD_eq_getElem?_getD, List.getElem?_replicate, if_pos (by omega)]
    rfl
  rw [h1] at hs
  have hp := hput _ (true, false) hlen
  -- the raisings, one by one
  have loop : ∀ (d : Nat) (t : Int) (h3 : Hp) (l : List (Bool × Bool)), 0 ≤ t → t + d = times → l.length = 8 → lget l k = (true, decide (t > 0)) → Sep h h3 [aL b l] →
      K_signalboxlaw14_LinesOnce_7 times (some ⟨b, 0, none⟩) k times t h3 (fun v h' => v = .bool true ∧ Under h.size h h') := by
    intro d
    induction d with
    | zero =>
      intro t h3 l h0 htt hl hg hs
      apply S_signalboxlaw14_LinesOnce_7
      unfold B_signalboxlaw14_LinesOnce_7
      rw [decide_eq_false (by omega), mIf_false, mBind_ap]
      have e : lerr l k = 0 := by unfold lerr; rw [hl8 l hl]; rfl
      refine (lUnmask_s hs k).mono ?_
      rintro v h4 ⟨rfl, hs⟩
      have q := hput l (false, false) hl
      have e2 : lerr (lput l k (false, false)) k = 0 := by unfold lerr; rw [hl8 _ q.2]; rfl
      simp only [un2_tuple, unB_bool, unI_int, mBind_ap]
      refine (lUnmask_s hs k).mono ?_
      rintro v h4 ⟨rfl, hs⟩
      have q2 := hput _ (false, false) q.2
      have e3 : lerr (lput (lput l k (false, false)) k (false, false)) k = 0 := by unfold lerr; rw [hl8 _ q2.2]; rfl
      simp only [un2_tuple, unB_bool, unI_int, mBind_ap]
      refine (lRaise_s hs k).mono ?_
      rintro v h4 ⟨rfl, hs⟩
      simp only [un2_tuple, unB_bool, unI_int, mRet_ap]
      refine ⟨?_, hs.under⟩
      rw [hl8 l hl, hl8 _ q.2, hl8 _ q2.2, e, e2, e3, hg, q.1, q2.1]
      obtain rfl : t = times := by omega
      simp
    | succ d ih =>
      intro t h3 l h0 htt hl hg hs
      apply S_signalboxlaw14_LinesOnce_7
      unfold B_signalboxlaw14_LinesOnce_7
      rw [decide_eq_true (by omega), mIf_true, mBind_ap]
      refine (lRaise_s hs k).mono ?_
      rintro v h4 ⟨rfl, hs⟩
      have e : lerr l k = 0 := by unfold lerr; rw [hl8 l hl]; rfl
      simp only [un2_tuple, unB_bool, unI_int]
      rw [hg] at hs ⊢
      rw [e]
      simp only [Bool.not_true, Bool.and_false, Bool.false_or, bne_self_eq_false, mIf_false]
      have q := hput l (true, true) hl
      rw [wrapu8 _ (by omega)]
      refine ih (t + 1) h4 _ (by omega) (by omega) q.2 ?_ hs
      rw [q.1, decide_eq_true (by omega)]
  refine loop times.toNat 0 h3 _ (by omega) (by omega) hp.2 ?_ hs
  rw [hp.1]; rfl
end Go.Proofs.Ytkmenmagclojmaa
