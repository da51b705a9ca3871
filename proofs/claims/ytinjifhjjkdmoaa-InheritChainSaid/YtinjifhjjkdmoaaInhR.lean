/- Priorities that are handed on: InheritChain. Conditions: none. -/
import Derived.Test.YtinjifhjjkdmoaaInhQ
import Derived.Test.YtinjifhjjkdmoaaSbW
namespace Go.Proofs.Ytinjifhjjkdmoaa
open Go Go.Sb
set_option linter.unusedSimpArgs false
set_option linter.unusedVariables false
abbrev IFin (h0 : Hp) : Value → Hp → Prop := fun v h' => v = .bool true ∧ Under h0.size h0 h'
section
variable {h0 h : Hp} {R : List As} {tb : Nat} {P : List (Int × Int)} {T : List (Int × List Int)} {ps ts : Sl} {ss : List (Int × Sl)}
theorem clone1 {s : Sl} {w : Int} (hq : RdI h.size h .i64 s [w]) : N_slices_Clone_int_int s h (fun v h' => ∃ o : Sl, v = .slice o.p o.n o.c ∧ Sep h h' [aRow encI 1 o [w]]) := by
  obtain ⟨a, ha, _⟩ := hq.at_ 0 w rfl
  apply S_slices_Clone_int_int
  unfold B_slices_Clone_int_int
  refine mIf_neg (by rw [ha]; rfl) ?_
  refine Sep.new (cells := #[]) (Sep.init h) fun nb h' hs => ?_
  have hs := Blk.row (enc := encI) (xs := ([] : List Int)) (sz := 1) (n := 0) hs 0 rfl rfl rfl
  simp only [List.set_cons_zero] at hs
  refine hs.appI 0 rfl (hq.under hs.under) rfl (by omega) (by simp) fun o h' _ hs => ?_
  exact ⟨o, rfl, hs⟩
theorem del1 {s : Sl} {w : Int} (hs : Sep h0 h (aRow encI 1 s [w] :: R)) : N_slices_Delete_int_int s 0 1 h (fun v h' => ∃ o : Sl, v = .slice o.p o.n o.c ∧ Sep h0 h' (aRow encI 1 o [] :: R)) := by
  apply S_slices_Delete_int_int
  unfold B_slices_Delete_int_int
  exact hs.delete (xs := [w]) 0 rfl (fun _ => rfl) (i := 0) (by simp) 0 rfl (by intro x v hv; simp only [List.mem_singleton] at hv; subst hv; rfl) fun s' h' _ hs => ⟨s', rfl, hs⟩
theorem Drop1 {p x w : Nat} (hok : TOkI P T) (hp : p < P.length) (hx : x < T.length) (hT : T[x] = ((p : Int), [(w : Int)])) (hw : w < P.length) (hs : Tab h0 h tb P T R) : N_inherit_Table_Drop (some ⟨tb, 0, none⟩) (p : Int) (x : Int) h (fun v h' => v = .tuple #[.int .i64 (w : Int), .int .i64 0] ∧ ∃ R', Tab h0 h' tb (P.set w (P[w].1, -1)) (T.set x ((w : Int), [])) (R' :: R)) := by
  obtain ⟨ps, ts, ss, hl, hs⟩ := hs
  have hf := hold hl hok hs
  have hpn := hs.rowLen 2 rfl
  have htn := hs.rowLen 3 rfl
  have hpl := hok.pl
  have hT1 : T[x].1 = (p : Int) := by rw [hT]
  have hT2 : T[x].2 = [(w : Int)] := by rw [hT]
  have hwf : ∀ z ∈ T[x].2, -9223372036854775808 ≤ z ∧ z ≤ 9223372036854775807 := by
    rw [hT2]; intro z hz; simp only [List.mem_singleton] at hz; omega
  apply S_inherit_Table_Drop
  unfold B_inherit_Table_Drop
  rw [mBind_ap]
  refine (is_s hp hx hl hs).mono ?_
  rintro v h' ⟨rfl, rfl⟩
  simp only [unI_int]
  refine mIf_neg rfl ?_
  rw [mNil_some, add_mk]
  refine hs.ldL 1 rfl rfl ?_
  refine hs.idx 3 rfl (by omega) (by omega) fun b hb => ?_
  simp only [Int.toNat_natCast] at hb
  refine hs.rldI0 3 rfl (fun _ => rfl) hb (List.getElem?_eq_getElem (by omega)) rfl ?_
  rw [hf x hx, hT1]
  refine mIf_neg (by simp) ?_
  refine hs.rldL 3 (j := 1) rfl (fun _ => rfl) hb (List.getElem?_eq_getElem (by omega)) rfl ?_
  have hq := (rdQ hs hl hx hwf).2
  rw [hT2] at hq
  have hqn : (ss[x]'(by omega)).2.n = 1 := hq.n
  -- the second round
  have second : K_inherit_Table_Drop_9 (some ⟨tb, 0, none⟩) b 0 (ss[x]'(by omega)).2 ((ss[x]'(by omega)).2.n : Int) 1 h' (fun v h' => v = .tuple #[.int .i64 (w : Int), .int .i64 0] ∧ ∃ R', Tab h0 h' tb (P.set w (P[w].1, -1)) (T.set x ((w : Int), [])) (R' :: R)) := by
    apply S_inherit_Table_Drop_9
    unfold B_inherit_Table_Drop_9
    refine mIf_neg (by rw [hqn]; rfl) ?_
    refine mIf_neg rfl ?_
    refine hs.rldL 3 (j := 1) rfl (fun _ => rfl) hb (List.getElem?_eq_getElem (by omega)) rfl ?_
    refine hq.ix (j := 0) (by simp) ?_
    rw [List.getElem_cons_zero]
    refine hs.rldL 3 (j := 1) rfl (fun _ => rfl) hb (List.getElem?_eq_getElem (by omega)) rfl ?_
    rw [mBind_ap]
    refine (clone1 hq).mono ?_
    rintro v h ⟨o, rfl, hs'⟩
    have hs := hs.rebase hs'
    simp only [unL_slice, List.cons_append, List.nil_append] at hs ⊢
    rw [mBind_ap]
    refine (del1 hs).mono ?_
    rintro v h ⟨o2, rfl, hs⟩
    simp only [unL_slice]
    have hs : Sep h0 h (tX tb ps ts ss P T (aRow encI 1 o2 [] :: R)) := hs.reT 5 [1, 2, 3, 4, 0] rfl (by simp)
    obtain ⟨_, hs⟩ := opQ hs hl hx
    refine hs.rst 3 (j := 1) ((ss[x]'(by omega)).1, o2) rfl (fun _ => rfl) hb (List.getElem?_eq_getElem (by omega)) (by decide) rfl rfl fun h hs => ?_
    simp only [List.set_cons_zero, List.set_cons_succ] at hs
    refine hs.rst0 3 ((w : Int), o2) rfl (fun _ => rfl) hb (List.getElem?_set_self (by omega)) (by decide) rfl rfl fun h hs => ?_
    simp only [List.set_cons_zero, List.set_cons_succ, List.set_set] at hs
    rw [mNil_some]
    refine hs.ldL 1 rfl rfl ?_
    refine hs.idx 2 rfl (by omega) (by omega) fun a ha => ?_
    simp only [Int.toNat_natCast] at ha
    refine hs.rst 2 (j := 1) (P[w].1, -1) rfl (fun _ => rfl) ha (List.getElem?_eq_getElem hw) (by decide) rfl rfl fun h hs => ?_
    simp only [List.set_cons_zero, List.set_cons_succ] at hs
    have hs : Sep h0 h (aRow encI 1 (ss[x]'(by omega)).2 T[x].2 :: aRow encI 1 o2 [] :: aBlk tb [.slice ps.p ps.n ps.c, .slice ts.p ts.n ts.c] :: aRow encP 2 ps (P.set w (P[w].1, -1)) :: aRow encH 2 ts (ss.set x ((w : Int), o2)) :: aAll ((List.zipWith fH ss T).eraseIdx x) :: R) := hs.reT 6 [0, 5, 1, 2, 3, 4] rfl (by simp)
    have hs : Sep h0 h (aRow encI 1 o2 [] :: aBlk tb [.slice ps.p ps.n ps.c, .slice ts.p ts.n ts.c] :: aRow encP 2 ps (P.set w (P[w].1, -1)) :: aRow encH 2 ts (ss.set x ((w : Int), o2)) :: aAll ((List.zipWith fH ss T).eraseIdx x) :: aRow encI 1 (ss[x]'(by omega)).2 T[x].2 :: R) := hs.reT 6 [1, 2, 3, 4, 5, 0] rfl (by simp)
    refine ⟨rfl, aRow encI 1 (ss[x]'(by omega)).2 T[x].2, ps, ts, ss.set x ((w : Int), o2), by simp [hl], ?_⟩
    exact clQ (x := ((w : Int), o2)) (y := ((w : Int), [])) hl hx rfl hs
  apply S_inherit_Table_Drop_9
  unfold B_inherit_Table_Drop_9
  refine mIf_pos (by rw [hqn]; rfl) ?_
  refine hq.ix (j := 0) (by simp) ?_
  refine mIf_pos rfl ?_
  rw [show IntKind.i64.wrap ((0 : Int) + 1) = 1 from rfl]
  exact ⟨second, second, second⟩
theorem ifixed_s (hs : Sep h0 h R) : N_signalboxlaw40_fixed h (fun v h' => v = .bool true ∧ Under h0.size h0 h') := by
  have wf : ∀ z ∈ [(1 : Int), 5], IntKind.i64.min ≤ z ∧ z ≤ IntKind.i64.max := by intro z hz; simp at hz; rw [show IntKind.i64.min = -9223372036854775808 by decide, show IntKind.i64.max = 9223372036854775807 by decide]; omega
  apply S_signalboxlaw40_fixed
  unfold B_signalboxlaw40_fixed
  refine Sep.new hs fun nb h hs => ?_
  have hI : RdI h.size h .i64 ⟨some ⟨nb, 0, none⟩, 2, 2⟩ [1, 5] := hs.blkI 0 rfl wf rfl
  have hu := hs.under
  rw [mBind_ap]
  refine (iNew_s (m := 2) (by omega) hI (by simp) (Sep.init h)).mono ?_
  rintro v h1 ⟨tb, rfl, ht⟩
  have ht : Tab h h1 tb [(1, -1), (5, -1)] [(-1, []), (-1, [])] [] := ht
  simp only [unP_pointer]
  have ok0 : TOkI [(1, -1), (5, -1)] [(-1, []), (-1, [])] := ⟨by simp, by simp, by simp, by simp⟩
  have ok1 : TOkI [(1, -1), (5, -1)] [(0, []), (-1, [])] := ⟨by simp, by simp, by simp, by simp⟩
  have ok2 : TOkI [(1, -1), (5, 0)] [(0, [1]), (-1, [])] := ⟨by simp, by simp, by simp, by simp⟩
  have ok3 : TOkI [(1, -1), (5, -1)] [(1, []), (-1, [])] := ⟨by simp, by simp, by simp, by simp⟩
  rw [mBind_ap]
  refine (take_free (p := 0) (x := 0) ok0 (by simp) (by simp) rfl rfl ht).mono ?_
  rintro v h2 ⟨rfl, ht⟩
  have ht : Tab h h2 tb [(1, -1), (5, -1)] [(0, []), (-1, [])] [] := ht
  simp only [un2_tuple, unB_bool, unI_int]
  rw [mBind_ap]
  refine (take_wait (p := 1) (x := 0) ok1 (by simp) (by simp) rfl (by simp) (by simp) (Ch.step 0 0 (by simp) (by simp) false rfl (by simp) .out) ht).mono ?_
  rintro v h2 ⟨rfl, ht⟩
  have ht : Tab h h2 tb [(1, -1), (5, 0)] [(0, [1]), (-1, [])] [] := ht
  simp only [un2_tuple, unB_bool, unI_int]
  rw [mBind_ap]
  refine (Priority_s (f := 2) (p := 0) ok2 (by simp) ⟨by omega, by simp, by simp [PrOk]⟩ ht).mono ?_
  rintro v h2 ⟨rfl, ht⟩
  rw [show prF [(1, -1), (5, 0)] [(0, [1]), (-1, [])] 2 ((0 : Nat) : Int) = 5 from rfl]
  simp only [un2_tuple, unB_bool, unI_int]
  rw [mBind_ap]
  refine (take_full (p := 1) (x := 1) ok2 (by simp) (by simp) (by simp) ht).mono ?_
  rintro v h2 ⟨rfl, ht⟩
  simp only [un2_tuple, unB_bool, unI_int]
  rw [mBind_ap]
  refine (Drop1 (p := 0) (x := 0) (w := 1) ok2 (by simp) (by simp) rfl (by simp) ht).mono ?_
  rintro v h2 ⟨rfl, R', ht⟩
  have ht : Tab h h2 tb [(1, -1), (5, -1)] [(1, []), (-1, [])] [R'] := ht
  simp only [un2_tuple, unB_bool, unI_int]
  rw [mBind_ap]
  refine (Holder_s (x := 0) ok3 (by simp) (by simp) ht).mono ?_
  rintro v h' ⟨rfl, rfl⟩
  simp only [un2_tuple, unB_bool, unI_int]
  rw [mBind_ap]
  refine mIf_pos rfl ?_
  rw [mBind_ap]
  apply S_inherit_New
  unfold B_inherit_New
  refine mIf_pos (by decide) ?_
  rw [mRet_ap]
  simp only [unP_pointer]
  obtain ⟨_, _, _, _, hs'⟩ := ht
  exact ⟨rfl, hu.trans ⟨hs'.under.size, fun b hb => hs'.under.at_ b (Nat.lt_of_lt_of_le hb hu.size)⟩⟩
end
end Go.Proofs.Ytinjifhjjkdmoaa
