/- Priorities that are handed on: taking, giving on. Conditions: none. -/
import Derived.Test.YtinjifhjjkdmoaaInhL
import Derived.Test.YtinjifhjjkdmoaaSbW
namespace Go.Proofs.Ytinjifhjjkdmoaa
open Go Go.Sb
set_option linter.unusedSimpArgs false
set_option linter.unusedVariables false
section
variable {h0 h : Hp} {R : List As} {tb : Nat} {P : List (Int × Int)} {T : List (Int × List Int)} {ps ts : Sl} {ss : List (Int × Sl)}
theorem hold (hl : ss.length = T.length) (hok : TOkI P T) (hs : Sep h0 h (tX tb ps ts ss P T R)) : ∀ j (hj : j < T.length), (ss[j]'(by omega)).1 = T[j].1 :=
  fun j hj => (rdQ hs hl hj (fun z hz => by have := hok.w _ (List.getElem_mem hj) z hz; omega)).1
/-- what goes ahead of each taking -/
theorem take_pre {p x : Nat} (hok : TOkI P T) (hp : p < P.length) (hx : x < T.length) (hl : ss.length = T.length) (hs : Sep h0 h (tX tb ps ts ss P T R)) (Q : Value → Hp → Prop)
    (next : ∀ a b, At ps a p 2 → At ts b x 2 → (mLdI .i64 (a.add 1) fun (x34 : Int) =>
    mIf (x34 != (-1 : Int)) (
      mRet (.tuple #[.bool false, .int .i64 (7 : Int)])) (
      mLdI .i64 b fun (x40 : Int) =>
      mIf (x40 == (p : Int)) (
        mRet (.tuple #[.bool false, .int .i64 (10 : Int)])) (
        mBind (N_inherit_Table_chain (some ⟨tb, 0, none⟩) x p) fun r47 =>
        unB r47 fun (x47 : Bool) =>
        mIf x47 (
          mRet (.tuple #[.bool false, .int .i64 (9 : Int)])) (
          mLdI .i64 b fun (x52 : Int) =>
          mIf (x52 == (-1 : Int)) (
            mSt b (.int .i64 (p : Int)) <|
            mRet (.tuple #[.bool true, .int .i64 (0 : Int)])) (
            mSt (a.add 1) (.int .i64 (x : Int)) <|
            mLdL (b.add 1) fun (x66 : Sl) =>
            mNew #[.int .i64 (p : Int)] 3 fun (x68 : Addr) =>
            mApp 3 1 8 #[.int .i64 (0 : Int)] x66 ⟨(some x68), 1, 1⟩ fun (x69 : Sl) =>
            mSt (b.add 1) (.slice x69.p x69.n x69.c) <|
            mRet (.tuple #[.bool false, .int .i64 (0 : Int)]))))) : M Value) h Q) : N_inherit_Table_Take (some ⟨tb, 0, none⟩) (p : Int) (x : Int) h Q := by
  have hpn := hs.rowLen 2 rfl
  have htn := hs.rowLen 3 rfl
  apply S_inherit_Table_Take
  unfold B_inherit_Table_Take
  rw [mBind_ap]
  refine (is_s hp hx hl hs).mono ?_
  rintro v h' ⟨rfl, rfl⟩
  simp only [unI_int]
  refine mIf_neg rfl ?_
  rw [mNil_some]
  refine hs.ldL 1 rfl rfl ?_
  refine hs.idx 2 rfl (by omega) (by omega) fun a ha => ?_
  rw [mNil_some, add_mk]
  refine hs.ldL 1 rfl rfl ?_
  refine hs.idx 3 rfl (by omega) (by omega) fun b hb => ?_
  simp only [Int.toNat_natCast] at ha hb
  exact next a b ha hb
theorem take_full {p x : Nat} (hok : TOkI P T) (hp : p < P.length) (hx : x < T.length) (hw : P[p].2 ≠ -1) (hs : Tab h0 h tb P T R) : N_inherit_Table_Take (some ⟨tb, 0, none⟩) (p : Int) (x : Int) h (fun v h' => v = .tuple #[.bool false, .int .i64 7] ∧ Tab h0 h' tb P T R) := by
  obtain ⟨ps, ts, ss, hl, hs⟩ := hs
  refine take_pre hok hp hx hl hs _ fun a b ha hb => ?_
  refine hs.rldI 2 (j := 1) rfl (fun _ => rfl) ha (List.getElem?_eq_getElem hp) rfl ?_
  refine mIf_pos (by simpa using hw) ?_
  exact ⟨rfl, ps, ts, ss, hl, hs⟩
theorem take_nest {p x : Nat} (hok : TOkI P T) (hp : p < P.length) (hx : x < T.length) (hw : P[p].2 = -1) (hh : T[x].1 ≠ (p : Int)) (hc : Ch P T p x true) (hs : Tab h0 h tb P T R) : N_inherit_Table_Take (some ⟨tb, 0, none⟩) (p : Int) (x : Int) h (fun v h' => v = .tuple #[.bool false, .int .i64 9] ∧ Tab h0 h' tb P T R) := by
  obtain ⟨ps, ts, ss, hl, hs⟩ := hs
  have hf := hold hl hok hs
  refine take_pre hok hp hx hl hs _ fun a b ha hb => ?_
  refine hs.rldI 2 (j := 1) rfl (fun _ => rfl) ha (List.getElem?_eq_getElem hp) rfl ?_
  refine mIf_neg (by simpa using hw) ?_
  refine hs.rldI0 3 rfl (fun _ => rfl) hb (List.getElem?_eq_getElem (by omega)) rfl ?_
  rw [hf x hx]
  refine mIf_neg (by simpa using hh) ?_
  rw [mBind_ap]
  refine (chain_s hl hs hf hc).mono ?_
  rintro v h' ⟨rfl, rfl⟩
  simp only [unB_bool]
  refine mIf_pos rfl ?_
  exact ⟨rfl, ps, ts, ss, hl, hs⟩
theorem take_free {p x : Nat} (hok : TOkI P T) (hp : p < P.length) (hx : x < T.length) (hw : P[p].2 = -1) (hh : T[x].1 = -1) (hs : Tab h0 h tb P T R) : N_inherit_Table_Take (some ⟨tb, 0, none⟩) (p : Int) (x : Int) h (fun v h' => v = .tuple #[.bool true, .int .i64 0] ∧ Tab h0 h' tb P (T.set x ((p : Int), T[x].2)) R) := by
  obtain ⟨ps, ts, ss, hl, hs⟩ := hs
  have hf := hold hl hok hs
  have hne : T[x].1 ≠ (p : Int) := by omega
  refine take_pre hok hp hx hl hs _ fun a b ha hb => ?_
  refine hs.rldI 2 (j := 1) rfl (fun _ => rfl) ha (List.getElem?_eq_getElem hp) rfl ?_
  refine mIf_neg (by simpa using hw) ?_
  refine hs.rldI0 3 rfl (fun _ => rfl) hb (List.getElem?_eq_getElem (by omega)) rfl ?_
  rw [hf x hx]
  refine mIf_neg (by simpa using hne) ?_
  rw [mBind_ap]
  refine (chain_s hl hs hf (Ch.free (P := P) (T := T) x hx hne hh)).mono ?_
  rintro v h' ⟨rfl, rfl⟩
  simp only [unB_bool]
  refine mIf_neg rfl ?_
  refine hs.rldI0 3 rfl (fun _ => rfl) hb (List.getElem?_eq_getElem (by omega)) rfl ?_
  rw [hf x hx]
  refine mIf_pos (by simpa using hh) ?_
  obtain ⟨_, hs⟩ := opQ hs hl hx
  refine hs.rst0 3 ((p : Int), (ss[x]'(by omega)).2) rfl (fun _ => rfl) hb (List.getElem?_eq_getElem (by omega)) (by decide) rfl rfl fun h hs => ?_
  simp only [List.set_cons_zero, List.set_cons_succ] at hs
  refine ⟨rfl, ps, ts, ss.set x ((p : Int), (ss[x]'(by omega)).2), by simp [hl], ?_⟩
  exact clQ hl hx rfl hs
theorem take_wait {p x : Nat} (hok : TOkI P T) (hp : p < P.length) (hx : x < T.length) (hw : P[p].2 = -1) (hh : T[x].1 ≠ (p : Int)) (hn : T[x].1 ≠ -1) (hc : Ch P T p x false) (hs : Tab h0 h tb P T R) : N_inherit_Table_Take (some ⟨tb, 0, none⟩) (p : Int) (x : Int) h (fun v h' => v = .tuple #[.bool false, .int .i64 0] ∧ Tab h0 h' tb (P.set p (P[p].1, (x : Int))) (T.set x (T[x].1, T[x].2 ++ [(p : Int)])) R) := by
  obtain ⟨ps, ts, ss, hl, hs⟩ := hs
  have hf := hold hl hok hs
  have hql := hok.ql _ (List.getElem_mem hx)
  refine take_pre hok hp hx hl hs _ fun a b ha hb => ?_
  refine hs.rldI 2 (j := 1) rfl (fun _ => rfl) ha (List.getElem?_eq_getElem hp) rfl ?_
  refine mIf_neg (by simpa using hw) ?_
  refine hs.rldI0 3 rfl (fun _ => rfl) hb (List.getElem?_eq_getElem (by omega)) rfl ?_
  rw [hf x hx]
  refine mIf_neg (by simpa using hh) ?_
  rw [mBind_ap]
  refine (chain_s hl hs hf hc).mono ?_
  rintro v h' ⟨rfl, rfl⟩
  simp only [unB_bool]
  refine mIf_neg rfl ?_
  refine hs.rldI0 3 rfl (fun _ => rfl) hb (List.getElem?_eq_getElem (by omega)) rfl ?_
  rw [hf x hx]
  refine mIf_neg (by simpa using hn) ?_
  refine hs.rst 2 (j := 1) (P[p].1, (x : Int)) rfl (fun _ => rfl) ha (List.getElem?_eq_getElem hp) (by decide) rfl rfl fun h hs => ?_
  simp only [List.set_cons_zero, List.set_cons_succ] at hs
  refine hs.rldL 3 (j := 1) rfl (fun _ => rfl) hb (List.getElem?_eq_getElem (by omega)) rfl ?_
  obtain ⟨_, hs⟩ := opQ hs hl hx
  refine Sep.new hs fun nb h hs => ?_
  refine hs.app1 1 0 (p : Int) rfl rfl (fun _ => rfl) (by intro v hv; simp only [List.mem_singleton] at hv; subst hv; rfl) rfl (by omega) (by omega) fun q h _ hs => ?_
  simp only [List.set_cons_zero, List.set_cons_succ] at hs
  have hs := hs.drop
  refine hs.rst 3 (j := 1) ((ss[x]'(by omega)).1, q) rfl (fun _ => rfl) hb (List.getElem?_eq_getElem (by omega)) (by decide) rfl rfl fun h hs => ?_
  simp only [List.set_cons_zero, List.set_cons_succ] at hs
  refine ⟨rfl, ps, ts, ss.set x ((ss[x]'(by omega)).1, q), by simp [hl], ?_⟩
  exact clQ (y := (T[x].1, T[x].2 ++ [(p : Int)])) hl hx (hf x hx) hs
theorem Priority_s {f p : Nat} (hok : TOkI P T) (hp : p < P.length) (hpr : PrOk P T f p) (hs : Tab h0 h tb P T R) : N_inherit_Table_Priority (some ⟨tb, 0, none⟩) (p : Int) h (fun v h' => v = .tuple #[.int .i64 (prF P T f p), .bool true] ∧ Tab h0 h' tb P T R) := by
  obtain ⟨ps, ts, ss, hl, hs⟩ := hs
  have hpn := hs.rowLen 2 rfl
  apply S_inherit_Table_Priority
  unfold B_inherit_Table_Priority
  rw [mBind_ap]
  refine mIf_neg (by simp) ?_
  rw [mNil_some]
  refine hs.ldL 1 rfl rfl ?_
  rw [mRet_ap]
  refine mIf_neg (by simp; omega) ?_
  rw [mBind_ap]
  refine (pri_s hok hl f h p hpr hs).mono ?_
  rintro v h ⟨rfl, hs⟩
  simp only [unI_int]
  exact ⟨rfl, ps, ts, ss, hl, hs⟩
theorem Holder_s {x : Nat} (hok : TOkI P T) (hx : x < T.length) (hh : T[x].1 ≠ -1) (hs : Tab h0 h tb P T R) : N_inherit_Table_Holder (some ⟨tb, 0, none⟩) (x : Int) h (fun v h' => v = .tuple #[.int .i64 T[x].1, .bool true] ∧ h' = h) := by
  obtain ⟨ps, ts, ss, hl, hs⟩ := hs
  have htn := hs.rowLen 3 rfl
  have hf := hold hl hok hs
  apply S_inherit_Table_Holder
  unfold B_inherit_Table_Holder
  rw [mBind_ap]
  refine mIf_neg (by simp) ?_
  rw [mNil_some, add_mk]
  refine hs.ldL 1 rfl rfl ?_
  rw [mRet_ap, mBind_ap]
  refine mIf_neg (by simp; omega) ?_
  rw [mNil_some, add_mk]
  refine hs.ldL 1 rfl rfl ?_
  refine hs.idx 3 rfl (by omega) (by omega) fun a ha => ?_
  simp only [Int.toNat_natCast] at ha
  refine hs.rldI0 3 rfl (fun _ => rfl) ha (List.getElem?_eq_getElem (by omega)) rfl ?_
  rw [mRet_ap, hf x hx]
  refine mIf_neg (by simpa using hh) ?_
  rw [mNil_some, add_mk]
  refine hs.ldL 1 rfl rfl ?_
  refine hs.idx 3 rfl (by omega) (by omega) fun a ha => ?_
  simp only [Int.toNat_natCast] at ha
  refine hs.rldI0 3 rfl (fun _ => rfl) ha (List.getElem?_eq_getElem (by omega)) rfl ?_
  rw [hf x hx]
  exact ⟨rfl, rfl⟩
/-! a new one -/
theorem new10 {m : Nat} (hm : m ≤ 64) : ∀ (e k : Nat) (ts : Sl) (ss : List (Int × Sl)) (h : Hp), k + e = m → ss.length = k → Sep h0 h (tX tb ps ts ss P (List.replicate k (-1, [])) R) →
    K_inherit_New_10 ⟨tb, 0, none⟩ (m : Int) (k : Int) h (fun v h' => v = .pointer (some ⟨tb, 0, none⟩) ∧ Tab h0 h' tb P (List.replicate m (-1, [])) R)
  | 0, k, ts, ss, h, hk, hl, hs => by
    have hk : k = m := by omega
    subst hk
    apply S_inherit_New_10
    unfold B_inherit_New_10
    refine mIf_neg (by simp) ?_
    exact ⟨rfl, ps, ts, ss, by simp [hl], hs⟩
  | e + 1, k, ts, ss, h, hk, hl, hs => by
    have ih := new10 hm e (k + 1)
    apply S_inherit_New_10
    unfold B_inherit_New_10
    refine mIf_pos (by simp; omega) ?_
    rw [add_mk]
    refine hs.ldL 1 rfl rfl ?_
    refine Sep.new hs fun nb h hs => ?_
    refine hs.app1 4 0 ((-1 : Int), (⟨none, 0, 0⟩ : Sl)) rfl rfl (fun _ => rfl) (encH_one _) rfl (by omega) (by omega) fun ts2 h _ hs => ?_
    simp only [List.set_cons_zero, List.set_cons_succ] at hs
    have hs := hs.drop
    refine hs.st 1 rfl rfl rfl fun h hs => ?_
    rw [wrap64 ((k : Int) + 1) (by omega), show ((k : Int) + 1) = ((k + 1 : Nat) : Int) by omega]
    refine ih ts2 (ss ++ [((-1 : Int), (⟨none, 0, 0⟩ : Sl))]) h (by omega) (by simp [hl]) ?_
    have hs : Sep h0 h (aAll (List.zipWith fH ss (List.replicate k (-1, []))) :: aBlk tb [.slice ps.p ps.n ps.c, .slice ts2.p ts2.n ts2.c] :: aRow encP 2 ps P :: aRow encH 2 ts2 (ss ++ [((-1 : Int), (⟨none, 0, 0⟩ : Sl))]) :: R) := hs
    have h1 := Sep.alls.1 hs
    refine Sep.alls.2 ?_
    rw [List.replicate_succ', List.zipWith_append (by simp [hl])]
    have h2 := h1.nilRow encI 1
    have h3 : Sep h0 h (fH ((-1 : Int), (⟨none, 0, 0⟩ : Sl)) (-1, []) :: (List.zipWith fH ss (List.replicate k (-1, [])) ++ (aBlk tb [.slice ps.p ps.n ps.c, .slice ts2.p ts2.n ts2.c] :: aRow encP 2 ps P :: aRow encH 2 ts2 (ss ++ [((-1 : Int), (⟨none, 0, 0⟩ : Sl))]) :: R))) := by
      unfold fH
      rw [Sep.star, Sep.pure]
      exact ⟨rfl, h2⟩
    rw [List.append_assoc]
    exact h3.perm List.perm_middle.symm
theorem new5 {m : Nat} (hm : m ≤ 64) {bs : Sl} {zs : List Int} (hr : RdI h0.size h0 .i64 bs zs) (hn : zs.length ≤ 64) : ∀ (e k : Nat) (ps : Sl) (h : Hp), k + e = zs.length → Sep h0 h (tX tb ps ⟨none, 0, 0⟩ [] ((zs.take k).map fun z => (z, -1)) [] R) →
    K_inherit_New_5 (m : Int) ⟨tb, 0, none⟩ bs (bs.n : Int) (k : Int) h (fun v h' => v = .pointer (some ⟨tb, 0, none⟩) ∧ Tab h0 h' tb (zs.map fun z => (z, -1)) (List.replicate m (-1, [])) R)
  | 0, k, ps, h, hk, hs => by
    have hbn := hr.n
    apply S_inherit_New_5
    unfold B_inherit_New_5
    refine mIf_neg (by simp; omega) ?_
    rw [List.take_of_length_le (by omega)] at hs
    exact new10 hm m 0 _ [] h (Nat.zero_add _) rfl hs
  | e + 1, k, ps, h, hk, hs => by
    have ih := new5 hm hr hn e (k + 1)
    have hbn := hr.n
    have hkl : k < zs.length := by omega
    apply S_inherit_New_5
    unfold B_inherit_New_5
    refine mIf_pos (by simp; omega) ?_
    refine hs.argIn hr hkl ?_
    refine hs.ldL 1 rfl rfl ?_
    refine Sep.new hs fun nb h hs => ?_
    refine hs.app1 3 0 (zs[k], (-1 : Int)) rfl rfl (fun _ => rfl) (encP_one _) rfl (by omega) (by simp; omega) fun ps2 h _ hs => ?_
    simp only [List.set_cons_zero, List.set_cons_succ] at hs
    have hs := hs.drop
    refine hs.st 1 rfl rfl rfl fun h hs => ?_
    rw [wrap64 ((k : Int) + 1) (by omega), show ((k : Int) + 1) = ((k + 1 : Nat) : Int) by omega]
    refine ih ps2 h (by omega) ?_
    rw [List.take_succ_eq_append_getElem hkl, List.map_append]
    exact hs
theorem iNew_s {m : Nat} (hm : m ≤ 64) {bs : Sl} {zs : List Int} (hr : RdI h0.size h0 .i64 bs zs) (hn : zs.length ≤ 64) (hs : Sep h0 h R) : N_inherit_New bs (m : Int) h (fun v h' => ∃ tb, v = .pointer (some ⟨tb, 0, none⟩) ∧ Tab h0 h' tb (zs.map fun z => (z, -1)) (List.replicate m (-1, [])) R) := by
  have hbn := hr.n
  apply S_inherit_New
  unfold B_inherit_New
  refine mIf_neg (by simp; omega) ?_
  refine Sep.new hs fun tb h hs => ?_
  have hs := ((hs.nilRow encH 2).nilRow encP 2)
  have hs : Sep h0 h (tX tb ⟨none, 0, 0⟩ ⟨none, 0, 0⟩ [] ((zs.take 0).map fun z => (z, -1)) [] R) := by
    refine Sep.alls.2 ?_
    exact hs.reT 3 [2, 0, 1] rfl (by simp)
  refine (new5 hm hr hn zs.length 0 _ h (Nat.zero_add _) hs).mono ?_
  rintro v h ⟨rfl, ht⟩
  exact ⟨tb, rfl, ht⟩
end
end Go.Proofs.Ytinjifhjjkdmoaa
