/- Configurations as bytes: what the program writes. Conditions: none. -/
import Derived.Test.YtimpaammdmeocaaCodeQ
import Derived.Test.YtimpaammdmeocaaCfgV
import Derived.Test.YtimpaammdmeocaaSbW
namespace Go.Proofs.Ytimpaammdmeocaa
open Go Go.Sb
set_option linter.unusedSimpArgs false
set_option linter.unusedVariables false
set_option linter.unusedVariables false
section
variable {h0 h : Hp} {R L : List As} {C : PCfg} {sm sc se st sl : Sl} {ts : List (PTask × Sl)}
theorem take_foldl {X Y : Type} {f : Y → X → Y} {y : Y} {l : List X} {k : Nat} (hk : k < l.length) : (l.take (k + 1)).foldl f y = f ((l.take k).foldl f y) l[k] := by
  rw [List.take_succ_eq_append_getElem hk, List.foldl_append]; rfl
theorem bytes16 {w c x : Nat} {t : PTask} {o : Sl} {k : Nat} {b0 : List Int} (ho : RdE h0.size h0 encO 3 o t.ops) (hol : t.ops.length ≤ 100) (hb0 : b0.length ≤ 100000) (hk : k < 1000) {Q : Value → Hp → Prop}
    (next : ∀ (b : Sl) (h : Hp), Sep h0 h (wB w b :: aRow encB 1 b (encOps b0 t.ops) :: aBlk c (cfgC C sm sc se st sl) :: R) → K_code_Bytes_12 ⟨c, 0, none⟩ ⟨w, 0, none⟩ st (st.n : Int) ((k + 1 : Nat) : Int) h Q) : ∀ (d j : Nat) (b : Sl) (h : Hp), j + d = t.ops.length → Sep h0 h (wB w b :: aRow encB 1 b (encOps b0 (t.ops.take j)) :: aBlk c (cfgC C sm sc se st sl) :: R) →
    K_code_Bytes_16 ⟨c, 0, none⟩ ⟨w, 0, none⟩ st (st.n : Int) (k : Int) o (o.n : Int) (j : Int) h Q
  | 0, j, b, h, hj, hs => by
    have hn := ho.n
    rw [List.take_of_length_le (by omega)] at hs
    apply S_code_Bytes_16
    unfold B_code_Bytes_16
    refine mIf_neg (by simp; omega) ?_
    rw [wrapS k (by omega)]
    exact next b h hs
  | d + 1, j, b, h, hj, hs => by
    have ih := bytes16 (x := x) ho hol hb0 hk next d (j + 1)
    have hn := ho.n
    have hjl : j < t.ops.length := by omega
    have hlen := encOps_len (t.ops.take j) b0
    rw [List.length_take] at hlen
    apply S_code_Bytes_16
    unfold B_code_Bytes_16
    refine mIf_pos (by simp; omega) ?_
    refine ho.ix hs hjl fun a ha => ?_
    have ef : encOps b0 (t.ops.take (j + 1)) = wrL (encOps b0 (t.ops.take j)) [t.ops[j].k, t.ops[j].a, t.ops[j].b] := take_foldl hjl
    rw [ef] at ih
    generalize t.ops[j] = q at ha ih
    (refine Arg.ldI0 ha rfl ?_; refine Arg.ldI ha rfl ?_; refine Arg.ldI ha rfl ?_; (refine Sep.new hs fun nb h hs => ?_; try simp only [List.toList_toArray] at hs); (refine Sep.st hs 0 rfl rfl rfl fun h hs => ?_; simp only [List.set_cons_zero, List.set_cons_succ] at hs); (refine Sep.st hs 0 rfl rfl rfl fun h hs => ?_; simp only [List.set_cons_zero, List.set_cons_succ] at hs); (refine Sep.st hs 0 rfl rfl rfl fun h hs => ?_; simp only [List.set_cons_zero, List.set_cons_succ] at hs); refine Sep.ldI hs 0 rfl rfl ?_; refine Sep.ldI hs 0 rfl rfl ?_; refine Sep.ldI hs 0 rfl rfl ?_; (refine Sep.new hs fun nb_1 h hs => ?_; try simp only [List.toList_toArray] at hs); simp only [mBind_ap])
    refine (putB_s [q.k, q.a, q.b] rfl (by simp) (by omega) (hs.reT 4 [0, 2, 3, 1] rfl (by simp))).mono ?_
    rintro v h ⟨rfl, b, hs⟩
    rw [wrapS j (by omega)]
    exact ih b h (by omega) ((hs.reT 3 [2, 0, 1] rfl (by simp)).drop)
theorem bytesEnd {w c : Nat} {b : Sl} {xs : List Int} (hc : CRd h0 C sm sc se st sl ts) (hln : C.lines.length ≤ 1000) (hxl : xs.length ≤ 500000) (hB : isB xs) (hs : Sep h0 h (wB w b :: aRow encB 1 b xs :: aBlk c (cfgC C sm sc se st sl) :: R)) :
    K_code_Bytes_12 ⟨c, 0, none⟩ ⟨w, 0, none⟩ st (st.n : Int) (ts.length : Int) h (fun v h' => ∃ o : Sl, v = .tuple #[.slice o.p o.n o.c, .int .i64 0] ∧ Sep h0 h' (aRow encB 1 o (wrList xs C.lines ++ [sumB (wrList xs C.lines)]) :: R)) := by
  have hn := hc.rows.n
  apply S_code_Bytes_12
  unfold B_code_Bytes_12
  refine mIf_neg (by simp; omega) ?_
  (refine Sep.ldL hs 2 rfl rfl ?_; simp only [mBind_ap])
  refine (wlist_s hc.lines (by omega) (by omega) hs).mono ?_
  rintro v h ⟨rfl, b, hs⟩
  have hwl := wrL_len ((C.lines.length : Int) :: C.lines) xs
  rw [List.length_cons] at hwl
  have hWB : isB (wrList xs C.lines) := wrL_B _ _ hB
  have hWl : (wrList xs C.lines).length ≤ 600000 := by unfold wrList; omega
  generalize wrList xs C.lines = W at hs hWB hWl ⊢
  have fin : ∀ h (o : Sl), Sep h0 h (aRow encB 1 o (W ++ [sumB W]) :: R) → (mRet (.tuple #[.slice o.p o.n o.c, .int .i64 (0 : Int)]) : M Value) h (fun v h' => ∃ o : Sl, v = .tuple #[.slice o.p o.n o.c, .int .i64 0] ∧ Sep h0 h' (aRow encB 1 o (W ++ [sumB W]) :: R)) := fun h o hs => ⟨o, rfl, hs⟩
  have hsum : ∀ h L, Sep h0 h (wB w b :: aRow encB 1 b W :: L) → N_code_Sum b h (fun v h' => v = .int .u8 (sumB W) ∧ h' = h) := fun h L hs => Sum_s (rowB hs (k := 1) rfl hWB).1 (by omega)
  repeat' (first | with_reducible refine mAnd_intro ?_ ?_ | (first | (((with_reducible refine gd_mLdL ?_); refine Sep.ldL hs 0 rfl rfl ?_)) | ((simp only [mBind_ap])) | ((simp only [unI_int])) | (((with_reducible refine gd_mNew ?_); (refine Sep.new hs fun nb h hs => ?_; try simp only [List.toList_toArray] at hs))) | (((with_reducible refine gd_mApp ?_); (refine Sep.app1 hs 2 0 _ rfl rfl (fun _ => rfl) (by simp [Value.oneCell']) rfl (by omega) (by first | omega | (simp only [List.length_set, List.length_map, List.length_replicate, List.length_append, List.length_cons, List.length_nil, List.length_reverse, List.length_range]; omega) | (simp; omega)) fun sl_1 h hn_sl_1 hs => ?_; simp only [List.set_cons_zero, List.set_cons_succ] at hs))) | (((with_reducible refine gd_mLdL ?_); refine Sep.ldL hs 1 rfl rfl ?_))) | (refine (hsum _ _ hs).mono ?_; rintro v h ⟨rfl, rfl⟩) | (refine hs.app1 2 0 (sumB W) rfl rfl (fun _ => rfl) (by intro v hv; simp at hv; subst hv; rfl) rfl (by omega) (by omega) fun s' h hn hs => ?_; simp only [List.set_cons_succ, List.set_cons_zero] at hs))
  all_goals exact fin h _ (hs.reT 4 [0, 1, 3, 2] rfl (by simp)).drop.drop.drop
theorem check_lens (h : checkN C = 0) : C.mail.length ≤ 4 ∧ C.counts.length ≤ 4 ∧ C.ceils.length ≤ 4 ∧ C.tasks.length ≤ 8 ∧ C.lines.length ≤ 8 ∧ ∀ t ∈ C.tasks, t.ops.length ≤ 64 := by
  obtain ⟨h1, h2, h3, h4, h5, h6⟩ := check_parts h
  unfold manyB at h2
  simp only [Bool.or_eq_false_iff, decide_eq_false_iff_not] at h2
  refine ⟨by omega, by omega, by omega, by omega, by omega, fun t ht => ?_⟩
  obtain ⟨j, hj⟩ := tasksE_mem _ _ h6 t ht
  unfold taskE at hj
  split at hj
  · cases hj
  · simp only at hj
    split at hj
    · rename_i hz; exact absurd hj hz
    · rename_i hz
      exact (progE_ok (by simpa using hz)).1
theorem bytes12 {w c : Nat} {P : List Int} (hc : CRd h0 C sm sc se st sl ts) (hk : checkN C = 0) (hP : P.length ≤ 1000) (hB : isB P) : ∀ (d k : Nat) (b : Sl) (h : Hp), k + d = ts.length → Sep h0 h (wB w b :: aRow encB 1 b ((C.tasks.take k).foldl encTask P) :: aBlk c (cfgC C sm sc se st sl) :: R) →
    K_code_Bytes_12 ⟨c, 0, none⟩ ⟨w, 0, none⟩ st (st.n : Int) (k : Int) h (fun v h' => ∃ o : Sl, v = .tuple #[.slice o.p o.n o.c, .int .i64 0] ∧ Sep h0 h' (aRow encB 1 o (wrList (C.tasks.foldl encTask P) C.lines ++ [sumB (wrList (C.tasks.foldl encTask P) C.lines)]) :: R))
  | 0, k, b, h, hkd, hs => by
    obtain ⟨l1, l2, l3, l4, l5, l6⟩ := check_lens hk
    have h6 := hc.len.2.2.2.2.2
    rw [List.take_of_length_le (by omega)] at hs
    have hkk : k = ts.length := by omega
    have hlen := encTasks_len C.tasks P l6
    subst hkk
    exact bytesEnd hc (by omega) (by omega) (encTasks_B _ _ hB) hs
  | d + 1, k, b, h, hkd, hs => by
    have ih := bytes12 (w := w) (c := c) hc hk hP hB d (k + 1)
    obtain ⟨l1, l2, l3, l4, l5, l6⟩ := check_lens hk
    have h6 := hc.len.2.2.2.2.2
    have hn := hc.rows.n
    have hkl : k < ts.length := by omega
    have hops := hc.ops _ (List.getElem_mem hkl)
    have htk := hc.at hkl
    obtain ⟨q1, q2⟩ := List.getElem?_eq_some_iff.1 htk
    have hol := l6 _ (List.mem_of_getElem? htk)
    rw [take_foldl q1, q2] at ih
    have hlen := encTasks_len (m := 64) (C.tasks.take k) P fun t ht => l6 t (List.mem_of_mem_take ht)
    rw [List.length_take] at hlen
    apply S_code_Bytes_12
    unfold B_code_Bytes_12
    refine mIf_pos (by simp; omega) ?_
    refine hc.rows.ix hs hkl fun a ha => ?_
    generalize ts[k] = p at ha hops hol ih
    generalize (C.tasks.take k).foldl encTask P = X at hs ih hlen
    (refine Arg.ldI0 ha rfl ?_; refine Arg.ldI ha rfl ?_; refine Arg.ldI ha rfl ?_; refine Arg.ldI ha rfl ?_; refine Arg.ldI ha rfl ?_; refine Arg.ldI ha rfl ?_; refine Arg.ldL ha rfl ?_; (refine Sep.new hs fun nb h hs => ?_; try simp only [List.toList_toArray] at hs); (refine Sep.st hs 0 rfl rfl rfl fun h hs => ?_; simp only [List.set_cons_zero, List.set_cons_succ] at hs); (refine Sep.st hs 0 rfl rfl rfl fun h hs => ?_; simp only [List.set_cons_zero, List.set_cons_succ] at hs); (refine Sep.st hs 0 rfl rfl rfl fun h hs => ?_; simp only [List.set_cons_zero, List.set_cons_succ] at hs); (refine Sep.st hs 0 rfl rfl rfl fun h hs => ?_; simp only [List.set_cons_zero, List.set_cons_succ] at hs); (refine Sep.st hs 0 rfl rfl rfl fun h hs => ?_; simp only [List.set_cons_zero, List.set_cons_succ] at hs); (refine Sep.st hs 0 rfl rfl rfl fun h hs => ?_; simp only [List.set_cons_zero, List.set_cons_succ] at hs); (refine Sep.st hs 0 rfl rfl rfl fun h hs => ?_; simp only [List.set_cons_zero, List.set_cons_succ] at hs); refine Sep.ldI hs 0 rfl rfl ?_; refine Sep.ldI hs 0 rfl rfl ?_; refine Sep.ldI hs 0 rfl rfl ?_; refine Sep.ldI hs 0 rfl rfl ?_; refine Sep.ldI hs 0 rfl rfl ?_; refine Sep.ldI hs 0 rfl rfl ?_; refine Sep.ldL hs 0 rfl rfl ?_; (refine Sep.new hs fun nb_1 h hs => ?_; try simp only [List.toList_toArray] at hs); simp only [add_mk, Nat.zero_add, mBind_ap])
    refine (putB_s [p.1.pr, p.1.th, p.1.pe, p.1.de, p.1.fr, p.1.fl, (p.2.n : Int)] rfl (by simp) (by omega) (hs.reT 4 [0, 2, 3, 1] rfl (by simp))).mono ?_
    rintro v h ⟨rfl, b, hs⟩
    have hs : Sep h0 h (aBlk nb (tskC p.1 p.2) :: wB w b :: aRow encB 1 b (wrL X [p.1.pr, p.1.th, p.1.pe, p.1.de, p.1.fr, p.1.fl, (p.2.n : Int)]) :: aBlk c (cfgC C sm sc se st sl) :: R) := hs.reT 3 [2, 0, 1] rfl (by simp)
    have hwl := wrL_len [p.1.pr, p.1.th, p.1.pe, p.1.de, p.1.fr, p.1.fl, (p.2.n : Int)] X
    simp only [List.length_cons, List.length_nil] at hwl
    (refine Sep.ldL hs 0 rfl rfl ?_; simp only)
    refine bytes16 (x := 0) (k := k) (t := p.1) (b0 := wrL X [p.1.pr, p.1.th, p.1.pe, p.1.de, p.1.fr, p.1.fl, (p.2.n : Int)]) hops.1 (by omega) (by omega) (by omega) (fun b h hs => ?_) p.1.ops.length 0 b h (Nat.zero_add _) (by rw [List.take_zero]; exact hs.drop)
    refine ih b h (by omega) ?_
    unfold encTask
    rw [← hops.1.n]
    exact hs
theorem Bytes_s (hc : CRd h0 C sm sc se st sl ts) (hs : Sep h0 h R) : N_code_Bytes C.sets C.ways C.hit C.miss sm C.groups sc se st sl h (fun v h' => ∃ o : Sl, v = .tuple #[.slice o.p o.n o.c, .int .i64 (checkN C)] ∧ Sep h0 h' (aRow encB 1 o (if checkN C = 0 then encCfg C else []) :: R)) := by
  obtain ⟨n1, n2, n3, n4, n5, n6⟩ := hc.len
  apply S_code_Bytes
  unfold B_code_Bytes
  refine Sep.new hs fun c h hs => ?_
  simp only [List.toList_toArray] at hs
  have hs : Sep h0 h (aBlk c (cfgC C sm sc se st sl) :: R) := hs
  (refine Sep.ldI hs 0 rfl rfl ?_; refine Sep.ldI hs 0 rfl rfl ?_; refine Sep.ldI hs 0 rfl rfl ?_; refine Sep.ldI hs 0 rfl rfl ?_; refine Sep.ldL hs 0 rfl rfl ?_; refine Sep.ldI hs 0 rfl rfl ?_; refine Sep.ldL hs 0 rfl rfl ?_; refine Sep.ldL hs 0 rfl rfl ?_; refine Sep.ldL hs 0 rfl rfl ?_; refine Sep.ldL hs 0 rfl rfl ?_; simp only [add_mk, Nat.zero_add, mBind_ap])
  refine (pConf_s hc hs).mono ?_
  rintro v h ⟨rfl, hs⟩
  simp only [unI_int]
  by_cases hk : checkN C = 0
  · rw [hk]
    simp only [if_true]
    refine mIf_neg rfl ?_
    obtain ⟨l1, l2, l3, l4, l5, l6⟩ := check_lens hk
    rw [mBind_ap]
    apply S_code_begin
    unfold B_code_begin
    refine Sep.new hs fun g h hs => ?_
    rw [mRet_ap]
    simp only [unL_slice]
    have hs := Blk.row (enc := encB) (xs := [83, 66]) (sz := 1) (n := 2) hs 0 rfl rfl rfl
    simp only [List.set_cons_zero] at hs
    refine Sep.new hs fun w h hs => ?_
    have hs : Sep h0 h (wB w ⟨some ⟨g, 0, none⟩, 2, 2⟩ :: aRow encB 1 ⟨some ⟨g, 0, none⟩, 2, 2⟩ [83, 66] :: aBlk c (cfgC C sm sc se st sl) :: R) := hs
    (refine Sep.ldI hs 2 rfl rfl ?_; refine Sep.ldI hs 2 rfl rfl ?_; refine Sep.ldI hs 2 rfl rfl ?_; refine Sep.ldI hs 2 rfl rfl ?_; (refine Sep.new hs fun nb h hs => ?_; try simp only [List.toList_toArray] at hs); simp only [mBind_ap])
    refine (putB_s [C.sets, C.ways, C.hit, C.miss] rfl (by simp) (by simp) hs).mono ?_
    rintro v h ⟨rfl, b, hs⟩
    have y1 := wrL_len [C.sets, C.ways, C.hit, C.miss] [83, 66]
    simp only [List.length_cons, List.length_nil] at y1
    generalize hX1 : wrL [83, 66] [C.sets, C.ways, C.hit, C.miss] = X1 at hs y1
    (refine Sep.ldL hs 2 rfl rfl ?_; simp only [mBind_ap])
    refine (wlist_s hc.mail (by omega) (by omega) hs).mono ?_
    rintro v h ⟨rfl, b, hs⟩
    have y2 : (wrList X1 C.mail).length ≤ X1.length + 5 * (C.mail.length + 1) := by have := wrL_len ((C.mail.length : Int) :: C.mail) X1; rw [List.length_cons] at this; exact this
    generalize hX2 : wrList X1 C.mail = X2 at hs y2
    (refine Sep.ldI hs 2 rfl rfl ?_; (refine Sep.new hs fun nb_1 h hs => ?_; try simp only [List.toList_toArray] at hs); simp only [mBind_ap])
    refine (putB_s [C.groups] rfl (by simp) (by omega) hs).mono ?_
    rintro v h ⟨rfl, b, hs⟩
    have y3 := wrN_len X2 C.groups
    have hX3' : wrL X2 [C.groups] = wrN X2 C.groups := rfl
    rw [hX3'] at hs
    generalize hX3 : wrN X2 C.groups = X3 at hs y3
    (refine Sep.ldL hs 2 rfl rfl ?_; simp only [mBind_ap])
    refine (wlist_s hc.counts (by omega) (by omega) hs).mono ?_
    rintro v h ⟨rfl, b, hs⟩
    have y4 : (wrList X3 C.counts).length ≤ X3.length + 5 * (C.counts.length + 1) := by have := wrL_len ((C.counts.length : Int) :: C.counts) X3; rw [List.length_cons] at this; exact this
    generalize hX4 : wrList X3 C.counts = X4 at hs y4
    (refine Sep.ldL hs 2 rfl rfl ?_; simp only [mBind_ap])
    refine (wlist_s hc.ceils (by omega) (by omega) hs).mono ?_
    rintro v h ⟨rfl, b, hs⟩
    have y5 : (wrList X4 C.ceils).length ≤ X4.length + 5 * (C.ceils.length + 1) := by have := wrL_len ((C.ceils.length : Int) :: C.ceils) X4; rw [List.length_cons] at this; exact this
    generalize hX5 : wrList X4 C.ceils = X5 at hs y5
    (refine Sep.ldL hs 2 rfl rfl ?_; (refine Sep.new hs fun nb_2 h hs => ?_; try simp only [List.toList_toArray] at hs); simp only [mBind_ap])
    refine (putB_s [(st.n : Int)] rfl (by simp) (by omega) hs).mono ?_
    rintro v h ⟨rfl, b, hs⟩
    have y6 := wrN_len X5 (C.tasks.length : Int)
    have hX6' : wrL X5 [(st.n : Int)] = wrN X5 (C.tasks.length : Int) := by rw [n5]; rfl
    rw [hX6'] at hs
    have hB : isB (wrN X5 (C.tasks.length : Int)) := by
      rw [← hX5, ← hX4, ← hX3, ← hX2, ← hX1]
      refine wrN_B _ (wrL_B _ _ (wrL_B _ _ (wrN_B _ (wrL_B _ _ (wrL_B _ _ ?_)))))
      intro z hz
      simp at hz
      omega
    have hfin : encCfg C = wrList (C.tasks.foldl encTask (wrN X5 (C.tasks.length : Int))) C.lines ++ [sumB (wrList (C.tasks.foldl encTask (wrN X5 (C.tasks.length : Int))) C.lines)] := by
      unfold encCfg encBody
      rw [hX1, hX2, hX3, hX4, hX5]
    rw [hfin]
    generalize wrN X5 (C.tasks.length : Int) = X6 at hs y6 hB ⊢
    (refine Sep.ldL hs 2 rfl rfl ?_)
    exact bytes12 hc hk (by omega) hB ts.length 0 b h (Nat.zero_add _) (by rw [List.take_zero]; exact hs)
  · refine mIf_pos (by simpa using hk) ?_
    rw [if_neg hk]
    exact ⟨⟨none, 0, 0⟩, rfl, hs.drop.nilRow encB 1⟩
end
end Go.Proofs.Ytimpaammdmeocaa
