/- Configurations as bytes: what the plain text writes. Conditions: none. -/
import Derived.Test.YtimpaammdmeocaaCodeR
import Derived.Test.YtimpaammdmeocaaSbW
namespace Go.Proofs.Ytimpaammdmeocaa
open Go Go.Sb
set_option linter.unusedSimpArgs false
set_option linter.unusedVariables false
set_option linter.unusedVariables false
section
variable {h0 h : Hp} {R L : List As} {C : PCfg} {sm sc se st sl : Sl} {ts : List (PTask × Sl)}
theorem rlist3 {t : Sl} {zs : List Int} (hr : RdI h0.size h0 .i64 t zs) (hz : zs.length ≤ 10000) : ∀ (d k : Nat) (b : Sl) (xs : List Int) (h : Hp), k + d = zs.length → xs.length + 5 * d ≤ 1000000 → Sep h0 h (aRow encB 1 b xs :: R) →
    K_signalboxref46_list_3 b t (t.n : Int) (k : Int) h (fun v h' => ∃ b : Sl, v = .slice b.p b.n b.c ∧ Sep h0 h' (aRow encB 1 b (wrL xs (zs.drop k)) :: R))
  | 0, k, b, xs, h, hk, hl, hs => by
    have hn := hr.n
    apply S_signalboxref46_list_3
    unfold B_signalboxref46_list_3
    refine mIf_neg (by simp; omega) ?_
    rw [List.drop_of_length_le (by omega)]
    exact ⟨b, rfl, hs⟩
  | d + 1, k, b, xs, h, hk, hl, hs => by
    have hn := hr.n
    have hkl : k < zs.length := by omega
    rw [List.drop_eq_getElem_cons hkl]
    apply S_signalboxref46_list_3
    unfold B_signalboxref46_list_3
    refine mIf_pos (by simp; omega) ?_
    refine hs.argIn hr hkl ?_
    rw [mBind_ap]
    refine (rNumberO (zs[k]) (by omega) hs).mono ?_
    rintro v h ⟨o, rfl, hs⟩
    simp only [unL_slice]
    rw [wrapS k (by omega)]
    have hwl := wrN_len xs (zs[k])
    exact rlist3 hr hz d (k + 1) o _ h (by omega) (by omega) hs
theorem rlist_s {b l : Sl} {xs zs : List Int} (hr : RdI h0.size h0 .i64 l zs) (hz : zs.length ≤ 9000) (hl : xs.length ≤ 900000) (hs : Sep h0 h (aRow encB 1 b xs :: R)) :
    N_signalboxref46_list b l h (fun v h' => ∃ (b : Sl) (Y : List Int), v = .slice b.p b.n b.c ∧ Y = wrList xs zs ∧ Y.length ≤ xs.length + 5 * (zs.length + 1) ∧ Sep h0 h' (aRow encB 1 b Y :: R)) := by
  have hn := hr.n
  apply S_signalboxref46_list
  unfold B_signalboxref46_list
  rw [mBind_ap]
  refine (rNumberO (l.n : Int) (by omega) hs).mono ?_
  rintro v h ⟨o, rfl, hs⟩
  simp only [unL_slice]
  have hwl := wrN_len xs (l.n : Int)
  refine (rlist3 hr (by omega) zs.length 0 o _ h (Nat.zero_add _) (by omega) hs).mono ?_
  rintro v h ⟨o, rfl, hs⟩
  refine ⟨o, _, rfl, rfl, ?_, ?_⟩
  · have := wrL_len ((zs.length : Int) :: zs) xs
    rw [List.length_cons] at this
    exact this
  · rw [hn] at hs
    exact hs
theorem rN_s {b : Sl} {xs : List Int} (n : Int) (hl : xs.length ≤ 1000000) (hs : Sep h0 h (aRow encB 1 b xs :: R)) : N_signalboxref46_Number b n h (fun v h' => ∃ (o : Sl) (Y : List Int), v = .slice o.p o.n o.c ∧ Y = wrN xs n ∧ Y.length ≤ xs.length + 5 ∧ Sep h0 h' (aRow encB 1 o Y :: R)) :=
  (rNumberO n hl hs).mono fun v h ⟨o, e, hs⟩ => ⟨o, _, e, rfl, wrN_len _ _, hs⟩
theorem rb18 {c : Nat} {t : PTask} {o : Sl} {k : Nat} {b0 : List Int} (ho : RdE h0.size h0 encO 3 o t.ops) (hol : t.ops.length ≤ 100) (hb0 : b0.length ≤ 100000) (hk : k < 1000) {Q : Value → Hp → Prop}
    (next : ∀ (b : Sl) (h : Hp), Sep h0 h (aRow encB 1 b (encOps b0 t.ops) :: aBlk c (cfgC C sm sc se st sl) :: R) → K_signalboxref46_Bytes_10 ⟨c, 0, none⟩ b st (st.n : Int) ((k + 1 : Nat) : Int) h Q) : ∀ (d j : Nat) (b : Sl) (h : Hp), j + d = t.ops.length → Sep h0 h (aRow encB 1 b (encOps b0 (t.ops.take j)) :: aBlk c (cfgC C sm sc se st sl) :: R) →
    K_signalboxref46_Bytes_18 ⟨c, 0, none⟩ b st (st.n : Int) (k : Int) o (o.n : Int) (j : Int) h Q
  | 0, j, b, h, hj, hs => by
    have hn := ho.n
    rw [List.take_of_length_le (by omega)] at hs
    apply S_signalboxref46_Bytes_18
    unfold B_signalboxref46_Bytes_18
    refine mIf_neg (by simp; omega) ?_
    rw [wrapS k (by omega)]
    exact next b h hs
  | d + 1, j, b, h, hj, hs => by
    have ih := rb18 ho hol hb0 hk next d (j + 1)
    have hn := ho.n
    have hjl : j < t.ops.length := by omega
    have hlen := encOps_len (t.ops.take j) b0
    rw [List.length_take] at hlen
    apply S_signalboxref46_Bytes_18
    unfold B_signalboxref46_Bytes_18
    refine mIf_pos (by simp; omega) ?_
    refine ho.ix hs hjl fun a ha => ?_
    have ef : encOps b0 (t.ops.take (j + 1)) = wrL (encOps b0 (t.ops.take j)) [t.ops[j].k, t.ops[j].a, t.ops[j].b] := take_foldl hjl
    rw [ef] at ih
    generalize t.ops[j] = q at ha ih
    generalize hX : encOps b0 (t.ops.take j) = X at hs ih hlen
    have hXl : X.length ≤ 200000 := by omega
    clear hX hlen
    have fin : ∀ h (b : Sl) Y, Y = wrN (wrN (wrN X q.k) q.a) q.b → Sep h0 h (aRow encB 1 b Y :: aBlk c (cfgC C sm sc se st sl) :: R) → K_signalboxref46_Bytes_18 ⟨c, 0, none⟩ b st (st.n : Int) (k : Int) o (o.n : Int) (IntKind.i64.wrap ((j : Int) + 1)) h Q := by
      intro h b Y hY hs
      rw [wrapS j (by omega)]
      rw [hY] at hs
      exact ih b h (by omega) hs
    (refine Arg.ldI0 ha rfl ?_; refine Arg.ldI ha rfl ?_; refine Arg.ldI ha rfl ?_; (refine Sep.new hs fun nb h hs => ?_; try simp only [List.toList_toArray] at hs); (refine Sep.st hs 0 rfl rfl rfl fun h hs => ?_; simp only [List.set_cons_zero, List.set_cons_succ] at hs); (refine Sep.st hs 0 rfl rfl rfl fun h hs => ?_; simp only [List.set_cons_zero, List.set_cons_succ] at hs); (refine Sep.st hs 0 rfl rfl rfl fun h hs => ?_; simp only [List.set_cons_zero, List.set_cons_succ] at hs); simp only [add_mk, Nat.zero_add])
    repeat' (first | with_reducible refine mAnd_intro ?_ ?_ | (first | (((with_reducible refine gd_mLdI ?_); refine Sep.ldI hs 0 rfl rfl ?_)) | ((simp only [mBind_ap])) | ((simp only [unL_slice])) | ((simp only [unL_slice, mBind_ap]))) | (refine (rN_s _ (by omega) hs.swap).mono ?_; rintro v h ⟨o, Y, rfl, hY, hYl, hs⟩; have hs := hs.swap))
    all_goals exact fin h _ _ (by subst_vars; rfl) hs.drop
theorem rb13 {c x : Nat} {t : PTask} {o z : Sl} {k : Nat} {b0 ns : List Int} (ho : RdE h0.size h0 encO 3 o t.ops) (hol : t.ops.length ≤ 100) (hns : ns.length ≤ 10) (hb0 : b0.length ≤ 90000) (hk : k < 1000) {Q : Value → Hp → Prop}
    (next : ∀ (b : Sl) (h : Hp), Sep h0 h (aRow encB 1 b (encOps (wrL b0 ns) t.ops) :: aBlk c (cfgC C sm sc se st sl) :: R) → K_signalboxref46_Bytes_10 ⟨c, 0, none⟩ b st (st.n : Int) ((k + 1 : Nat) : Int) h Q) : ∀ (d j : Nat) (b : Sl) (h : Hp), j + d = ns.length → Sep h0 h (aRow encB 1 b (wrL b0 (ns.take j)) :: aRow encI 1 z ns :: aBlk x (tskC t o) :: aBlk c (cfgC C sm sc se st sl) :: R) →
    K_signalboxref46_Bytes_13 ⟨c, 0, none⟩ b ⟨x, 0, none⟩ st (st.n : Int) (k : Int) z (z.n : Int) (j : Int) h Q
  | 0, j, b, h, hj, hs => by
    have hn := hs.rowLen 1 rfl
    rw [List.take_of_length_le (by omega)] at hs
    have hwl := wrL_len ns b0
    apply S_signalboxref46_Bytes_13
    unfold B_signalboxref46_Bytes_13
    refine mIf_neg (by simp; omega) ?_
    (refine Sep.ldL hs 2 rfl rfl ?_; simp only)
    exact rb18 (b0 := wrL b0 ns) ho hol (by omega) hk next t.ops.length 0 b h (Nat.zero_add _) (by rw [List.take_zero]; exact (hs.reT 4 [1, 2, 0, 3] rfl (by simp)).drop.drop)
  | d + 1, j, b, h, hj, hs => by
    have ih := rb13 (z := z) (x := x) ho hol hns hb0 hk next d (j + 1)
    have hn := hs.rowLen 1 rfl
    have hjl : j < ns.length := by omega
    have hwl := wrL_len (ns.take j) b0
    rw [List.length_take] at hwl
    have ef : wrL b0 (ns.take (j + 1)) = wrN (wrL b0 (ns.take j)) ns[j] := take_foldl hjl
    rw [ef] at ih
    apply S_signalboxref46_Bytes_13
    unfold B_signalboxref46_Bytes_13
    refine mIf_pos (by simp; omega) ?_
    refine row1 (k := 1) hs rfl hjl ?_
    rw [mBind_ap]
    refine (rNumberO (ns[j]) (by omega) hs).mono ?_
    rintro v h ⟨o, rfl, hs⟩
    simp only [unL_slice]
    rw [wrapS j (by omega)]
    exact ih o h (by omega) hs
theorem rb10 {c : Nat} {P : List Int} (hc : CRd h0 C sm sc se st sl ts) (hk : checkN C = 0) (hP : P.length ≤ 1000) (hB : isB P) : ∀ (d k : Nat) (b : Sl) (h : Hp), k + d = ts.length → Sep h0 h (aRow encB 1 b ((C.tasks.take k).foldl encTask P) :: aBlk c (cfgC C sm sc se st sl) :: R) →
    K_signalboxref46_Bytes_10 ⟨c, 0, none⟩ b st (st.n : Int) (k : Int) h (fun v h' => ∃ o : Sl, v = .slice o.p o.n o.c ∧ Sep h0 h' (aRow encB 1 o (wrList (C.tasks.foldl encTask P) C.lines ++ [sumB (wrList (C.tasks.foldl encTask P) C.lines)]) :: R))
  | 0, k, b, h, hkd, hs => by
    obtain ⟨l1, l2, l3, l4, l5, l6⟩ := check_lens hk
    have h6 := hc.len.2.2.2.2.2
    have hn := hc.rows.n
    rw [List.take_of_length_le (by omega)] at hs
    have hlen := encTasks_len C.tasks P l6
    have hB' := encTasks_B C.tasks P hB
    have hkk : k = ts.length := by omega
    subst hkk
    apply S_signalboxref46_Bytes_10
    unfold B_signalboxref46_Bytes_10
    refine mIf_neg (by simp; omega) ?_
    generalize C.tasks.foldl encTask P = X at hs hlen hB' ⊢
    (refine Sep.ldL hs 1 rfl rfl ?_; simp only [mBind_ap])
    refine (rlist_s hc.lines (by omega) (by omega) hs).mono ?_
    rintro v h ⟨o, Y, rfl, hY, hYl, hs⟩
    have hWB : isB Y := by rw [hY]; exact wrL_B _ _ hB'
    rw [← hY]
    (simp only [unL_slice, mBind_ap])
    refine (rSum_s (rowB hs (k := 0) rfl hWB).1 (by omega)).mono ?_
    rintro v h ⟨rfl, rfl⟩
    simp only [unI_int]
    exact appB (by omega) hs fun o h hs => ⟨o, rfl, hs.swap.drop⟩
  | d + 1, k, b, h, hkd, hs => by
    have ih := rb10 (c := c) hc hk hP hB d (k + 1)
    obtain ⟨l1, l2, l3, l4, l5, l6⟩ := check_lens hk
    have h6 := hc.len.2.2.2.2.2
    have hn := hc.rows.n
    have hkl : k < ts.length := by omega
    have hops := hc.ops _ (List.getElem_mem hkl)
    have htk := hc.at hkl
    obtain ⟨q1, q2⟩ := List.getElem?_eq_some_iff.1 htk
    have hol := l6 _ (List.mem_of_getElem? htk)
    rw [take_foldl q1, q2] at ih
    have hlen := encTasks_len (m := 64) (C.tasks.take k) P fun t ht => l6 t (List.mem_of_mem_take ht)
    rw [List.length_take] at hlen
    apply S_signalboxref46_Bytes_10
    unfold B_signalboxref46_Bytes_10
    refine mIf_pos (by simp; omega) ?_
    refine hc.rows.ix hs hkl fun a ha => ?_
    generalize ts[k] = p at ha hops hol ih
    generalize (C.tasks.take k).foldl encTask P = X at hs ih hlen
    (refine Arg.ldI0 ha rfl ?_; refine Arg.ldI ha rfl ?_; refine Arg.ldI ha rfl ?_; refine Arg.ldI ha rfl ?_; refine Arg.ldI ha rfl ?_; refine Arg.ldI ha rfl ?_; refine Arg.ldL ha rfl ?_; (refine Sep.new hs fun nb h hs => ?_; try simp only [List.toList_toArray] at hs); (refine Sep.st hs 0 rfl rfl rfl fun h hs => ?_; simp only [List.set_cons_zero, List.set_cons_succ] at hs); (refine Sep.st hs 0 rfl rfl rfl fun h hs => ?_; simp only [List.set_cons_zero, List.set_cons_succ] at hs); (refine Sep.st hs 0 rfl rfl rfl fun h hs => ?_; simp only [List.set_cons_zero, List.set_cons_succ] at hs); (refine Sep.st hs 0 rfl rfl rfl fun h hs => ?_; simp only [List.set_cons_zero, List.set_cons_succ] at hs); (refine Sep.st hs 0 rfl rfl rfl fun h hs => ?_; simp only [List.set_cons_zero, List.set_cons_succ] at hs); (refine Sep.st hs 0 rfl rfl rfl fun h hs => ?_; simp only [List.set_cons_zero, List.set_cons_succ] at hs); (refine Sep.st hs 0 rfl rfl rfl fun h hs => ?_; simp only [List.set_cons_zero, List.set_cons_succ] at hs); refine Sep.ldI hs 0 rfl rfl ?_; refine Sep.ldI hs 0 rfl rfl ?_; refine Sep.ldI hs 0 rfl rfl ?_; refine Sep.ldI hs 0 rfl rfl ?_; refine Sep.ldI hs 0 rfl rfl ?_; refine Sep.ldI hs 0 rfl rfl ?_; refine Sep.ldL hs 0 rfl rfl ?_; (refine Sep.new hs fun nb_1 h hs => ?_; try simp only [List.toList_toArray] at hs))
    have hs := Blk.row (enc := encI) (xs := [p.1.pr, p.1.th, p.1.pe, p.1.de, p.1.fr, p.1.fl, (p.2.n : Int)]) (sz := 1) (n := 7) hs 0 rfl rfl rfl
    simp only [List.set_cons_zero] at hs
    refine rb13 (t := p.1) (o := p.2) (ns := [p.1.pr, p.1.th, p.1.pe, p.1.de, p.1.fr, p.1.fl, (p.2.n : Int)]) (b0 := X) (k := k) hops.1 (by omega) (by simp) (by omega) (by omega) (fun b h hs => ?_) 7 0 b h rfl (by rw [List.take_zero]; exact hs.reT 4 [2, 0, 1, 3] rfl (by simp))
    refine ih b h (by omega) ?_
    unfold encTask
    rw [← hops.1.n]
    exact hs
theorem rb8 {c : Nat} {X : List Int} (hc : CRd h0 C sm sc se st sl ts) (hk : checkN C = 0) (hX : X.length ≤ 300) (hB : isB X) {b : Sl} (hs : Sep h0 h (aRow encB 1 b X :: aBlk c (cfgC C sm sc se st sl) :: R)) :
    K_signalboxref46_Bytes_8 ⟨c, 0, none⟩ b h (fun v h' => ∃ o : Sl, v = .slice o.p o.n o.c ∧ Sep h0 h' (aRow encB 1 o (wrList (C.tasks.foldl encTask (wrN (wrList (wrList X C.counts) C.ceils) (C.tasks.length : Int))) C.lines ++ [sumB (wrList (C.tasks.foldl encTask (wrN (wrList (wrList X C.counts) C.ceils) (C.tasks.length : Int))) C.lines)]) :: R)) := by
  obtain ⟨l1, l2, l3, l4, l5, l6⟩ := check_lens hk
  obtain ⟨n1, n2, n3, n4, n5, n6⟩ := hc.len
  have fin : ∀ h (b : Sl) Y, Y = wrN (wrList (wrList X C.counts) C.ceils) (st.n : Int) → Y.length ≤ 1000 → Sep h0 h (aRow encB 1 b Y :: aBlk c (cfgC C sm sc se st sl) :: R) → K_signalboxref46_Bytes_10 ⟨c, 0, none⟩ b st (st.n : Int) 0 h (fun v h' => ∃ o : Sl, v = .slice o.p o.n o.c ∧ Sep h0 h' (aRow encB 1 o (wrList (C.tasks.foldl encTask (wrN (wrList (wrList X C.counts) C.ceils) (C.tasks.length : Int))) C.lines ++ [sumB (wrList (C.tasks.foldl encTask (wrN (wrList (wrList X C.counts) C.ceils) (C.tasks.length : Int))) C.lines)]) :: R)) := by
    intro h b Y hY hYl hs
    rw [n5] at hY
    rw [← hY]
    exact rb10 hc hk hYl (by rw [hY]; exact wrN_B _ (wrL_B _ _ (wrL_B _ _ hB))) ts.length 0 b h (Nat.zero_add _) (by rw [List.take_zero]; exact hs)
  have hcts := hc.counts
  have hces := hc.ceils
  apply S_signalboxref46_Bytes_8
  unfold B_signalboxref46_Bytes_8
  repeat' (first | with_reducible refine mAnd_intro ?_ ?_ | (first | (((with_reducible refine gd_mLdL ?_); refine Sep.ldL hs 1 rfl rfl ?_)) | ((simp only [add_mk, Nat.zero_add, mBind_ap])) | ((simp only [unL_slice])) | ((simp only [mBind_ap])) | ((simp only [unL_slice, mBind_ap]))) | (refine (rlist_s hcts (by omega) (by omega) hs).mono ?_; rintro v h ⟨o, Y, rfl, hY, hYl, hs⟩) | (refine (rlist_s hces (by omega) (by omega) hs).mono ?_; rintro v h ⟨o, Y, rfl, hY, hYl, hs⟩) | (refine (rN_s _ (by omega) hs).mono ?_; rintro v h ⟨o, Y, rfl, hY, hYl, hs⟩))
  all_goals exact fin h _ _ (by subst_vars; rfl) (by omega) hs
theorem rb3 {c : Nat} {z : Sl} (hc : CRd h0 C sm sc se st sl ts) (hk : checkN C = 0) : ∀ (d j : Nat) (b : Sl) (h : Hp), j + d = 4 → Sep h0 h (aRow encB 1 b (wrL [83, 66] ([C.sets, C.ways, C.hit, C.miss].take j)) :: aRow encI 1 z [C.sets, C.ways, C.hit, C.miss] :: aBlk c (cfgC C sm sc se st sl) :: R) →
    K_signalboxref46_Bytes_3 ⟨c, 0, none⟩ b z (z.n : Int) (j : Int) h (fun v h' => ∃ o : Sl, v = .slice o.p o.n o.c ∧ Sep h0 h' (aRow encB 1 o (encCfg C) :: R))
  | 0, j, b, h, hj, hs => by
    obtain ⟨l1, l2, l3, l4, l5, l6⟩ := check_lens hk
    have hn := hs.rowLen 1 rfl
    have hn : z.n = 4 := hn
    have hj : j = 4 := by omega
    subst hj
    have hs : Sep h0 h (aRow encB 1 b (wrL [83, 66] [C.sets, C.ways, C.hit, C.miss]) :: aRow encI 1 z [C.sets, C.ways, C.hit, C.miss] :: aBlk c (cfgC C sm sc se st sl) :: R) := hs
    have y1 := wrL_len [C.sets, C.ways, C.hit, C.miss] [83, 66]
    simp only [List.length_cons, List.length_nil] at y1
    have hB : isB (wrL [83, 66] [C.sets, C.ways, C.hit, C.miss]) := wrL_B _ _ (by
      intro z hz
      simp at hz
      omega)
    have hml := hc.mail
    unfold encCfg encBody
    generalize wrL [83, 66] [C.sets, C.ways, C.hit, C.miss] = X at hs y1 hB ⊢
    have fin : ∀ h (b : Sl) Y, Y = wrN (wrList X C.mail) C.groups → Y.length ≤ 300 → Sep h0 h (aRow encB 1 b Y :: aRow encI 1 z [C.sets, C.ways, C.hit, C.miss] :: aBlk c (cfgC C sm sc se st sl) :: R) → K_signalboxref46_Bytes_8 ⟨c, 0, none⟩ b h (fun v h' => ∃ o : Sl, v = .slice o.p o.n o.c ∧ Sep h0 h' (aRow encB 1 o (wrList (C.tasks.foldl encTask (wrN (wrList (wrList (wrN (wrList X C.mail) C.groups) C.counts) C.ceils) (C.tasks.length : Int))) C.lines ++ [sumB (wrList (C.tasks.foldl encTask (wrN (wrList (wrList (wrN (wrList X C.mail) C.groups) C.counts) C.ceils) (C.tasks.length : Int))) C.lines)]) :: R)) := by
      intro h b Y hY hYl hs
      rw [← hY]
      exact rb8 hc hk hYl (by rw [hY]; exact wrN_B _ (wrL_B _ _ hB)) (hs.swap.drop)
    apply S_signalboxref46_Bytes_3
    unfold B_signalboxref46_Bytes_3
    refine mIf_neg (by rw [hn]; rfl) ?_
    repeat' (first | with_reducible refine mAnd_intro ?_ ?_ | (first | (((with_reducible refine gd_mLdL ?_); refine Sep.ldL hs 2 rfl rfl ?_)) | ((simp only [add_mk, Nat.zero_add, mBind_ap])) | ((simp only [unL_slice])) | (((with_reducible refine gd_mLdI ?_); refine Sep.ldI hs 2 rfl rfl ?_)) | ((simp only [mBind_ap])) | ((simp only [unL_slice, mBind_ap]))) | (refine (rlist_s hml (by omega) (by omega) hs).mono ?_; rintro v h ⟨o, Y, rfl, hY, hYl, hs⟩) | (refine (rN_s _ (by omega) hs).mono ?_; rintro v h ⟨o, Y, rfl, hY, hYl, hs⟩))
    all_goals exact fin h _ _ (by subst_vars; rfl) (by omega) hs
  | d + 1, j, b, h, hj, hs => by
    have ih := rb3 (z := z) (c := c) hc hk d (j + 1)
    have hn := hs.rowLen 1 rfl
    have hn : z.n = 4 := hn
    have hjl : j < [C.sets, C.ways, C.hit, C.miss].length := by simp; omega
    have hwl := wrL_len ([C.sets, C.ways, C.hit, C.miss].take j) [83, 66]
    rw [List.length_take] at hwl
    simp only [List.length_cons, List.length_nil] at hwl
    have ef : wrL [83, 66] ([C.sets, C.ways, C.hit, C.miss].take (j + 1)) = wrN (wrL [83, 66] ([C.sets, C.ways, C.hit, C.miss].take j)) [C.sets, C.ways, C.hit, C.miss][j] := take_foldl hjl
    rw [ef] at ih
    apply S_signalboxref46_Bytes_3
    unfold B_signalboxref46_Bytes_3
    refine mIf_pos (by rw [hn]; simp; omega) ?_
    refine row1 (k := 1) hs rfl hjl ?_
    rw [mBind_ap]
    refine (rNumberO _ (by omega) hs).mono ?_
    rintro v h ⟨o, rfl, hs⟩
    simp only [unL_slice]
    rw [wrapS j (by omega)]
    exact ih o h (by omega) hs
theorem rBytes_s (hc : CRd h0 C sm sc se st sl ts) (hk : checkN C = 0) (hs : Sep h0 h R) : N_signalboxref46_Bytes C.sets C.ways C.hit C.miss sm C.groups sc se st sl h (fun v h' => ∃ o : Sl, v = .slice o.p o.n o.c ∧ Sep h0 h' (aRow encB 1 o (encCfg C) :: R)) := by
  apply S_signalboxref46_Bytes
  unfold B_signalboxref46_Bytes
  refine Sep.new hs fun c h hs => ?_
  refine Sep.new hs fun g h hs => ?_
  simp only [List.toList_toArray] at hs
  have hs : Sep h0 h (aBlk g [.int .u8 83, .int .u8 66] :: aBlk c (cfgC C sm sc se st sl) :: R) := hs
  (refine Sep.ldI hs 1 rfl rfl ?_; refine Sep.ldI hs 1 rfl rfl ?_; refine Sep.ldI hs 1 rfl rfl ?_; refine Sep.ldI hs 1 rfl rfl ?_; (refine Sep.new hs fun nb h hs => ?_; try simp only [List.toList_toArray] at hs))
  have hs := Blk.row (enc := encB) (xs := [83, 66]) (sz := 1) (n := 2) hs 1 rfl rfl rfl
  simp only [List.set_cons_zero, List.set_cons_succ] at hs
  have hs := Blk.row (enc := encI) (xs := [C.sets, C.ways, C.hit, C.miss]) (sz := 1) (n := 4) hs 0 rfl rfl rfl
  simp only [List.set_cons_zero, List.set_cons_succ] at hs
  exact rb3 hc hk 4 0 _ h rfl hs.swap
end
end Go.Proofs.Ytimpaammdmeocaa
