/- The law ReadyPlays: the acts. Conditions: none. -/
import Derived.Test.YtimpaammdmeocaaRdyU
import Derived.Test.YtimpaammdmeocaaSbW
namespace Go.Proofs.Ytimpaammdmeocaa
open Go Go.Sb
set_option linter.unusedSimpArgs false
set_option linter.unusedVariables false
section
variable {h0 h : Hp} {R : List As} {b c : Nat} {C : PCfg} {sm sc se st sl : Sl} {ts : List (PTask × Sl)} {rows nx ord ls : Sl} {l : List Nat} {acts : List RAct} {ys : List PQ} {k : Nat}
theorem IsTop.same (hk : PrOk C) (hI : LInv C ys) {i j : Nat} {y z : PQ} (hi : IsTop ys i y) (hj : IsTop ys j z) : i = j ∧ y = z := by
  have e := hi.uniq hk hI hj.at_ hj.ne (hj.top i y hi.at_ hi.ne)
  subst e
  have := hi.at_
  rw [hj.at_] at this
  cases this
  exact ⟨rfl, rfl⟩
theorem firstV_of {v : Value} (hv : FirstV ys v) : ∃ (x : PJob) (p : Int) (ok : Bool), v = .tuple #[jobV x, .int .i64 p, .bool ok] ∧ ((ok = false ∧ ∀ y ∈ ys, y.q = []) ∨ (ok = true ∧ ∃ i y q, IsTop ys i y ∧ y.q = x :: q ∧ p = y.pr)) := by
  rcases hv with ⟨h1, rfl⟩ | ⟨i, y, x, q, h1, h2, _, rfl⟩
  · exact ⟨_, _, _, rfl, .inl ⟨rfl, h1⟩⟩
  · exact ⟨_, _, _, rfl, .inr ⟨rfl, i, y, q, h1, h2, rfl⟩⟩
set_option maxHeartbeats 4000000 in
theorem k20x (hc : CRd h0 C sm sc se st sl ts) (hk : PrOk C) (hI : LInv C ys) (ho : OrdOk C C.tasks.length l) {a : RAct} {x17 : Nat} (next : Next h0 C sm sc se st sl rows nx ord ls b c l k)
    (hs : Sep h0 h (aBlk x17 [.bool a.take, .int .i64 a.task, .int .i64 a.at_] :: St C sm sc se st sl rows nx ord b c l ys R)) :
    K_signalboxlaw16_ReadyPlays_20 ⟨c, 0, none⟩ (some ⟨b, 0, none⟩) ord rows nx (sumQ ys : Int) ⟨x17, 0, none⟩ (fstL ys l) (-1) ls (ls.n : Int) (k : Int) h (RFin h0) := by
  have hlen := hc.len.2.2.2.2
  have hIl := hI.len
  have hfew := hk.few
  have hrow := hc.rows
  apply S_signalboxlaw16_ReadyPlays_20
  unfold B_signalboxlaw16_ReadyPlays_20
  refine mIf_neg (by decide) ?_
  rw [mBind_ap]
  have hs : Sep h0 h (aReady b ys :: aBlk x17 [.bool a.take, .int .i64 a.task, .int .i64 a.at_] :: aGrid encJ 3 rows (ys.map PQ.q) :: aRow encI 1 nx (ys.map PQ.nx) :: aRow encI 1 ord (l.map Int.ofNat) :: aBlk c (cfgC C sm sc se st sl) :: R) := hs.reT 6 [3, 0, 1, 2, 4, 5] rfl (by simp)
  refine (First_s hs).mono ?_
  rintro v h ⟨hv, hs⟩
  obtain ⟨x, p, ok, rfl, hfv⟩ := firstV_of hv
  have hs : Sep h0 h (aGrid encJ 3 rows (ys.map PQ.q) :: aBlk x17 [.bool a.take, .int .i64 a.task, .int .i64 a.at_] :: aRow encI 1 nx (ys.map PQ.nx) :: aReady b ys :: aRow encI 1 ord (l.map Int.ofNat) :: aBlk c (cfgC C sm sc se st sl) :: R) := hs.reT 6 [2, 1, 3, 0, 4, 5] rfl (by simp)
  (simp only [Bool.and_true, add_mk, Nat.zero_add, unT_tuple, unC_cons, unE_nil, unB_bool, unI_int, unA_agg]; (refine Sep.new hs fun nb h hs => ?_; try simp only [List.toList_toArray] at hs); (refine Sep.st hs 0 rfl rfl rfl fun h hs => ?_; simp only [List.set_cons_zero, List.set_cons_succ] at hs); (refine Sep.st hs 0 rfl rfl rfl fun h hs => ?_; simp only [List.set_cons_zero, List.set_cons_succ] at hs); (refine Sep.st hs 0 rfl rfl rfl fun h hs => ?_; simp only [List.set_cons_zero, List.set_cons_succ] at hs); simp only [add_mk, Nat.zero_add, mBind_ap])
  refine appS (m := mIf _ _ _) ?_ ?_
  rotate_left
  · intro Q' hQ
    rcases hfv with ⟨rfl, hall⟩ | ⟨rfl, i, y, q, ht, hq, rfl⟩
    · rw [first_none hall]
      refine mIf_neg rfl ?_
      rw [mBind_ap]
      exact mIf_neg rfl hQ
    · obtain ⟨hil, hie⟩ := List.getElem?_eq_some_iff.1 ht.at_
      rw [first_top hk hI ho ht]
      refine mIf_neg (by simp) ?_
      rw [mBind_ap]
      refine mIf_pos rfl ?_
      (refine Sep.ldI hs 0 rfl rfl ?_; refine Sep.ldI hs 0 rfl rfl ?_; refine Sep.ldI hs 0 rfl rfl ?_)
      have hg : Sep h0 h (aGrid encJ 3 rows (ys.map PQ.q) :: _) := hs.swap
      refine gridLd hg (i := i) (by rw [List.length_map]; exact hil) fun x1 L' hxn hs2 => ?_
      rw [List.getElem_map, hie, hq] at hxn hs2
      refine Sep.idx hs2 0 rfl (by omega) (by simp) fun a2 ha2 => ?_
      have hx0 : (x :: q)[0]? = some x := rfl
      refine hs2.rldI0 0 rfl (fun _ => rfl) ha2 hx0 rfl ?_
      refine hs2.rldI 0 rfl (fun _ => rfl) ha2 hx0 rfl ?_
      refine hs2.rldI 0 rfl (fun _ => rfl) ha2 hx0 rfl ?_
      rw [mBind_ap]
      refine mIf_neg (by simp) ?_
      refine Sep.ldL hs 6 rfl rfl ?_
      have hit : i < ts.length := by omega
      refine hrow.ix hs hit fun a3 ha3 => ?_
      refine Arg.ldI0 ha3 rfl ?_
      have e1 := hI.pr i y ht.at_
      rw [ord_pr hc hit] at e1
      show Q' (y.pr != (ts[i]).1.pr) h
      rw [e1]
      simpa using hQ
  · refine mIf_neg rfl ?_
    (refine Sep.ldB hs 2 rfl rfl ?_)
    cases htk : a.take with
    | true =>
      refine mIf_pos rfl ?_
      rw [mBind_ap]
      have hs : Sep h0 h (aReady b ys :: aBlk nb [.int .i64 x.t, .int .i64 x.n, .int .i64 x.a] :: aGrid encJ 3 rows (ys.map PQ.q) :: aBlk x17 [.bool a.take, .int .i64 a.task, .int .i64 a.at_] :: aRow encI 1 nx (ys.map PQ.nx) :: aRow encI 1 ord (l.map Int.ofNat) :: aBlk c (cfgC C sm sc se st sl) :: R) := hs.reT 7 [4, 0, 1, 2, 3, 5, 6] rfl (by simp)
      refine (Take_s hs).mono ?_
      rintro v h ⟨zs, hz, hs⟩
      have hs : Sep h0 h (aBlk nb [.int .i64 x.t, .int .i64 x.n, .int .i64 x.a] :: aGrid encJ 3 rows (ys.map PQ.q) :: aRow encI 1 nx (ys.map PQ.nx) :: aReady b zs :: aRow encI 1 ord (l.map Int.ofNat) :: aBlk c (cfgC C sm sc se st sl) :: aBlk x17 [.bool a.take, .int .i64 a.task, .int .i64 a.at_] :: R) := hs.reT 7 [1, 2, 4, 0, 5, 6, 3] rfl (by simp)
      rcases hfv with ⟨rfl, hall⟩ | ⟨rfl, i, y, q, ht, hq, rfl⟩
      · rcases hz with ⟨_, rfl, rfl⟩ | ⟨i', y', x', q', ht', _⟩
        · (simp only [unT_tuple, unC_cons, unE_nil, unB_bool, mIf_false, unA_agg, unI_int]; (refine Sep.new hs fun nb_1 h hs => ?_; try simp only [List.toList_toArray] at hs); (refine Sep.st hs 0 rfl rfl rfl fun h hs => ?_; simp only [List.set_cons_zero, List.set_cons_succ] at hs); (refine Sep.st hs 0 rfl rfl rfl fun h hs => ?_; simp only [List.set_cons_zero, List.set_cons_succ] at hs); (refine Sep.st hs 0 rfl rfl rfl fun h hs => ?_; simp only [List.set_cons_zero, List.set_cons_succ] at hs); simp only [mBind_ap])
          have hs : Sep h0 h (St C sm sc se st sl rows nx ord b c l zs (aBlk x17 [.bool a.take, .int .i64 a.task, .int .i64 a.at_] :: R)) := hs.drop.drop
          refine mIf_neg rfl ?_
          rw [mBind_ap, mRet_ap, mRet_ap]
          refine mIf_neg rfl ?_
          rw [mBind_ap]
          refine (lenR hk hI hs).mono ?_
          rintro v h' ⟨rfl, rfl⟩
          simp only [unI_int]
          refine mIf_neg (by simp) ?_
          exact next zs _ _ hI hs
        · exact absurd (hall y' (List.mem_of_getElem? ht'.at_)) ht'.ne
      · obtain ⟨hil, hie⟩ := List.getElem?_eq_some_iff.1 ht.at_
        rcases hz with ⟨hall, _⟩ | ⟨i', y', x', q', ht', hq', rfl, rfl⟩
        · exact absurd (hall y (List.mem_of_getElem? ht.at_)) ht.ne
        · obtain ⟨rfl, rfl⟩ := ht.same hk hI ht'
          rw [hq] at hq'
          obtain ⟨rfl, rfl⟩ := List.cons.inj hq'
          have hI' : LInv C (ys.set i ⟨y.pr, y.nx, q⟩) := hI.set ht.at_ _ rfl (by
            have := hI.q4 y (List.mem_of_getElem? ht.at_)
            rw [hq, List.length_cons] at this
            show q.length ≤ 4
            omega)
          have hsum := sumQ_set ys i y ⟨y.pr, y.nx, q⟩ ht.at_
          rw [hq, List.length_cons] at hsum
          simp only at hsum
          have enx : (ys.set i ⟨y.pr, y.nx, q⟩).map PQ.nx = ys.map PQ.nx := by
            rw [List.map_set]
            have hil' : i < (ys.map PQ.nx).length := by rw [List.length_map]; exact hil
            have : (ys.map PQ.nx)[i] = y.nx := by rw [List.getElem_map, hie]
            show (ys.map PQ.nx).set i y.nx = _
            rw [← this]; exact List.set_getElem_self hil'
          have eq : (ys.set i ⟨y.pr, y.nx, q⟩).map PQ.q = (ys.map PQ.q).set i q := by rw [List.map_set]
          rw [← enx] at hs
          generalize ys.set i ⟨y.pr, y.nx, q⟩ = zs at hs hI' hsum enx eq
          rw [first_top hk hI ho ht]
          (simp only [unT_tuple, unC_cons, unE_nil, unB_bool, mIf_true, unA_agg, unI_int]; (refine Sep.new hs fun nb_1 h hs => ?_; try simp only [List.toList_toArray] at hs); (refine Sep.st hs 0 rfl rfl rfl fun h hs => ?_; simp only [List.set_cons_zero, List.set_cons_succ] at hs); (refine Sep.st hs 0 rfl rfl rfl fun h hs => ?_; simp only [List.set_cons_zero, List.set_cons_succ] at hs); (refine Sep.st hs 0 rfl rfl rfl fun h hs => ?_; simp only [List.set_cons_zero, List.set_cons_succ] at hs); simp only [add_mk, Nat.zero_add, mBind_ap])
          refine appS (m := mIf _ _ _) ?_ ?_
          rotate_left
          · intro Q' hQ
            refine mIf_neg rfl ?_
            rw [mBind_ap]
            (refine Sep.ldI hs 0 rfl rfl ?_; refine Sep.ldI hs 0 rfl rfl ?_; refine Sep.ldI hs 0 rfl rfl ?_; refine Sep.ldI hs 1 rfl rfl ?_; refine Sep.ldI hs 1 rfl rfl ?_; refine Sep.ldI hs 1 rfl rfl ?_; rw [mRet_ap]; rw [mRet_ap])
            show Q' (!(x.t == x.t && (x.n == x.n && x.a == x.a))) h
            simpa using hQ
          · refine mIf_neg rfl ?_
            have hg : Sep h0 h (aGrid encJ 3 rows (ys.map PQ.q) :: aRow encI 1 nx (zs.map PQ.nx) :: aReady b zs :: aRow encI 1 ord (l.map Int.ofNat) :: aBlk c (cfgC C sm sc se st sl) :: _) := (hs.reT 8 [2, 3, 4, 5, 6, 7, 0, 1] rfl (by simp))
            obtain ⟨ss, hl, hs⟩ := hg.gOpen i (by rw [List.length_map]; exact hil)
            rw [List.length_map] at hl
            rw [List.getElem_map, hie, hq] at hs
            refine Sep.idx hs 1 rfl (by omega) (by omega) fun a1 ha1 => ?_
            rw [Int.toNat_natCast] at ha1
            refine hs.rldL0 1 rfl (fun _ => rfl) ha1 (List.getElem?_eq_getElem (by omega)) rfl ?_
            have hxn := hs.rowLen 0 rfl
            refine Sep.slc hs 0 rfl (fun _ => rfl) (by omega) (by rw [hxn]; simp; omega) (by rw [hxn]; omega) rfl fun s' hn hs => ?_
            simp only [List.set_cons_zero] at hs
            rw [hxn, List.take_of_length_le (by simp)] at hs
            have hs : Sep h0 h (aRow encJ 3 s' q :: _) := hs
            refine Sep.idx hs 1 rfl (by omega) (by omega) fun a2 ha2 => ?_
            rw [Int.toNat_natCast] at ha2
            refine hs.sst 1 rfl ha2 (by omega) fun h hs => ?_
            simp only [List.set_cons_zero, List.set_cons_succ] at hs
            have h1 := Sep.gClose hs (by rw [List.length_map]; exact hl) (by rw [List.length_map]; exact hil)
            rw [← eq] at h1
            have hs : Sep h0 h (St C sm sc se st sl rows nx ord b c l zs _) := h1
            rw [mBind_ap]
            refine (lenR hk hI' hs).mono ?_
            rintro v h' ⟨rfl, rfl⟩
            simp only [unI_int]
            have hq4 := sumQ_le ys hI.q4
            have e : IntKind.i64.wrap ((sumQ ys : Int) - 1) = (sumQ zs : Int) := by rw [wrap64 _ (by omega)]; omega
            rw [e]
            refine mIf_neg (by simp) ?_
            exact next zs _ _ hI' hs
    | false =>
      refine mIf_neg rfl ?_
      rw [htk] at hs
      (refine Sep.ldI hs 2 rfl rfl ?_; simp only [mBind_ap])
      by_cases hv : 0 ≤ a.task ∧ a.task < ys.length
      · obtain ⟨i, hi⟩ : ∃ i : Nat, a.task = (i : Int) := ⟨a.task.toNat, by omega⟩
        have hil : i < ys.length := by omega
        have hiy := List.getElem?_eq_getElem hil
        rw [hi] at hs ⊢
        have hs : Sep h0 h (aBlk x17 [.bool a.take, .int .i64 (i : Int), .int .i64 a.at_] :: aGrid encJ 3 rows (ys.map PQ.q) :: aRow encI 1 nx (ys.map PQ.nx) :: aReady b ys :: aRow encI 1 ord (l.map Int.ofNat) :: aBlk c (cfgC C sm sc se st sl) :: aBlk nb [.int .i64 x.t, .int .i64 x.n, .int .i64 x.a] :: R) := by rw [htk]; exact hs.reT 7 [2, 1, 3, 4, 5, 6, 0] rfl (by simp)
        refine mIf_neg (decide_eq_false (by omega)) ?_
        refine Sep.ldI hs 0 rfl rfl ?_
        refine Sep.ldL hs 5 rfl rfl ?_
        rw [mRet_ap]
        refine mIf_neg (decide_eq_false (by omega)) ?_
        have fin : ∀ (x27 : Nat) (h : Hp), Sep h0 h (aBlk x27 [.int .i64 (i : Int), .int .i64 ((ys.map PQ.nx)[i]'(by rw [List.length_map]; exact hil)), .int .i64 a.at_] :: aBlk x17 [.bool a.take, .int .i64 (i : Int), .int .i64 a.at_] :: aGrid encJ 3 rows (ys.map PQ.q) :: aRow encI 1 nx (ys.map PQ.nx) :: aReady b ys :: aRow encI 1 ord (l.map Int.ofNat) :: aBlk c (cfgC C sm sc se st sl) :: aBlk nb [.int .i64 x.t, .int .i64 x.n, .int .i64 x.a] :: R) →
            K_signalboxlaw16_ReadyPlays_28 ⟨c, 0, none⟩ (some ⟨b, 0, none⟩) ord rows nx (sumQ ys : Int) ⟨x17, 0, none⟩ ⟨x27, 0, none⟩ ls (ls.n : Int) (k : Int) h (RFin h0) := by
          intro x27 h hs
          rw [List.getElem_map] at hs
          exact k28 hk hI hiy next hs
        have hil2 : i < (ys.map PQ.nx).length := by rw [List.length_map]; exact hil
        repeat' (first | with_reducible refine mAnd_intro ?_ ?_ | (first | (((with_reducible refine gd_mLdI ?_); refine Sep.ldI hs 0 rfl rfl ?_)) | (((with_reducible refine gd_mIdx ?_); (refine Sep.idx hs 2 rfl (by first | omega | (simp only [List.length_set, List.length_map, List.length_replicate, List.length_append, List.length_cons, List.length_nil, List.length_reverse, List.length_range]; omega) | (simp; omega)) (by first | omega | (simp only [List.length_set, List.length_map, List.length_replicate, List.length_append, List.length_cons, List.length_nil, List.length_reverse, List.length_range]; omega) | (simp; omega)) fun aa haa => ?_; try simp only [Int.toNat_natCast] at haa))) | (((with_reducible refine gd_mLdI ?_); refine Sep.rldI0 hs 2 rfl (fun _ => rfl) (by assumption) (List.getElem?_eq_getElem (by first | omega | (simp only [List.length_set, List.length_map, List.length_replicate, List.length_append, List.length_cons, List.length_nil, List.length_reverse, List.length_range]; omega) | (simp; omega))) rfl ?_)) | (((with_reducible refine gd_mNew ?_); (refine Sep.new hs fun nb_1 h hs => ?_; try simp only [List.toList_toArray] at hs))) | (((with_reducible refine gd_mSt ?_); (refine Sep.st hs 0 rfl rfl rfl fun h hs => ?_; simp only [List.set_cons_zero, List.set_cons_succ] at hs))) | (((with_reducible refine gd_mLdI ?_); refine Sep.ldI hs 1 rfl rfl ?_)) | (((with_reducible refine gd_mLdI ?_); refine Sep.rldI0 hs 3 rfl (fun _ => rfl) (by assumption) (List.getElem?_eq_getElem (by first | omega | (simp only [List.length_set, List.length_map, List.length_replicate, List.length_append, List.length_cons, List.length_nil, List.length_reverse, List.length_range]; omega) | (simp; omega))) rfl ?_)) | (((with_reducible refine gd_mIdx ?_); (refine Sep.idx hs 3 rfl (by first | omega | (simp only [List.length_set, List.length_map, List.length_replicate, List.length_append, List.length_cons, List.length_nil, List.length_reverse, List.length_range]; omega) | (simp; omega)) (by first | omega | (simp only [List.length_set, List.length_map, List.length_replicate, List.length_append, List.length_cons, List.length_nil, List.length_reverse, List.length_range]; omega) | (simp; omega)) fun aa haa => ?_; try simp only [Int.toNat_natCast] at haa)))))
        all_goals exact fin _ _ hs
      · have hs : Sep h0 h (aReady b ys :: aBlk x17 [.bool false, .int .i64 a.task, .int .i64 a.at_] :: aGrid encJ 3 rows (ys.map PQ.q) :: aRow encI 1 nx (ys.map PQ.nx) :: aRow encI 1 ord (l.map Int.ofNat) :: aBlk c (cfgC C sm sc se st sl) :: aBlk nb [.int .i64 x.t, .int .i64 x.n, .int .i64 x.a] :: R) := hs.reT 7 [4, 2, 1, 3, 5, 6, 0] rfl (by simp)
        refine appV true (m := mIf _ _ _) ?_ ?_
        rotate_left
        · intro Q' hQ
          refine mIf_intro (fun hc1 => hQ) (fun hc1 => ?_)
          have hc1 : ¬ a.task < 0 := by simpa using hc1
          refine Sep.ldI hs 1 rfl rfl ?_
          refine Sep.ldL hs 5 rfl rfl ?_
          show Q' (decide _) h
          rw [decide_eq_true (by omega)]
          exact hQ
        · refine mIf_pos rfl ?_
          refine Sep.ldI hs 1 rfl rfl ?_
          refine Sep.ldI hs 1 rfl rfl ?_
          rw [mBind_ap]
          refine (Release_no hs (i := a.task) (by omega) a.at_).mono ?_
          rintro v h ⟨rfl, hs⟩
          (simp only [unT_tuple, unC_cons, unE_nil, unI_int, unA_agg]; (refine Sep.new hs fun nb_1 h hs => ?_; try simp only [List.toList_toArray] at hs); (refine Sep.st hs 0 rfl rfl rfl fun h hs => ?_; simp only [List.set_cons_zero, List.set_cons_succ] at hs); (refine Sep.st hs 0 rfl rfl rfl fun h hs => ?_; simp only [List.set_cons_zero, List.set_cons_succ] at hs); (refine Sep.st hs 0 rfl rfl rfl fun h hs => ?_; simp only [List.set_cons_zero, List.set_cons_succ] at hs); simp only [add_mk, Nat.zero_add, mBind_ap])
          refine appS (m := mIf _ _ _) ?_ ?_
          rotate_left
          · intro Q' hQ
            refine mIf_neg rfl ?_
            (refine Sep.ldI hs 0 rfl rfl ?_; refine Sep.ldI hs 0 rfl rfl ?_; refine Sep.ldI hs 0 rfl rfl ?_; rw [mRet_ap])
            exact hQ
          · refine mIf_neg rfl ?_
            have hs : Sep h0 h (St C sm sc se st sl rows nx ord b c l ys (aBlk nb [.int .i64 x.t, .int .i64 x.n, .int .i64 x.a] :: R)) := (hs.reT 8 [0, 2, 3, 4, 1, 5, 6, 7] rfl (by simp)).drop.drop
            rw [mBind_ap]
            refine (lenR hk hI hs).mono ?_
            rintro v h' ⟨rfl, rfl⟩
            simp only [unI_int]
            refine mIf_neg (by simp) ?_
            exact next ys _ _ hI hs
end
end Go.Proofs.Ytimpaammdmeocaa
