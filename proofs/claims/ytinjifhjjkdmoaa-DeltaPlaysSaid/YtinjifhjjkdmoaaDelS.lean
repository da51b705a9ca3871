/- Times told by gaps: DeltaPlays. Conditions: none. -/
import Derived.Test.YtinjifhjjkdmoaaDelR
import Derived.Test.YtinjifhjjkdmoaaSbW
namespace Go.Proofs.Ytinjifhjjkdmoaa
open Go Go.Sb
set_option linter.unusedSimpArgs false
set_option linter.unusedVariables false
theorem abs_get : ∀ (l : DL) (s : Int) (i : Nat) (hi : i < l.length), (absF s l)[i]? = some (l[i].1, s + dsum (l.take (i + 1)))
  | [], s, i, hi => by simp at hi
  | (k, g) :: r, s, 0, hi => by simp [absF, dsum]
  | (k, g) :: r, s, i + 1, hi => by
    have := abs_get r (s + g) i (by simpa using hi)
    simp only [absF, List.getElem?_cons_succ, List.getElem_cons_succ, List.take_succ_cons, dsum]
    rw [this, Int.add_assoc]
theorem dsum_take : ∀ (l : DL) (i : Nat) (hi : i < l.length), dsum (l.take (i + 1)) = dsum (l.take i) + l[i].2
  | [], i, hi => by simp at hi
  | (k, g) :: r, 0, hi => by simp [dsum]
  | (k, g) :: r, i + 1, hi => by
    have := dsum_take r i (by simpa using hi)
    simp only [List.take_succ_cons, dsum, List.getElem_cons_succ]
    rw [this]; omega
theorem dsum_take_le : ∀ (l : DL) (i : Nat), (∀ p ∈ l, 0 ≤ p.2) → 0 ≤ dsum (l.take i) ∧ dsum (l.take i) ≤ dsum l
  | [], i, h => by simp [dsum]
  | (k, g) :: r, 0, h => by
    have := dsum_nn (l := (k, g) :: r) h
    simp only [List.take_zero]
    exact ⟨Int.le_refl _, this⟩
  | (k, g) :: r, i + 1, h => by
    have h1 := h (k, g) (by simp)
    have := dsum_take_le r i fun p hp => h p (by simp [hp])
    simp only [List.take_succ_cons, dsum] at h1 ⊢
    omega
theorem abs_b {l : DL} (h : DOk l) : ∀ p ∈ absF 0 l, 0 ≤ p.2 ∧ p.2 ≤ 16777216 := by
  intro p hp
  obtain ⟨i, hi, rfl⟩ := List.getElem_of_mem hp
  rw [absF_len] at hi
  have h1 := abs_get l 0 i hi
  rw [List.getElem?_eq_getElem (by rw [absF_len]; exact hi)] at h1
  rw [Option.some.inj h1]
  have := dsum_take_le l (i + 1) h.gap
  have := h.sum
  show 0 ≤ 0 + _ ∧ 0 + _ ≤ _
  omega
section
variable {h0 h : Hp} {R X : List As} {d : Nat} {r acts : Sl} {l : DL} {key : Int}
/-- on to the next act -/
def NextD (h0 : Hp) (key : Int) (d : Nat) (acts : Sl) (k : Int) (n : Nat) : Prop := ∀ (h : Hp) (r : Sl) (l : DL), DOk l → KOk l → l.length ≤ n → Sep h0 h [aDl d l, aRow encP 2 r (absF 0 l)] →
  K_signalboxlaw04_DeltaPlays_8 key (some ⟨d, 0, none⟩) r acts (acts.n : Int) (IntKind.i64.wrap (k + 1)) h (DFin h0)
theorem p35end {k : Int} {n : Nat} (hn : n ≤ 200) (next : NextD h0 key d acts k n) (hok : DOk l) (hko : KOk l) (hl : l.length ≤ n) {ks gs : Sl} {was : Int} (hs : Sep h0 h [aRow encI 1 ks (l.map (·.1)), aRow encI 1 gs (l.map (·.2)), aDl d l, aRow encP 2 r (absF 0 l)]) :
    K_signalboxlaw04_DeltaPlays_35 key (some ⟨d, 0, none⟩) r ks gs was acts (acts.n : Int) k r (r.n : Int) (r.n : Int) h (DFin h0) := by
  have hrn := hs.rowLen 3 rfl
  rw [absF_len] at hrn
  apply S_signalboxlaw04_DeltaPlays_35
  unfold B_signalboxlaw04_DeltaPlays_35
  refine mIf_neg (by simp) ?_
  have hs : Sep h0 h [aDl d l, aRow encI 1 ks (l.map (·.1)), aRow encI 1 gs (l.map (·.2)), aRow encP 2 r (absF 0 l)] := hs.re [2, 0, 1, 3] rfl
  rw [mBind_ap]
  refine (Next_s hs).mono ?_
  rintro v h' ⟨rfl, rfl⟩
  -- what is told behind the next one
  have rest : ∀ {h : Hp}, Sep h0 h [aDl d l, aRow encP 2 r (absF 0 l)] → (mBind (N_delta_List_Due (some ⟨d, 0, none⟩) key) fun r161 =>
      un2 (unI .i64) unB r161 fun (x161_0 : Int) (x161_1 : Bool) =>
      mBind (N_signalboxref04_List_Find r key) fun r166 =>
      unI .i64 r166 fun (x166 : Int) =>
      mBind (mIf (!(x161_1 == (decide (x166 ≥ (0 : Int))))) (mRet true) (mBind (mIf x161_1 (mIdx r x166 2 fun (x177 : Addr) =>
        mLdI .i64 (x177.add 1) fun (x179 : Int) =>
        mRet (x161_0 != x179)) (mRet false)) fun (b122 : Bool) =>
        mRet b122)) fun (b123 : Bool) =>
      mIf b123 (
        mRet (.bool false)) (
        K_signalboxlaw04_DeltaPlays_8 key (some ⟨d, 0, none⟩) r acts (acts.n : Int) (IntKind.i64.wrap (k + (1 : Int)))) : M Value) h (DFin h0) := by
    intro h hs
    rw [mBind_ap]
    refine (Due_s (key := key) hok hs).mono ?_
    rintro v h' ⟨rfl, rfl⟩
    unfold dueV
    cases hf : fnk key l 0 0 with
    | none =>
      have hx := fidx_none l 0 0 hf
      have hx : fidx key (absF 0 l) 0 = -1 := hx
      simp only [un2_tuple, unI_int, unB_bool, Option.map_none, Option.getD_none, Option.isSome_none, Option.map_some, Option.getD_some, Option.isSome_some]
      rw [mBind_ap]
      refine (Find_s (key := key) (by rw [absF_len]; omega) hs.swap).mono ?_
      rintro v h ⟨rfl, hs⟩
      simp only [unI_int]
      rw [hx, mBind_ap]
      refine mIf_neg rfl ?_
      rw [mBind_ap]
      refine mIf_neg rfl ?_
      rw [mRet_ap, mRet_ap]
      refine mIf_neg rfl ?_
      exact next h r l hok hko hl hs.swap
    | some x =>
      obtain ⟨i, due⟩ := x
      obtain ⟨hx, _, hg⟩ := fidx_some l 0 0 i due hf
      have hx : fidx key (absF 0 l) 0 = (i : Int) := hx
      rw [Nat.sub_zero] at hg
      have hil := (List.getElem?_eq_some_iff.1 hg).1
      simp only [un2_tuple, unI_int, unB_bool, Option.map_none, Option.getD_none, Option.isSome_none, Option.map_some, Option.getD_some, Option.isSome_some]
      rw [mBind_ap]
      refine (Find_s (key := key) (by rw [absF_len]; omega) hs.swap).mono ?_
      rintro v h ⟨rfl, hs⟩
      simp only [unI_int]
      rw [hx, mBind_ap]
      refine mIf_neg (by simp) ?_
      rw [mBind_ap]
      refine mIf_pos rfl ?_
      refine hs.idx 0 rfl (by omega) (by omega) fun a ha => ?_
      simp only [Int.toNat_natCast] at ha
      refine hs.rldI 0 (j := 1) rfl (fun _ => rfl) ha hg rfl ?_
      rw [mRet_ap, mRet_ap]
      refine mIf_neg (by simp) ?_
      exact next h r l hok hko hl hs.swap
  -- keys and gaps
  have mid : ∀ (nx : Int) (ok : Bool), ok = decide (0 < l.length) → (∀ (i0 : 0 < l.length), nx = ((absF 0 l)[0]'(by rw [absF_len]; exact i0)).2) → (mBind (N_delta_List_Keys (some ⟨d, 0, none⟩)) fun r129 =>
    unL r129 fun (x129 : Sl) =>
    mBind (N_signalboxlaw04_same x129 ks) fun r131 =>
    unB r131 fun (x131 : Bool) =>
    mBind (mIf (!x131) (mRet true) (mBind (N_delta_List_Gaps (some ⟨d, 0, none⟩)) fun r135 =>
      unL r135 fun (x135 : Sl) =>
      mBind (N_signalboxlaw04_same x135 gs) fun r137 =>
      unB r137 fun (x137 : Bool) =>
      mRet (!x137))) fun (b111 : Bool) =>
    mBind (mIf (b111 || (!(ok == (decide ((r.n : Int) > (0 : Int)))))) (mRet true) (mBind (mIf ok (mIdx r (0 : Int) 2 fun (x152 : Addr) =>
      mLdI .i64 (x152.add 1) fun (x154 : Int) =>
      mRet (nx != x154)) (mRet false)) fun (b115 : Bool) =>
      mRet b115)) fun (b116 : Bool) =>
    mIf b116 (
      mRet (.bool false)) (
      mBind (N_delta_List_Due (some ⟨d, 0, none⟩) key) fun r161 =>
      un2 (unI .i64) unB r161 fun (x161_0 : Int) (x161_1 : Bool) =>
      mBind (N_signalboxref04_List_Find r key) fun r166 =>
      unI .i64 r166 fun (x166 : Int) =>
      mBind (mIf (!(x161_1 == (decide (x166 ≥ (0 : Int))))) (mRet true) (mBind (mIf x161_1 (mIdx r x166 2 fun (x177 : Addr) =>
        mLdI .i64 (x177.add 1) fun (x179 : Int) =>
        mRet (x161_0 != x179)) (mRet false)) fun (b122 : Bool) =>
        mRet b122)) fun (b123 : Bool) =>
      mIf b123 (
        mRet (.bool false)) (
        K_signalboxlaw04_DeltaPlays_8 key (some ⟨d, 0, none⟩) r acts (acts.n : Int) (IntKind.i64.wrap (k + (1 : Int))))) : M Value) h' (DFin h0) := by
    intro nx ok hk0 hnx
    rw [mBind_ap]
    refine (Keys_s (by omega) hs).mono ?_
    rintro v h ⟨k1, rfl, hs⟩
    simp only [unL_slice]
    rw [mBind_ap]
    refine (same_r hs 0 2 rfl rfl hko.keys hko.keys (by simp; omega)).mono ?_
    rintro v h' ⟨rfl, rfl⟩
    simp only [unB_bool, decide_true]
    rw [mBind_ap]
    refine mIf_neg rfl ?_
    rw [mBind_ap]
    refine (Gaps_s (by omega) hs.drop).mono ?_
    rintro v h ⟨g1, rfl, hs⟩
    simp only [unL_slice]
    rw [mBind_ap]
    refine (same_r hs 0 3 rfl rfl (dgaps hok) (dgaps hok) (by simp; omega)).mono ?_
    rintro v h' ⟨rfl, rfl⟩
    simp only [unB_bool, decide_true, mRet_ap, Bool.not_true, Bool.false_or]
    have hs : Sep h0 h' [aDl d l, aRow encP 2 r (absF 0 l)] := (hs.re [0, 2, 3, 1, 4] rfl).drop.drop.drop
    rw [mBind_ap]
    refine mIf_neg (by rw [hk0, hrn]; simp) ?_
    rw [mBind_ap]
    refine mIf_intro (fun hc => ?_) (fun hc => ?_)
    · have i0 : 0 < l.length := by rw [hc] at hk0; exact of_decide_eq_true hk0.symm
      refine hs.idx 1 rfl (by omega) (by rw [absF_len]; omega) fun a ha => ?_
      refine hs.rldI 1 (j := 1) rfl (fun _ => rfl) ha (List.getElem?_eq_getElem (by rw [absF_len]; exact i0)) rfl ?_
      rw [mRet_ap, mRet_ap]
      refine mIf_neg (by rw [hnx i0]; simp) ?_
      exact rest hs
    · rw [mRet_ap, mRet_ap]
      refine mIf_neg rfl ?_
      exact rest hs
  unfold nextV
  simp only [un2_tuple, unI_int, unB_bool]
  refine mid _ _ rfl (fun i0 => ?_)
  cases l with
  | nil => simp at i0
  | cons p q =>
    obtain ⟨pk, pg⟩ := p
    show pg = 0 + pg
    omega
theorem p35 {k : Int} {n : Nat} (hn : n ≤ 200) (next : NextD h0 key d acts k n) (hok : DOk l) (hko : KOk l) (hl : l.length ≤ n) : ∀ (e j : Nat) (ks gs : Sl) (h : Hp), j + e = l.length → Sep h0 h [aRow encI 1 ks ((l.take j).map (·.1)), aRow encI 1 gs ((l.take j).map (·.2)), aDl d l, aRow encP 2 r (absF 0 l)] →
    K_signalboxlaw04_DeltaPlays_35 key (some ⟨d, 0, none⟩) r ks gs (dsum (l.take j)) acts (acts.n : Int) k r (r.n : Int) (j : Int) h (DFin h0)
  | 0, j, ks, gs, h, hj, hs => by
    have hrn := hs.rowLen 3 rfl
    rw [absF_len] at hrn
    rw [List.take_of_length_le (by omega)] at hs ⊢
    rw [show (j : Int) = (r.n : Int) by omega]
    exact p35end hn next hok hko hl hs
  | e + 1, j, ks, gs, h, hj, hs => by
    have ih := p35 hn next hok hko hl e (j + 1)
    have hrn := hs.rowLen 3 rfl
    have hrl := absF_len 0 l
    rw [absF_len] at hrn
    have hjl : j < l.length := by omega
    have hget := abs_get l 0 j hjl
    have htk := dsum_take l j hjl
    have hb1 := dsum_take_le l j hok.gap
    have hb2 := dsum_take_le l (j + 1) hok.gap
    have hsum := hok.sum
    rw [Int.zero_add] at hget
    have hk1 : (l.take (j + 1)).map (·.1) = (l.take j).map (·.1) ++ [l[j].1] := by rw [List.take_succ_eq_append_getElem hjl, List.map_append]; rfl
    have hk2 : (l.take (j + 1)).map (·.2) = (l.take j).map (·.2) ++ [l[j].2] := by rw [List.take_succ_eq_append_getElem hjl, List.map_append]; rfl
    apply S_signalboxlaw04_DeltaPlays_35
    unfold B_signalboxlaw04_DeltaPlays_35
    refine mIf_pos (by simp; omega) ?_
    rw [wrap64 ((j : Int) + 1) (by omega), show ((j : Int) + 1) = ((j + 1 : Nat) : Int) by omega]
    refine hs.idx 3 rfl (by omega) (by omega) fun a ha => ?_
    simp only [Int.toNat_natCast] at ha
    refine hs.rldI0 3 rfl (fun _ => rfl) ha hget rfl ?_
    refine hs.rldI 3 (j := 1) rfl (fun _ => rfl) ha hget rfl ?_
    refine Sep.new hs fun nb h hs => ?_
    refine hs.st 0 rfl rfl rfl fun h hs => ?_
    rw [add_mk]
    refine hs.st 0 rfl rfl rfl fun h hs => ?_
    have hwas : IntKind.i64.wrap (dsum (l.take (j + 1)) - dsum (l.take j)) = l[j].2 := by rw [wrap64 _ (by omega)]; omega
    have hs : Sep h0 h [aBlk nb [.int .i64 l[j].1, .int .i64 (dsum (l.take (j + 1)))], aRow encI 1 ks ((l.take j).map (·.1)), aRow encI 1 gs ((l.take j).map (·.2)), aDl d l, aRow encP 2 r (absF 0 l)] := hs
    have fin : ∀ (kl gl : Sl) (h : Hp) (u v : Nat) (cu cv : List Value) (w : Int), w = dsum (l.take (j + 1)) → Sep h0 h [aBlk u cu, aBlk v cv, aBlk nb [.int .i64 l[j].1, .int .i64 (dsum (l.take (j + 1)))], aRow encI 1 kl ((l.take j).map (·.1) ++ [l[j].1]), aRow encI 1 gl ((l.take j).map (·.2) ++ [l[j].2]), aDl d l, aRow encP 2 r (absF 0 l)] →
        K_signalboxlaw04_DeltaPlays_35 key (some ⟨d, 0, none⟩) r kl gl w acts (acts.n : Int) k r (r.n : Int) ((j + 1 : Nat) : Int) h (DFin h0) := by
      intro kl gl h u v cu cv w hw hs
      rw [hw]
      rw [← hk1, ← hk2] at hs
      exact ih kl gl h (by omega) hs.drop.drop.drop
    generalize hgj : l[j] = p at *
    generalize hT : dsum (l.take (j + 1)) = T at *
    repeat' (first | with_reducible refine mAnd_intro ?_ ?_ | (rw [hwas]) | (first | (((with_reducible refine gd_mLdI ?_); refine Sep.ldI hs 0 rfl rfl ?_)) | (((with_reducible refine gd_mNew ?_); (refine Sep.new hs fun nb_1 h hs => ?_; try simp only [List.toList_toArray] at hs))) | (((with_reducible refine gd_mApp ?_); (refine Sep.app1 hs 2 0 _ rfl rfl (fun _ => rfl) (by simp [Value.oneCell']) rfl (by omega) (by first | omega | (simp only [List.length_set, List.length_map, List.length_replicate, List.length_append, List.length_cons, List.length_nil, List.length_reverse, List.length_range]; omega) | (simp; omega)) fun sl h hn_sl hs => ?_; simp only [List.set_cons_zero, List.set_cons_succ] at hs))) | (((with_reducible refine gd_mLdI ?_); refine Sep.ldI hs 1 rfl rfl ?_)) | (((with_reducible refine gd_mNew ?_); (refine Sep.new hs fun nb_2 h hs => ?_; try simp only [List.toList_toArray] at hs))) | (((with_reducible refine gd_mApp ?_); (refine Sep.app1 hs 4 0 _ rfl rfl (fun _ => rfl) (by simp [Value.oneCell']) rfl (by omega) (by first | omega | (simp only [List.length_set, List.length_map, List.length_replicate, List.length_append, List.length_cons, List.length_nil, List.length_reverse, List.length_range]; omega) | (simp; omega)) fun sl_1 h hn_sl_1 hs => ?_; simp only [List.set_cons_zero, List.set_cons_succ] at hs))) | (((with_reducible refine gd_mLdI ?_); refine Sep.ldI hs 2 rfl rfl ?_)) | (((with_reducible refine gd_mApp ?_); (refine Sep.app1 hs 3 1 _ rfl rfl (fun _ => rfl) (by simp [Value.oneCell']) rfl (by omega) (by first | omega | (simp only [List.length_set, List.length_map, List.length_replicate, List.length_append, List.length_cons, List.length_nil, List.length_reverse, List.length_range]; omega) | (simp; omega)) fun sl h hn_sl hs => ?_; simp only [List.set_cons_zero, List.set_cons_succ] at hs))) | (((with_reducible refine gd_mApp ?_); (refine Sep.app1 hs 3 0 _ rfl rfl (fun _ => rfl) (by simp [Value.oneCell']) rfl (by omega) (by first | omega | (simp only [List.length_set, List.length_map, List.length_replicate, List.length_append, List.length_cons, List.length_nil, List.length_reverse, List.length_range]; omega) | (simp; omega)) fun sl h hn_sl hs => ?_; simp only [List.set_cons_zero, List.set_cons_succ] at hs))) | (((with_reducible refine gd_mApp ?_); (refine Sep.app1 hs 4 1 _ rfl rfl (fun _ => rfl) (by simp [Value.oneCell']) rfl (by omega) (by first | omega | (simp only [List.length_set, List.length_map, List.length_replicate, List.length_append, List.length_cons, List.length_nil, List.length_reverse, List.length_range]; omega) | (simp; omega)) fun sl_1 h hn_sl_1 hs => ?_; simp only [List.set_cons_zero, List.set_cons_succ] at hs)))))
    all_goals exact fin _ _ _ _ _ _ _ _ rfl hs
theorem p19 {k want : Int} {n : Nat} {c : DAct} {ab : Nat} (hn : n ≤ 200) (next : NextD h0 key d acts k n) (hok : DOk l) (hko : KOk l) (hl : l.length + 1 ≤ n) (hkey : -9223372036854775808 ≤ c.key ∧ c.key ≤ 9223372036854775807) (hw : want = putC l c.key c.ticks) (hs : Sep h0 h [aBlk ab c.enc, aDl d l, aRow encP 2 r (absF 0 (putL l c.key c.ticks))]) :
    K_signalboxlaw04_DeltaPlays_19 key (some ⟨d, 0, none⟩) r ⟨ab, 0, none⟩ want acts (acts.n : Int) k h (DFin h0) := by
  obtain ⟨pk1, pk2⟩ := put_ok (key := c.key) (t := c.ticks) hok
  apply S_signalboxlaw04_DeltaPlays_19
  unfold B_signalboxlaw04_DeltaPlays_19
  (refine Sep.ldI hs 0 rfl rfl ?_; refine Sep.ldI hs 0 rfl rfl ?_; simp only [mBind_ap])
  refine (Put_s (key := c.key) (t := c.ticks) hok (by omega) hs.drop).mono ?_
  rintro v h ⟨rfl, hs⟩
  simp only [unI_int]
  refine mIf_neg (by rw [hw]; simp) ?_
  exact p35 hn next pk1 (hko.put hkey) (by omega) (putL l c.key c.ticks).length 0 _ _ h (Nat.zero_add _) ((hs.nilRow encI 1).nilRow encI 1)
theorem p30 {k : Int} {n : Nat} {c : DAct} {ab : Nat} {du : Sl} (hn : n ≤ 200) (next : NextD h0 key d acts k n) (hok : DOk l) (hko : KOk l) (hl : l.length ≤ n) (ht : c.ticks ≤ 9223372036854775807)
    (hs : Sep h0 h [aBlk ab c.enc, aDl d l, aRow encP 2 r (absF 0 (if 0 ≤ c.ticks then (adv c.ticks l).2 else l)), aRow encI 1 du (if 0 ≤ c.ticks then (adv c.ticks l).1 else [])]) :
    K_signalboxlaw04_DeltaPlays_30 key (some ⟨d, 0, none⟩) r ⟨ab, 0, none⟩ du acts (acts.n : Int) k h (DFin h0) := by
  apply S_signalboxlaw04_DeltaPlays_30
  unfold B_signalboxlaw04_DeltaPlays_30
  (refine Sep.ldI hs 0 rfl rfl ?_; simp only [mBind_ap])
  by_cases h0t : 0 ≤ c.ticks
  · rw [if_pos h0t, if_pos h0t] at hs
    obtain ⟨ok1, _, len1⟩ := adv_ok l c.ticks hok h0t
    refine (Advance_s (t := c.ticks) ⟨h0t, ht⟩ hok (by omega) hs.drop).mono ?_
    rintro v h ⟨o, rfl, hs⟩
    simp only [unL_slice]
    rw [mBind_ap]
    refine (same_r hs 0 3 rfl rfl (hko.adv1) (hko.adv1) (by omega)).mono ?_
    rintro v h' ⟨rfl, rfl⟩
    simp only [unB_bool, decide_true]
    refine mIf_neg rfl ?_
    have hs : Sep h0 h' [aDl d (adv c.ticks l).2, aRow encP 2 r (absF 0 (adv c.ticks l).2)] := (hs.re [0, 3, 1, 2] rfl).drop.drop
    exact p35 hn next ok1 hko.adv2 (by omega) (adv c.ticks l).2.length 0 _ _ h' (Nat.zero_add _) ((hs.nilRow encI 1).nilRow encI 1)
  · rw [if_neg h0t, if_neg h0t] at hs
    refine (Advance_neg (by omega)).mono ?_
    rintro v h' ⟨rfl, rfl⟩
    simp only [unL_slice]
    rw [mBind_ap]
    have hs2 := (hs.nilRow encI 1)
    refine (same_r hs2 0 4 rfl rfl (by intro z hz; simp at hz) (by intro z hz; simp at hz) (by simp)).mono ?_
    rintro v h' ⟨rfl, rfl⟩
    simp only [unB_bool, decide_true]
    refine mIf_neg rfl ?_
    have hs : Sep h0 h' [aDl d l, aRow encP 2 r (absF 0 l)] := (hs.re [0, 3, 1, 2] rfl).drop.drop
    exact p35 hn next hok hko hl l.length 0 _ _ h' (Nat.zero_add _) ((hs.nilRow encI 1).nilRow encI 1)
theorem p8 {xs : List DAct} (hl : RdE h0.size h0 DAct.enc 3 acts xs) (ho : ∀ x ∈ xs, x.ok h0) (hn : xs.length ≤ 150) : ∀ (e k : Nat) (r : Sl) (l : DL) (h : Hp), k + e = xs.length → DOk l → KOk l → l.length ≤ k → Sep h0 h [aDl d l, aRow encP 2 r (absF 0 l)] →
    K_signalboxlaw04_DeltaPlays_8 key (some ⟨d, 0, none⟩) r acts (acts.n : Int) (k : Int) h (DFin h0)
  | 0, k, r, l, h, hk, hok, hko, hll, hs => by
    have han := hl.n
    apply S_signalboxlaw04_DeltaPlays_8
    unfold B_signalboxlaw04_DeltaPlays_8
    refine mIf_neg (by simp; omega) ?_
    exact ⟨rfl, hs.under⟩
  | e + 1, k, r, l, h, hk, hok, hko, hll, hs => by
    have ih := p8 hl ho hn e (k + 1)
    have han := hl.n
    have hkl : k < xs.length := by omega
    have hx := ho xs[k] (List.getElem_mem _)
    have next : NextD h0 key d acts (k : Int) (k + 1) := by
      intro h r l h1 h2 h3 hs
      rw [wrap64 ((k : Int) + 1) (by omega), show ((k : Int) + 1) = ((k + 1 : Nat) : Int) by omega]
      exact ih r l h (by omega) h1 h2 h3 hs
    apply S_signalboxlaw04_DeltaPlays_8
    unfold B_signalboxlaw04_DeltaPlays_8
    refine mIf_pos (by simp; omega) ?_
    (refine Sep.argEn hs hl (by first | omega | (simp only [List.length_set, List.length_map, List.length_replicate, List.length_append, List.length_cons, List.length_nil, List.length_reverse, List.length_range]; omega) | (simp; omega)) fun aa haa => ?_; refine Arg.ldI0 haa rfl ?_; refine Arg.ldI haa rfl ?_; refine Arg.ldI haa rfl ?_; (refine Sep.new hs fun nb h hs => ?_; try simp only [List.toList_toArray] at hs); (refine Sep.st hs 0 rfl rfl rfl fun h hs => ?_; simp only [List.set_cons_zero, List.set_cons_succ] at hs); (refine Sep.st hs 0 rfl rfl rfl fun h hs => ?_; simp only [List.set_cons_zero, List.set_cons_succ] at hs); (refine Sep.st hs 0 rfl rfl rfl fun h hs => ?_; simp only [List.set_cons_zero, List.set_cons_succ] at hs); refine Sep.ldI hs 0 rfl rfl ?_; simp only [add_mk, Nat.zero_add, mBind_ap])
    generalize xs[k] = c at *
    obtain ⟨hc1, hc2, hc3⟩ := hx
    have hs : Sep h0 h [aRow encP 2 r (absF 0 l), aBlk nb c.enc, aDl d l] := hs.re [2, 0, 1] rfl
    refine (Find_s (key := c.key) (by rw [absF_len]; omega) hs).mono ?_
    rintro v h ⟨rfl, hs⟩
    simp only [unI_int]
    refine hs.ldI 1 rfl rfl ?_
    refine ⟨by omega, ?_⟩
    rw [Int.tmod_eq_emod_of_nonneg hc1.1]
    have hfx : (fnk c.key l 0 0 = none ∧ fidx c.key (absF 0 l) 0 = -1) ∨ ∃ i w, fnk c.key l 0 0 = some (i, w) ∧ fidx c.key (absF 0 l) 0 = (i : Int) ∧ i < l.length := by
      cases hf : fnk c.key l 0 0 with
      | none => exact .inl ⟨rfl, fidx_none l 0 0 hf⟩
      | some x =>
        obtain ⟨i, w⟩ := x
        have h1 := fidx_some l 0 0 i w hf
        have h2 := (List.getElem?_eq_some_iff.1 h1.2.2).1
        rw [absF_len] at h2
        exact .inr ⟨i, w, rfl, h1.1, by omega⟩
    have hs : Sep h0 h [aBlk nb c.enc, aDl d l, aRow encP 2 r (absF 0 l)] := hs.re [1, 2, 0] rfl
    have skip : K_signalboxlaw04_DeltaPlays_35 key (some ⟨d, 0, none⟩) r (Sl.mk none 0 0) (Sl.mk none 0 0) (0 : Int) acts (acts.n : Int) k r (r.n : Int) (0 : Int) h (DFin h0) :=
      p35 (by omega) next hok hko (by omega) l.length 0 _ _ h (Nat.zero_add _) ((hs.drop.nilRow encI 1).nilRow encI 1)
    refine mIf_intro (fun hc => ?_) (fun hc => ?_)
    · refine hs.ldI 0 rfl rfl ?_
      have bad : ∀ want, want = putC l c.key c.ticks → want ≠ 0 → K_signalboxlaw04_DeltaPlays_19 key (some ⟨d, 0, none⟩) r ⟨nb, 0, none⟩ want acts (acts.n : Int) k h (DFin h0) := by
        intro want hw hne
        refine p19 (by omega) next hok hko (by omega) hc2 hw ?_
        unfold putL
        rw [if_neg (by rw [← hw]; exact hne)]
        exact hs
      have go : ∀ b17 : Bool, b17 = decide (c.ticks < 0 ∨ c.ticks > 16777216) → (mIf b17 (
        K_signalboxlaw04_DeltaPlays_19 key (some ⟨d, 0, none⟩) r ⟨nb, 0, none⟩ (5 : Int) acts (acts.n : Int) k) (
        mIf (decide ((fidx c.key (absF 0 l) 0) ≥ (0 : Int))) (
          K_signalboxlaw04_DeltaPlays_19 key (some ⟨d, 0, none⟩) r ⟨nb, 0, none⟩ (10 : Int) acts (acts.n : Int) k) (
          mLdI .i64 ⟨nb, 1, none⟩ fun (x45 : Int) =>
          mLdI .i64 ⟨nb, 2, none⟩ fun (x47 : Int) =>
          mBind (N_signalboxref04_List_Put r x45 x47) fun r48 =>
          unL r48 fun (x48 : Sl) =>
          K_signalboxlaw04_DeltaPlays_19 key (some ⟨d, 0, none⟩) x48 ⟨nb, 0, none⟩ (0 : Int) acts (acts.n : Int) k)) : M Value) h (DFin h0) := by
        intro b17 hb
        refine mIf_intro (fun hb1 => ?_) (fun hb1 => ?_)
        · rw [hb1] at hb
          have hb := of_decide_eq_true hb.symm
          exact bad 5 (by unfold putC; rw [if_pos hb]) (by omega)
        · rw [hb1] at hb
          have hb := of_decide_eq_false hb.symm
          rcases hfx with ⟨hf, hi⟩ | ⟨i, w, hf, hi, hil⟩
          · rw [hi]
            refine mIf_neg rfl ?_
            refine hs.ldI 0 rfl rfl ?_
            refine hs.ldI 0 rfl rfl ?_
            have hpc : putC l c.key c.ticks = 0 := by
              unfold putC
              rw [if_neg hb, hf]
              rfl
            rw [mBind_ap]
            refine (rPut_s (key := c.key) (at_ := c.ticks) (by rw [absF_len]; omega) (hs.re [2, 0, 1] rfl)).mono ?_
            rintro v h ⟨o, rfl, hs⟩
            simp only [unL_slice]
            refine p19 (by omega) next hok hko (by omega) hc2 hpc.symm ?_
            have e := abs_ins c.key l 0 c.ticks
            rw [Int.zero_add] at e
            unfold putL
            rw [if_pos hpc, e]
            exact hs.re [1, 2, 0] rfl
          · rw [hi]
            refine mIf_pos (by simp) ?_
            exact bad 10 (by unfold putC; rw [if_neg hb, hf]; rfl) (by omega)
      rw [mBind_ap]
      refine mIf_dec (fun hc3 => ?_) (fun hc3 => ?_)
      · rw [mRet_ap]
        exact go true (decide_eq_true (.inl hc3)).symm
      · refine hs.ldI 0 rfl rfl ?_
        rw [mRet_ap]
        exact go _ (decide_eq_decide.2 (by constructor <;> intro h <;> first | exact .inr h | (rcases h with h | h; exact absurd h hc3; exact h)))
    · refine mIf_intro (fun hc4 => ?_) (fun hc4 => ?_)
      · refine hs.ldI 0 rfl rfl ?_
        rw [mBind_ap]
        refine (Drop_s (key := c.key) hok (by omega) hs.drop).mono ?_
        rintro v h ⟨rfl, hs⟩
        simp only [unB_bool]
        rcases hfx with ⟨hf, hi⟩ | ⟨i, w, hf, hi, hil⟩
        · have hdl : dropL l c.key = l := by unfold dropL; rw [hf]
          rw [hi, hf]
          rw [hdl] at hs
          refine mIf_neg rfl ?_
          refine mIf_neg rfl ?_
          exact p35 (by omega) next hok hko (by omega) l.length 0 _ _ h (Nat.zero_add _) ((hs.nilRow encI 1).nilRow encI 1)
        · have hdl : dropL l c.key = cutL l i := by unfold dropL; rw [hf]
          rw [hi, hf]
          rw [hdl] at hs
          refine mIf_neg (by simp) ?_
          refine mIf_pos (by simp) ?_
          rw [mBind_ap]
          refine (rDrop_s (i := i) (by rw [absF_len]; exact hil) (by rw [absF_len]; omega) hs.swap).mono ?_
          rintro v h ⟨o, rfl, hs⟩
          simp only [unL_slice]
          rw [← abs_cut] at hs
          have hkc : KOk (cutL l i) := by
            intro p hp
            have : ∀ (l : DL) (i : Nat), ∀ p ∈ cutL l i, ∃ q ∈ l, q.1 = p.1 := by
              intro l
              induction l with
              | nil => intro i p hp; simp [cutL] at hp
              | cons x q ihq =>
                intro i p hp
                cases i with
                | zero =>
                  cases q with
                  | nil => simp [cutL] at hp
                  | cons y q =>
                    simp only [cutL, List.mem_cons] at hp
                    rcases hp with hp | hp
                    · subst hp; exact ⟨y, by simp, rfl⟩
                    · exact ⟨p, by simp [hp], rfl⟩
                | succ i =>
                  have e : cutL (x :: q) (i + 1) = x :: cutL q i := by cases q <;> rfl
                  rw [e] at hp
                  rcases List.mem_cons.1 hp with hp | hp
                  · subst hp; exact ⟨p, by simp, rfl⟩
                  · obtain ⟨z, hz, he⟩ := ihq i p hp
                    exact ⟨z, by simp [hz], he⟩
            obtain ⟨q, hq, he⟩ := this l i p hp
            rw [← he]; exact hko q hq
          have hcl := cutL_len l i hil
          exact p35 (by omega) next (cut_ok l i hok).1 hkc (by omega) (cutL l i).length 0 _ _ h (Nat.zero_add _) ((hs.swap.nilRow encI 1).nilRow encI 1)
      · refine mIf_intro (fun hc5 => ?_) (fun hc5 => ?_)
        · refine hs.ldI 0 rfl rfl ?_
          refine mIf_dec (fun hc6 => ?_) (fun hc6 => ?_)
          · refine hs.ldI 0 rfl rfl ?_
            rw [mBind_ap]
            refine (rAdvance_s (t := c.ticks) hc6 (by rw [absF_len]; omega) (abs_b hok) (hs.re [2, 0, 1] rfl)).mono ?_
            rintro v h ⟨o, u, rfl, hs⟩
            simp only [un2_tuple, unL_slice]
            have ha := abs_adv l 0 c.ticks hok.gap
            rw [Int.sub_zero] at ha
            rw [← ha.1, ← ha.2] at hs
            refine p30 (by omega) next hok hko (by omega) hc3.2 ?_
            rw [if_pos hc6, if_pos hc6]
            exact hs.re [2, 3, 0, 1] rfl
          · refine p30 (by omega) next hok hko (by omega) hc3.2 ?_
            rw [if_neg hc6, if_neg hc6]
            exact (hs.nilRow encI 1).re [1, 2, 3, 0] rfl
        · exact skip
theorem DeltaPlays_ok {xs : List DAct} (hl : RdE h0.size h0 DAct.enc 3 acts xs) (ho : ∀ x ∈ xs, x.ok h0) (_hk : -9223372036854775808 ≤ key ∧ key ≤ 9223372036854775807) : N_signalboxlaw04_DeltaPlays acts key h0 (DFin h0) := by
  have han := hl.n
  apply S_signalboxlaw04_DeltaPlays
  unfold B_signalboxlaw04_DeltaPlays
  rw [mBind_ap]
  refine (dfixed_s (Sep.init h0)).mono ?_
  rintro v h ⟨rfl, hs⟩
  simp only [unB_bool]
  refine mIf_neg rfl ?_
  refine mIf_dec (fun hc => ⟨rfl, hs.under⟩) (fun hc => ?_)
  rw [mBind_ap]
  refine (New_s hs).mono ?_
  rintro v h ⟨d, rfl, hs⟩
  simp only [unP_pointer]
  exact p8 hl ho (by omega) xs.length 0 _ [] h (Nat.zero_add _) ⟨by simp, by simp [dsum]⟩ (by intro p hp; simp at hp) (by simp) ((hs.nilRow encP 2).swap)
end
end Go.Proofs.Ytinjifhjjkdmoaa
