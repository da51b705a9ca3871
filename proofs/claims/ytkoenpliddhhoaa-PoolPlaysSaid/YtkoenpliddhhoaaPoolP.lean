/- Pool: the law PoolPlays. Conditions: none. -/
import Derived.Test.YtkoenpliddhhoaaPoolQ
import Derived.Test.YtkoenpliddhhoaaPoolA
import Derived.Test.YtkoenpliddhhoaaSbS
namespace Go.Proofs.Ytkoenpliddhhoaa
open Go Go.Sb
set_option linter.unusedSimpArgs false
set_option linter.unusedVariables false

abbrev encB : Bool → List Value := fun z => [.bool z]
section
variable {h0 h : Hp} {R : List As} {b n : Nat} {fr : List Nat} {tk : List Bool} {ow : List Int} {low : Int}
theorem pool_facts (hs : Sep h0 h (aPool b n fr tk ow low :: R)) : tk.length = n ∧ ow.length = n ∧ fr.length ≤ n ∧ ∀ i ∈ fr, i < n := by
  obtain ⟨s, cells, first, hI, hs⟩ := aPool_iff.1 hs
  exact ⟨hI.n2, hI.n3, hI.fr_le, fun i hi => hI.fr_lt hi⟩
end
section play
variable {h0 : Hp} {b n i : Nat} {ls : Sl} {acts : List PAct} {who : Int}
abbrev pst (b n : Nat) (fr : List Nat) (tk : List Bool) (ow : List Int) (low : Int) (fs ts os : Sl) : List As := [aPool b n fr tk ow low, aRow encI 1 fs (ints fr.reverse), aRow encB 1 ts tk, aRow encI 1 os ow]
def PLoop (h0 : Hp) (b n : Nat) (who : Int) (ls : Sl) (i : Nat) : Prop := ∀ (h : Hp) (fr : List Nat) (tk : List Bool) (ow : List Int) (low : Int) (fs ts os : Sl), Sep h0 h (pst b n fr tk ow low fs ts os) →
  K_signalboxlaw36_PoolPlays_18 (n : Int) who (some ⟨b, 0, none⟩) fs ts os low ls (ls.n : Int) (i : Int) h (PFin h0)
theorem p59 (hn : n ≤ 200) (hi : i < 200) (hloop : PLoop h0 b n who ls (i + 1)) {fr : List Nat} {tk : List Bool} {ow : List Int} {low : Int} {fs ts os out : Sl} : ∀ (d k : Nat) (h : Hp), k + d = n →
    Sep h0 h [aPool b n fr tk ow low, aRow encI 1 out (ints (mines tk ow who n)), aRow encI 1 fs (ints fr.reverse), aRow encB 1 ts tk, aRow encI 1 os ow] →
    K_signalboxlaw36_PoolPlays_59 (n : Int) who (some ⟨b, 0, none⟩) fs ts os low out ((mines tk ow who k).length : Nat) ls (ls.n : Int) (i : Int) (ts.n : Int) (k : Int) h (PFin h0)
  | 0, k, h, hk, hs => by
    obtain ⟨f1, f2, f3, _⟩ := pool_facts hs
    have hrn := hs.rowLen 1 rfl
    have htn := hs.rowLen 3 rfl
    have hfn := hs.rowLen 2 rfl
    rw [List.length_map] at hrn hfn
    rw [List.length_reverse] at hfn
    have hkn : k = n := by omega
    apply S_signalboxlaw36_PoolPlays_59
    unfold B_signalboxlaw36_PoolPlays_59
    (rw [decide_eq_false (by omega), mIf_false]; simp only [mBind_ap])
    refine mIf_neg (by rw [hkn, hrn]; simp) ?_
    (simp only [mBind_ap])
    refine (Free_s hs).mono ?_
    rintro v h ⟨rfl, hs⟩
    (simp only [unI_int]; rw [mRet_ap])
    refine mIf_neg (by rw [hfn]; simp) ?_
    (simp only [mBind_ap])
    refine (Low_s hs).mono ?_
    rintro v h ⟨rfl, hs⟩
    (simp only [unI_int]; rw [mRet_ap])
    refine mIf_neg (by simp) ?_
    rw [wrap64 _ (by omega), show (i : Int) + 1 = ((i + 1 : Nat) : Int) by omega]
    exact hloop h fr tk ow low fs ts os hs.swap.drop
  | d + 1, k, h, hk, hs => by
    have ih := p59 hn hi hloop (fr := fr) (tk := tk) (ow := ow) (low := low) (fs := fs) (ts := ts) (os := os) (out := out) d (k + 1)
    obtain ⟨f1, f2, f3, _⟩ := pool_facts hs
    have hrn := hs.rowLen 1 rfl
    have htn := hs.rowLen 3 rfl
    have hon := hs.rowLen 4 rfl
    rw [List.length_map] at hrn
    have hml := mines_len tk ow who k
    have hms := mines_succ tk ow who k
    apply S_signalboxlaw36_PoolPlays_59
    unfold B_signalboxlaw36_PoolPlays_59
    (rw [decide_eq_true (by omega), mIf_true]; simp only [mBind_ap])
    refine (Owner_s hs (by omega)).mono ?_
    rintro v h ⟨⟨o, t, rfl, ht, ho⟩, hs⟩
    have htk : tk[k]'(by omega) = t := by
      rw [List.getElem?_eq_getElem (by omega)] at ht
      exact Option.some.inj ht
    simp only [un2_tuple, unI_int, unB_bool]
    ((refine Sep.idx hs 3 rfl (by first | omega | (simp only [List.length_set, List.length_map, List.length_replicate, List.length_append, List.length_cons, List.length_nil, List.length_reverse, List.length_range]; omega) | (simp; omega)) (by first | omega | (simp only [List.length_set, List.length_map, List.length_replicate, List.length_append, List.length_cons, List.length_nil, List.length_reverse, List.length_range]; omega) | (simp; omega)) fun aa haa => ?_; try simp only [Int.toNat_natCast] at haa); refine Sep.rldB0 hs 3 rfl (fun _ => rfl) haa (List.getElem?_eq_getElem (by first | omega | (simp only [List.length_set, List.length_map, List.length_replicate, List.length_append, List.length_cons, List.length_nil, List.length_reverse, List.length_range]; omega) | (simp; omega))) rfl ?_; simp only [mBind_ap])
    rw [htk]
    rw [beq_self_eq_true]
    have hmk : mine tk ow who k = (t && (ow[k]?.getD 0 == who)) := by unfold mine; rw [ht]; rfl
    (simp only [Bool.not_true, mIf_false, mBind_ap])
    cases t with
    | false =>
      (simp only [mIf_false]; rw [mRet_ap]; rw [mRet_ap]; simp only [mIf_false]; (refine Sep.idx hs 3 rfl (by first | omega | (simp only [List.length_set, List.length_map, List.length_replicate, List.length_append, List.length_cons, List.length_nil, List.length_reverse, List.length_range]; omega) | (simp; omega)) (by first | omega | (simp only [List.length_set, List.length_map, List.length_replicate, List.length_append, List.length_cons, List.length_nil, List.length_reverse, List.length_range]; omega) | (simp; omega)) fun aa_1 haa_1 => ?_; try simp only [Int.toNat_natCast] at haa_1); refine Sep.rldB0 hs 3 rfl (fun _ => rfl) haa_1 (List.getElem?_eq_getElem (by first | omega | (simp only [List.length_set, List.length_map, List.length_replicate, List.length_append, List.length_cons, List.length_nil, List.length_reverse, List.length_range]; omega) | (simp; omega))) rfl ?_; simp only [mBind_ap])
      rw [htk]
      (simp only [mIf_false]; rw [mRet_ap]; simp only [mIf_false])
      rw [wrap64 _ (by omega), show (k : Int) + 1 = ((k + 1 : Nat) : Int) by omega]
      rw [hmk] at hms
      have : (mines tk ow who k).length = (mines tk ow who (k + 1)).length := by rw [hms]; simp
      rw [this]
      exact ih h (by omega) hs
    | true =>
      have hok := ho rfl
      rw [List.getElem?_eq_getElem (by omega)] at hok
      have hok' := Option.some.inj hok
      rw [ho rfl] at hmk
      (simp only [mIf_true]; (refine Sep.idx hs 4 rfl (by first | omega | (simp only [List.length_set, List.length_map, List.length_replicate, List.length_append, List.length_cons, List.length_nil, List.length_reverse, List.length_range]; omega) | (simp; omega)) (by first | omega | (simp only [List.length_set, List.length_map, List.length_replicate, List.length_append, List.length_cons, List.length_nil, List.length_reverse, List.length_range]; omega) | (simp; omega)) fun aa_1 haa_1 => ?_; try simp only [Int.toNat_natCast] at haa_1); refine Sep.rldI0 hs 4 rfl (fun _ => rfl) haa_1 (List.getElem?_eq_getElem (by first | omega | (simp only [List.length_set, List.length_map, List.length_replicate, List.length_append, List.length_cons, List.length_nil, List.length_reverse, List.length_range]; omega) | (simp; omega))) rfl ?_; rw [mRet_ap]; rw [mRet_ap])
      rw [hok']
      refine mIf_neg (by simp) ?_
      ((refine Sep.idx hs 3 rfl (by first | omega | (simp only [List.length_set, List.length_map, List.length_replicate, List.length_append, List.length_cons, List.length_nil, List.length_reverse, List.length_range]; omega) | (simp; omega)) (by first | omega | (simp only [List.length_set, List.length_map, List.length_replicate, List.length_append, List.length_cons, List.length_nil, List.length_reverse, List.length_range]; omega) | (simp; omega)) fun aa_2 haa_2 => ?_; try simp only [Int.toNat_natCast] at haa_2); refine Sep.rldB0 hs 3 rfl (fun _ => rfl) haa_2 (List.getElem?_eq_getElem (by first | omega | (simp only [List.length_set, List.length_map, List.length_replicate, List.length_append, List.length_cons, List.length_nil, List.length_reverse, List.length_range]; omega) | (simp; omega))) rfl ?_; simp only [mBind_ap])
      rw [htk]
      (simp only [mIf_true]; (refine Sep.idx hs 4 rfl (by first | omega | (simp only [List.length_set, List.length_map, List.length_replicate, List.length_append, List.length_cons, List.length_nil, List.length_reverse, List.length_range]; omega) | (simp; omega)) (by first | omega | (simp only [List.length_set, List.length_map, List.length_replicate, List.length_append, List.length_cons, List.length_nil, List.length_reverse, List.length_range]; omega) | (simp; omega)) fun aa_3 haa_3 => ?_; try simp only [Int.toNat_natCast] at haa_3); refine Sep.rldI0 hs 4 rfl (fun _ => rfl) haa_3 (List.getElem?_eq_getElem (by first | omega | (simp only [List.length_set, List.length_map, List.length_replicate, List.length_append, List.length_cons, List.length_nil, List.length_reverse, List.length_range]; omega) | (simp; omega))) rfl ?_; rw [mRet_ap])
      rw [hok']
      refine mIf_intro (fun hc => ?_) (fun hc => ?_)
      · have hmk : mine tk ow who k = true := by rw [hmk]; simpa using hc
        rw [if_pos hmk] at hms
        have hlen : (mines tk ow who (k + 1)).length = (mines tk ow who k).length + 1 := by rw [hms]; simp
        have hpre : ∃ r, mines tk ow who n = mines tk ow who (k + 1) ++ r := by
          unfold mines
          refine ⟨((List.range' (k + 1) (n - (k + 1))).filter (mine tk ow who)), ?_⟩
          rw [← List.filter_append, List.range_eq_range', List.range_eq_range', show n = (k + 1) + (n - (k + 1)) by omega]
          rw [← List.range'_append_1]
          simp
        obtain ⟨r, hr⟩ := hpre
        have hlr := congrArg List.length hr
        rw [List.length_append, hlen] at hlr
        (simp only [mBind_ap]; rw [decide_eq_false (by omega), mIf_false]; (refine Sep.idx hs 1 rfl (by first | omega | (simp only [List.length_set, List.length_map, List.length_replicate, List.length_append, List.length_cons, List.length_nil, List.length_reverse, List.length_range]; omega) | (simp; omega)) (by first | omega | (simp only [List.length_set, List.length_map, List.length_replicate, List.length_append, List.length_cons, List.length_nil, List.length_reverse, List.length_range]; omega) | (simp; omega)) fun aa_4 haa_4 => ?_; try simp only [Int.toNat_natCast] at haa_4); refine Sep.rldI0 hs 1 rfl (fun _ => rfl) haa_4 (List.getElem?_eq_getElem (by first | omega | (simp only [List.length_set, List.length_map, List.length_replicate, List.length_append, List.length_cons, List.length_nil, List.length_reverse, List.length_range]; omega) | (simp; omega))) rfl ?_; rw [mRet_ap])
        have hget : (ints (mines tk ow who n))[(mines tk ow who k).length]'(by simp; omega) = (k : Int) := by
          simp only [List.getElem_map, hr, hms]
          simp
        rw [hget]
        refine mIf_neg (by simp) ?_
        rw [wrap64 _ (by omega), wrap64 _ (by omega), show (k : Int) + 1 = ((k + 1 : Nat) : Int) by omega, show ((mines tk ow who k).length : Int) + 1 = ((mines tk ow who (k + 1)).length : Nat) by omega]
        exact ih h (by omega) hs
      · have hmk : mine tk ow who k = false := by rw [hmk]; simpa using hc
        rw [hmk] at hms
        have : (mines tk ow who k).length = (mines tk ow who (k + 1)).length := by rw [hms]; simp
        rw [wrap64 _ (by omega), show (k : Int) + 1 = ((k + 1 : Nat) : Int) by omega, this]
        exact ih h (by omega) hs
theorem p56 (hn : n ≤ 200) (hi : i < 200) (hloop : PLoop h0 b n who ls (i + 1)) {fr : List Nat} {tk : List Bool} {ow : List Int} {low : Int} {fs ts os : Sl} {h : Hp} (hs : Sep h0 h (pst b n fr tk ow low fs ts os)) :
    K_signalboxlaw36_PoolPlays_56 (n : Int) who (some ⟨b, 0, none⟩) fs ts os low ls (ls.n : Int) (i : Int) h (PFin h0) := by
  apply S_signalboxlaw36_PoolPlays_56
  unfold B_signalboxlaw36_PoolPlays_56
  (simp only [mBind_ap])
  refine (All_s hs (by omega) who).mono ?_
  rintro v h ⟨out, rfl, hs⟩
  (simp only [unL_slice])
  exact p59 hn hi hloop n 0 h (by omega) hs
theorem p47 (hn : n ≤ 200) (hi : i < 200) (hloop : PLoop h0 b n who ls (i + 1)) {fr : List Nat} {tk : List Bool} {ow : List Int} {low : Int} {ts os : Sl} {x : Nat} {a : PAct} : ∀ (d k : Nat) (h : Hp) (fs : Sl), k + d = n →
    Sep h0 h [aBlk x a.enc, aPool b n fr tk ow low, aRow encI 1 fs (ints (recF (mines tk ow a.who k) fr).reverse), aRow encB 1 ts (recT (mines tk ow a.who k) tk), aRow encI 1 os ow] →
    K_signalboxlaw36_PoolPlays_47 (n : Int) who (some ⟨b, 0, none⟩) fs ts os low ⟨x, 0, none⟩ ((mines tk ow a.who k).length : Nat) ls (ls.n : Int) (i : Int) (n : Int) (k : Int) h (PFin h0)
  | 0, k, h, fs, hk, hs => by
    have hkn : k = n := by omega
    rw [hkn] at hs
    apply S_signalboxlaw36_PoolPlays_47
    unfold B_signalboxlaw36_PoolPlays_47
    (simp only [add_mk, Nat.zero_add]; rw [decide_eq_false (by omega), mIf_false]; refine Sep.ldI hs 0 rfl rfl ?_; simp only [mBind_ap])
    refine (Reclaim_s hs.drop (by omega) _).mono ?_
    rintro v h ⟨rfl, hs⟩
    (simp only [unI_int])
    refine mIf_neg (by rw [hkn]; simp) ?_
    exact p56 hn hi hloop hs
  | d + 1, k, h, fs, hk, hs => by
    have ih := p47 hn hi hloop (fr := fr) (tk := tk) (ow := ow) (low := low) (ts := ts) (os := os) (x := x) (a := a) d (k + 1)
    obtain ⟨f1, f2, f3, _⟩ := pool_facts hs.drop
    have htn := hs.rowLen 3 rfl
    have hon := hs.rowLen 4 rfl
    have hfn := hs.rowLen 2 rfl
    have hml := mines_len tk ow a.who k
    have hms := mines_succ tk ow a.who k
    have rtl : ∀ (l : List Nat) (tk : List Bool), (recT l tk).length = tk.length := by
      intro l
      induction l with
      | nil => intro tk; rfl
      | cons j l ih => intro tk; rw [recT, ih]; simp
    have rfl_ : ∀ (l fr : List Nat), (recF l fr).length = fr.length + l.length := by
      intro l
      induction l with
      | nil => intro tk; rfl
      | cons j l ih => intro tk; rw [recF, ih]; simp; omega
    rw [rtl] at htn
    have hnot : k ∉ mines tk ow a.who k := by unfold mines; simp
    have hg := recT_out _ k tk hnot
    apply S_signalboxlaw36_PoolPlays_47
    unfold B_signalboxlaw36_PoolPlays_47
    have hgt : tk[k]? = some (tk[k]'(by omega)) := List.getElem?_eq_getElem (by omega)
    have hgo : ow[k]? = some (ow[k]'(by omega)) := List.getElem?_eq_getElem (by omega)
    have hmk : mine tk ow a.who k = ((tk[k]'(by omega)) && ((ow[k]'(by omega)) == a.who)) := by unfold mine; rw [hgt, hgo]; rfl
    rw [hgt, List.getElem?_eq_getElem (by rw [rtl]; omega)] at hg
    have hg' := Option.some.inj hg
    rw [decide_eq_true (by omega), mIf_true]
    refine hs.idx 3 rfl (by omega) (by rw [rtl]; omega) fun aa haa => ?_
    simp only [Int.toNat_natCast] at haa
    refine hs.bld 3 rfl haa (by rw [rtl]; omega) ?_
    rw [hg']
    have skip : mine tk ow a.who k = false → K_signalboxlaw36_PoolPlays_47 (n : Int) who (some ⟨b, 0, none⟩) fs ts os low ⟨x, 0, none⟩ ((mines tk ow a.who k).length : Nat) ls (ls.n : Int) (i : Int) (n : Int) (IntKind.i64.wrap ((k : Int) + 1)) h (PFin h0) := by
      intro hm
      rw [hm] at hms
      simp only [Bool.false_eq_true, if_false, List.append_nil] at hms
      rw [wrap64 _ (by omega), show (k : Int) + 1 = ((k + 1 : Nat) : Int) by omega, ← hms]
      exact ih h fs (by omega) (by rw [hms]; exact hs)
    cases hcase : tk[k]'(by omega) with
    | false =>
      (simp only [add_mk, Nat.zero_add, mIf_false, mBind_ap]; rw [mRet_ap]; simp only [mIf_false])
      exact skip (by rw [hmk, hcase]; rfl)
    | true =>
      (simp only [add_mk, Nat.zero_add, mIf_true, mBind_ap]; (refine Sep.idx hs 4 rfl (by first | omega | (simp only [List.length_set, List.length_map, List.length_replicate, List.length_append, List.length_cons, List.length_nil, List.length_reverse, List.length_range]; omega) | (simp; omega)) (by first | omega | (simp only [List.length_set, List.length_map, List.length_replicate, List.length_append, List.length_cons, List.length_nil, List.length_reverse, List.length_range]; omega) | (simp; omega)) fun aa_1 haa_1 => ?_; try simp only [Int.toNat_natCast] at haa_1); refine Sep.rldI0 hs 4 rfl (fun _ => rfl) haa_1 (List.getElem?_eq_getElem (by first | omega | (simp only [List.length_set, List.length_map, List.length_replicate, List.length_append, List.length_cons, List.length_nil, List.length_reverse, List.length_range]; omega) | (simp; omega))) rfl ?_; refine Sep.ldI hs 0 rfl rfl ?_; rw [mRet_ap])
      refine mIf_intro (fun hc => ?_) (fun hc => ?_)
      · have hmt : mine tk ow a.who k = true := by rw [hmk, hcase]; simpa using hc
        rw [if_pos hmt] at hms
        refine hs.idx 3 rfl (by omega) (by rw [rtl]; omega) fun ab hab => ?_
        simp only [Int.toNat_natCast] at hab
        refine hs.bst 3 rfl hab (by rw [rtl]; omega) fun h hs => ?_
        simp only [List.set_cons_zero, List.set_cons_succ] at hs
        (refine Sep.new hs fun nb h hs => ?_; try simp only [List.toList_toArray] at hs)
        refine hs.app1 3 0 (k : Int) rfl rfl (fun _ => rfl) (by simp [encI, Value.oneCell']) rfl (by omega) (by simp [rfl_]; omega) fun s' h hn' hs => ?_
        simp only [List.set_cons_zero, List.set_cons_succ] at hs
        rw [wrap64 _ (by omega), wrap64 _ (by omega), show (k : Int) + 1 = ((k + 1 : Nat) : Int) by omega, show ((mines tk ow a.who k).length : Int) + 1 = ((mines tk ow a.who (k + 1)).length : Nat) by rw [hms]; simp]
        refine ih h s' (by omega) ?_
        rw [hms, recF_snoc, recT_snoc]
        simpa [ints] using hs.drop
      · exact skip (by rw [hmk, hcase]; simpa using hc)
theorem p18 (hn : n ≤ 200) (hl : RdE h0.size h0 PAct.enc 3 ls acts) (hok : ∀ x ∈ acts, x.ok) (hlen : acts.length ≤ 150) : ∀ (d i : Nat), i + d = acts.length → PLoop h0 b n who ls i
  | 0, i, hi => by
    intro h fr tk ow low fs ts os hs
    have hln := hl.n
    apply S_signalboxlaw36_PoolPlays_18
    unfold B_signalboxlaw36_PoolPlays_18
    (rw [decide_eq_false (by omega), mIf_false])
    exact ⟨rfl, hs.under⟩
  | d + 1, i, hi => by
    have hloop := p18 hn hl hok hlen d (i + 1) (by omega)
    intro h fr tk ow low fs ts os hs
    have hln := hl.n
    obtain ⟨f1, f2, f3, f4⟩ := pool_facts hs
    have hfn := hs.rowLen 1 rfl
    have htn := hs.rowLen 2 rfl
    have hon := hs.rowLen 3 rfl
    rw [List.length_map, List.length_reverse] at hfn
    have hai := hok acts[i] (List.getElem_mem (by omega))
    apply S_signalboxlaw36_PoolPlays_18
    unfold B_signalboxlaw36_PoolPlays_18
    (rw [decide_eq_true (by omega), mIf_true]; refine Sep.argEn hs hl (by first | omega | (simp only [List.length_set, List.length_map, List.length_replicate, List.length_append, List.length_cons, List.length_nil, List.length_reverse, List.length_range]; omega) | (simp; omega)) fun aa haa => ?_; refine Arg.ldI0 haa rfl ?_; refine Arg.ldI haa rfl ?_; refine Arg.ldI haa rfl ?_; (refine Sep.new hs fun nb h hs => ?_; try simp only [List.toList_toArray] at hs); (refine Sep.st hs 0 rfl rfl rfl fun h hs => ?_; simp only [List.set_cons_zero, List.set_cons_succ] at hs); (refine Sep.st hs 0 rfl rfl rfl fun h hs => ?_; simp only [List.set_cons_zero, List.set_cons_succ] at hs); (refine Sep.st hs 0 rfl rfl rfl fun h hs => ?_; simp only [List.set_cons_zero, List.set_cons_succ] at hs); refine Sep.ldI hs 0 rfl rfl ?_; simp only [add_mk, Nat.zero_add])
    generalize acts[i]'(by omega) = a at haa hai hs ⊢
    have next : ∀ (h : Hp) (fr : List Nat) (tk : List Bool) (ow : List Int) (low : Int) (fs : Sl), Sep h0 h (pst b n fr tk ow low fs ts os) → K_signalboxlaw36_PoolPlays_56 (n : Int) who (some ⟨b, 0, none⟩) fs ts os low ls (ls.n : Int) (i : Int) h (PFin h0) :=
      fun h fr tk ow low fs hs => p56 hn (by omega) hloop hs
    refine ⟨by omega, ?_⟩
    refine mIf_intro (fun hc => ?_) (fun hc => ?_)
    · (refine Sep.ldI hs 0 rfl rfl ?_; simp only [mBind_ap])
      cases fr with
      | nil =>
        refine (Get_none hs.drop _).mono ?_
        rintro v h ⟨rfl, hs⟩
        (simp only [un2_tuple, unI_int])
        refine mIf_pos (by rw [hfn]; rfl) ?_
        refine mIf_neg (by decide) ?_
        rw [wrap64 _ (by omega), show (i : Int) + 1 = ((i + 1 : Nat) : Int) by omega]
        exact hloop h [] tk ow low fs ts os hs
      | cons j fr =>
        have hj : j < n := f4 j (by simp)
        simp only [List.length_cons] at hfn f3
        refine (Get_s hs.swap (by omega) _).mono ?_
        rintro v h ⟨rfl, hs⟩
        (simp only [un2_tuple, unI_int])
        refine mIf_neg (by rw [hfn]; simp; omega) ?_
        rw [wrap64 _ (by omega)]
        ((refine Sep.idx hs 2 rfl (by first | omega | (simp only [List.length_set, List.length_map, List.length_replicate, List.length_append, List.length_cons, List.length_nil, List.length_reverse, List.length_range]; omega) | (simp; omega)) (by first | omega | (simp only [List.length_set, List.length_map, List.length_replicate, List.length_append, List.length_cons, List.length_nil, List.length_reverse, List.length_range]; omega) | (simp; omega)) fun aa_1 haa_1 => ?_; try simp only [Int.toNat_natCast] at haa_1); refine Sep.rldI0 hs 2 rfl (fun _ => rfl) haa_1 (List.getElem?_eq_getElem (by first | omega | (simp only [List.length_set, List.length_map, List.length_replicate, List.length_append, List.length_cons, List.length_nil, List.length_reverse, List.length_range]; omega) | (simp; omega))) rfl ?_)
        have e1 : ((fs.n : Int) - 1).toNat = fr.length := by omega
        have e2 : (ints (j :: fr).reverse)[((fs.n : Int) - 1).toNat]'(by simp; omega) = (j : Int) := by
          simp [e1, ints]
        rw [e2]
        refine hs.slc 2 rfl (fun _ => rfl) (by omega) (by omega) (by simp; omega) rfl fun fs' hn' hs => ?_
        simp only [List.set_cons_zero, List.set_cons_succ] at hs
        have e3 : List.drop (Int.toNat 0) (List.take ((fs.n : Int) - 1).toNat (ints (j :: fr).reverse)) = ints fr.reverse := by
          rw [e1]
          simp [ints]
        rw [e3] at hs
        refine mIf_neg (by simp) ?_
        refine hs.idx 3 rfl (by omega) (by omega) fun at_ hat => ?_
        simp only [Int.toNat_natCast] at hat
        have fin : fs'.n = fr.length := by omega
        refine ⟨?_, ?_⟩
        · (refine Sep.ldI hs 1 rfl rfl ?_; (refine Sep.bst hs 3 rfl hat (by first | omega | (simp only [List.length_set, List.length_map, List.length_replicate, List.length_append, List.length_cons, List.length_nil, List.length_reverse, List.length_range]; omega) | (simp; omega)) fun h hs => ?_; simp only [List.set_cons_zero, List.set_cons_succ] at hs); (refine Sep.idx hs 4 rfl (by first | omega | (simp only [List.length_set, List.length_map, List.length_replicate, List.length_append, List.length_cons, List.length_nil, List.length_reverse, List.length_range]; omega) | (simp; omega)) (by first | omega | (simp only [List.length_set, List.length_map, List.length_replicate, List.length_append, List.length_cons, List.length_nil, List.length_reverse, List.length_range]; omega) | (simp; omega)) fun aa_2 haa_2 => ?_; try simp only [Int.toNat_natCast] at haa_2); (refine Sep.ist hs 4 rfl haa_2 (by first | omega | (simp only [List.length_set, List.length_map, List.length_replicate, List.length_append, List.length_cons, List.length_nil, List.length_reverse, List.length_range]; omega) | (simp; omega)) fun h hs => ?_; simp only [List.set_cons_zero, List.set_cons_succ] at hs))
          rw [fin]
          exact next _ _ _ _ _ _ (hs.swap.drop)
        · ((refine Sep.bst hs 3 rfl hat (by first | omega | (simp only [List.length_set, List.length_map, List.length_replicate, List.length_append, List.length_cons, List.length_nil, List.length_reverse, List.length_range]; omega) | (simp; omega)) fun h hs => ?_; simp only [List.set_cons_zero, List.set_cons_succ] at hs); refine Sep.ldI hs 1 rfl rfl ?_; (refine Sep.idx hs 4 rfl (by first | omega | (simp only [List.length_set, List.length_map, List.length_replicate, List.length_append, List.length_cons, List.length_nil, List.length_reverse, List.length_range]; omega) | (simp; omega)) (by first | omega | (simp only [List.length_set, List.length_map, List.length_replicate, List.length_append, List.length_cons, List.length_nil, List.length_reverse, List.length_range]; omega) | (simp; omega)) fun aa_2 haa_2 => ?_; try simp only [Int.toNat_natCast] at haa_2); (refine Sep.ist hs 4 rfl haa_2 (by first | omega | (simp only [List.length_set, List.length_map, List.length_replicate, List.length_append, List.length_cons, List.length_nil, List.length_reverse, List.length_range]; omega) | (simp; omega)) fun h hs => ?_; simp only [List.set_cons_zero, List.set_cons_succ] at hs))
          rw [fin]
          exact next _ _ _ _ _ _ (hs.swap.drop)
    · refine mIf_intro (fun hc1 => ?_) (fun hc1 => ?_)
      · (refine Sep.ldI hs 0 rfl rfl ?_; refine Sep.ldI hs 0 rfl rfl ?_; simp only [mBind_ap])
        by_cases hrange : a.block < 0 ∨ (n : Int) ≤ a.block
        · refine (Put_range hs.swap hrange _).mono ?_
          rintro v h ⟨rfl, hs⟩
          (simp only [unI_int]; refine Sep.ldI hs 1 rfl rfl ?_; simp only [mBind_ap])
          have hb51 : ∀ (K : Bool → M Value), K true h (PFin h0) → mIf (decide (a.block < 0)) (mRet true) (mLdI IntKind.i64 ⟨nb, 1, none⟩ fun x188 => mRet (decide (x188 ≥ (n : Int)))) h (fun c h' => K c h' (PFin h0)) := by
            intro K hK
            refine mIf_dec (fun _ => hK) (fun _ => ?_)
            refine Sep.ldI hs 1 rfl rfl ?_
            rw [mRet_ap, decide_eq_true (by omega)]
            exact hK
          refine hb51 _ ?_
          (simp only [mIf_true])
          refine mIf_neg (by decide) ?_
          exact next _ _ _ _ _ _ hs.swap.drop
        · obtain ⟨k, hk⟩ : ∃ k : Nat, a.block = k := ⟨a.block.toNat, by omega⟩
          obtain ⟨ak, ab, aw⟩ := a
          dsimp only at hk hrange hs ⊢
          subst hk
          have hkn : k < n := by omega
          have hgt : tk[k]? = some (tk[k]'(by omega)) := List.getElem?_eq_getElem (by omega)
          have hgo : ow[k]? = some (ow[k]'(by omega)) := List.getElem?_eq_getElem (by omega)
          have hmk : mine tk ow aw k = ((tk[k]'(by omega)) && ((ow[k]'(by omega)) == aw)) := by unfold mine; rw [hgt, hgo]; rfl
          cases hm : mine tk ow aw k with
          | false =>
            refine (Put_none hs.swap hkn hm).mono ?_
            rintro v h ⟨rfl, hs⟩
            (simp only [unI_int]; refine Sep.ldI hs 1 rfl rfl ?_; simp only [mBind_ap]; rw [decide_eq_false (by omega), mIf_false]; refine Sep.ldI hs 1 rfl rfl ?_; rw [mRet_ap]; rw [decide_eq_false (by omega), mIf_false]; refine Sep.ldI hs 1 rfl rfl ?_; (refine Sep.idx hs 3 rfl (by first | omega | (simp only [List.length_set, List.length_map, List.length_replicate, List.length_append, List.length_cons, List.length_nil, List.length_reverse, List.length_range]; omega) | (simp; omega)) (by first | omega | (simp only [List.length_set, List.length_map, List.length_replicate, List.length_append, List.length_cons, List.length_nil, List.length_reverse, List.length_range]; omega) | (simp; omega)) fun aa_1 haa_1 => ?_; try simp only [Int.toNat_natCast] at haa_1); refine Sep.rldB0 hs 3 rfl (fun _ => rfl) haa_1 (List.getElem?_eq_getElem (by first | omega | (simp only [List.length_set, List.length_map, List.length_replicate, List.length_append, List.length_cons, List.length_nil, List.length_reverse, List.length_range]; omega) | (simp; omega))) rfl ?_; simp only [mBind_ap])
            rw [hm] at hmk
            cases ht : tk[k]'(by omega) with
            | false =>
              (simp only [Bool.not_false, mIf_true]; rw [mRet_ap]; simp only [mIf_true])
              refine mIf_neg (by decide) ?_
              exact next _ _ _ _ _ _ hs.swap.drop
            | true =>
              rw [ht] at hmk
              (simp only [Bool.not_true, mIf_false]; refine Sep.ldI hs 1 rfl rfl ?_; (refine Sep.idx hs 4 rfl (by first | omega | (simp only [List.length_set, List.length_map, List.length_replicate, List.length_append, List.length_cons, List.length_nil, List.length_reverse, List.length_range]; omega) | (simp; omega)) (by first | omega | (simp only [List.length_set, List.length_map, List.length_replicate, List.length_append, List.length_cons, List.length_nil, List.length_reverse, List.length_range]; omega) | (simp; omega)) fun aa_2 haa_2 => ?_; try simp only [Int.toNat_natCast] at haa_2); refine Sep.rldI0 hs 4 rfl (fun _ => rfl) haa_2 (List.getElem?_eq_getElem (by first | omega | (simp only [List.length_set, List.length_map, List.length_replicate, List.length_append, List.length_cons, List.length_nil, List.length_reverse, List.length_range]; omega) | (simp; omega))) rfl ?_; refine Sep.ldI hs 1 rfl rfl ?_; rw [mRet_ap])
              refine mIf_pos (by simpa using hmk) ?_
              refine mIf_neg (by decide) ?_
              exact next _ _ _ _ _ _ hs.swap.drop
          | true =>
            refine (Put_s hs.swap (by omega) hkn hm).mono ?_
            rintro v h ⟨rfl, hs⟩
            (simp only [unI_int]; refine Sep.ldI hs 1 rfl rfl ?_; simp only [mBind_ap]; rw [decide_eq_false (by omega), mIf_false]; refine Sep.ldI hs 1 rfl rfl ?_; rw [mRet_ap]; rw [decide_eq_false (by omega), mIf_false]; refine Sep.ldI hs 1 rfl rfl ?_; (refine Sep.idx hs 3 rfl (by first | omega | (simp only [List.length_set, List.length_map, List.length_replicate, List.length_append, List.length_cons, List.length_nil, List.length_reverse, List.length_range]; omega) | (simp; omega)) (by first | omega | (simp only [List.length_set, List.length_map, List.length_replicate, List.length_append, List.length_cons, List.length_nil, List.length_reverse, List.length_range]; omega) | (simp; omega)) fun aa_1 haa_1 => ?_; try simp only [Int.toNat_natCast] at haa_1); refine Sep.rldB0 hs 3 rfl (fun _ => rfl) haa_1 (List.getElem?_eq_getElem (by first | omega | (simp only [List.length_set, List.length_map, List.length_replicate, List.length_append, List.length_cons, List.length_nil, List.length_reverse, List.length_range]; omega) | (simp; omega))) rfl ?_; simp only [mBind_ap])
            rw [hm] at hmk
            simp only [Bool.true_eq, Bool.and_eq_true] at hmk
            rw [hmk.1]
            (simp only [Bool.not_true, mIf_false]; refine Sep.ldI hs 1 rfl rfl ?_; (refine Sep.idx hs 4 rfl (by first | omega | (simp only [List.length_set, List.length_map, List.length_replicate, List.length_append, List.length_cons, List.length_nil, List.length_reverse, List.length_range]; omega) | (simp; omega)) (by first | omega | (simp only [List.length_set, List.length_map, List.length_replicate, List.length_append, List.length_cons, List.length_nil, List.length_reverse, List.length_range]; omega) | (simp; omega)) fun aa_2 haa_2 => ?_; try simp only [Int.toNat_natCast] at haa_2); refine Sep.rldI0 hs 4 rfl (fun _ => rfl) haa_2 (List.getElem?_eq_getElem (by first | omega | (simp only [List.length_set, List.length_map, List.length_replicate, List.length_append, List.length_cons, List.length_nil, List.length_reverse, List.length_range]; omega) | (simp; omega))) rfl ?_; refine Sep.ldI hs 1 rfl rfl ?_; rw [mRet_ap])
            refine mIf_neg (by simpa using hmk.2) ?_
            refine mIf_neg (by decide) ?_
            (refine Sep.ldI hs 1 rfl rfl ?_; (refine Sep.idx hs 3 rfl (by first | omega | (simp only [List.length_set, List.length_map, List.length_replicate, List.length_append, List.length_cons, List.length_nil, List.length_reverse, List.length_range]; omega) | (simp; omega)) (by first | omega | (simp only [List.length_set, List.length_map, List.length_replicate, List.length_append, List.length_cons, List.length_nil, List.length_reverse, List.length_range]; omega) | (simp; omega)) fun aa_3 haa_3 => ?_; try simp only [Int.toNat_natCast] at haa_3); (refine Sep.bst hs 3 rfl haa_3 (by first | omega | (simp only [List.length_set, List.length_map, List.length_replicate, List.length_append, List.length_cons, List.length_nil, List.length_reverse, List.length_range]; omega) | (simp; omega)) fun h hs => ?_; simp only [List.set_cons_zero, List.set_cons_succ] at hs); refine Sep.ldI hs 1 rfl rfl ?_; (refine Sep.new hs fun nb_1 h hs => ?_; try simp only [List.toList_toArray] at hs))
            refine hs.app1 3 0 (k : Int) rfl rfl (fun _ => rfl) (by simp [encI, Value.oneCell']) rfl (by omega) (by simp; omega) fun s' h hn' hs => ?_
            simp only [List.set_cons_zero, List.set_cons_succ] at hs
            refine next h (k :: fr) (tk.set k false) ow low s' ?_
            have hs := hs.drop.swap.drop
            show Sep h0 h [_, aRow encI 1 s' (ints (k :: fr).reverse), _, _]
            rw [show ints (k :: fr).reverse = ints fr.reverse ++ [(k : Int)] by simp [ints]]
            exact hs
      · have hk2 : a.kind % 3 = 2 := by
          rw [Int.tmod_eq_emod_of_nonneg hai.1.1] at hc hc1
          simp at hc hc1
          omega
        refine mIf_pos (by rw [Int.tmod_eq_emod_of_nonneg hai.1.1, hk2]; rfl) ?_
        rw [htn, f1]
        exact p47 hn (by omega) hloop n 0 h fs (by omega) hs
theorem PoolPlays_ok {bl : Int} (hb : -9223372036854775808 ≤ bl ∧ bl ≤ 9223372036854775807) (hl : RdE h0.size h0 PAct.enc 3 ls acts) (hok : ∀ x ∈ acts, x.ok) (hw : -9223372036854775808 ≤ who ∧ who ≤ 9223372036854775807) : N_signalboxlaw36_PoolPlays bl ls who h0 (PFin h0) := by
  have hln := hl.n
  apply S_signalboxlaw36_PoolPlays
  unfold B_signalboxlaw36_PoolPlays
  (simp only [mBind_ap])
  refine (fixed36_s (Sep.init h0)).mono ?_
  rintro v h1 ⟨rfl, hs⟩
  (simp only [unB_bool, Bool.not_true, mIf_false, mBind_ap])
  refine mIf_intro (fun hc => ⟨rfl, hs.under⟩) (fun hc => ?_)
  rw [mRet_ap]
  refine mIf_intro (fun hc1 => ⟨rfl, hs.under⟩) (fun hc1 => ?_)
  have hc : acts.length ≤ 150 := by simp at hc; omega
  have hc1 : bl ≤ 200 ∨ 1024 < bl := by simp at hc1; omega
  rw [mBind_ap]
  by_cases hbl : bl < 0 ∨ bl > 1024
  · refine (New_bad _ _ hbl).mono ?_
    rintro v h ⟨rfl, rfl⟩
    (simp only [unP_pointer, Option.isNone_none, Bool.true_and])
    refine mIf_pos (by simp; omega) ?_
    (simp only [mBind_ap])
    refine (Get_nil _ _).mono ?_
    rintro v h ⟨rfl, rfl⟩
    (simp only [un2_tuple, unI_int, mBind_ap])
    refine (Owner_nil _ _).mono ?_
    rintro v h ⟨rfl, rfl⟩
    (simp only [un2_tuple, unB_bool, Bool.not_false, Bool.and_true, unI_int, mBind_ap])
    refine mIf_pos rfl ?_
    (simp only [mBind_ap])
    refine (Put_nil _ _ _).mono ?_
    rintro v h ⟨rfl, rfl⟩
    (simp only [unI_int]; rw [mRet_ap])
    refine mIf_pos rfl ?_
    (simp only [mBind_ap])
    refine (Free_nil _).mono ?_
    rintro v h ⟨rfl, rfl⟩
    (simp only [unI_int, mBind_ap])
    refine (Low_nil _).mono ?_
    rintro v h ⟨rfl, rfl⟩
    (simp only [unI_int, mBind_ap])
    refine (Reclaim_nil _ _).mono ?_
    rintro v h ⟨rfl, rfl⟩
    (simp only [unI_int, mBind_ap])
    refine (All_nil _ _).mono ?_
    rintro v h ⟨rfl, rfl⟩
    exact ⟨rfl, hs.under⟩
  · obtain ⟨n, rfl⟩ : ∃ n : Nat, bl = n := ⟨bl.toNat, by omega⟩
    refine (New_s hs (by omega)).mono ?_
    rintro v h ⟨b, rfl, hs⟩
    (simp only [unP_pointer, Option.isNone_some, Bool.false_and, mIf_false])
    refine mIf_neg (by simp; omega) ?_
    rw [wrap64 _ (by omega)]
    have loop : ∀ (k : Nat) (h : Hp) (fs : Sl), k ≤ n → Sep h0 h [aPool b n (List.range n) (List.replicate n false) (List.replicate n 0) n, aRow encI 1 fs (ints (List.range' k (n - k)).reverse)] →
        K_signalboxlaw36_PoolPlays_12 (n : Int) ls who (some ⟨b, 0, none⟩) fs ((k : Int) - 1) h (PFin h0) := by
      intro k
      induction k with
      | zero =>
        intro h fs _ hs
        rw [Nat.sub_zero, ← List.range_eq_range'] at hs
        apply S_signalboxlaw36_PoolPlays_12
        unfold B_signalboxlaw36_PoolPlays_12
        (rw [decide_eq_false (by omega), mIf_false])
        refine ⟨?_, ?_⟩
        · refine hs.make encB 1 false rfl (by omega) (by omega) (by omega) fun ts h hsn hs => ?_
          refine hs.make encI 1 0 rfl (by omega) (by omega) (by omega) fun os h hsn hs => ?_
          exact p18 (by omega) hl hok hc acts.length 0 (by omega) h _ _ _ _ fs ts os (hs.re [2, 3, 1, 0] rfl)
        · refine hs.make encI 1 0 rfl (by omega) (by omega) (by omega) fun os h hsn hs => ?_
          refine hs.make encB 1 false rfl (by omega) (by omega) (by omega) fun ts h hsn hs => ?_
          exact p18 (by omega) hl hok hc acts.length 0 (by omega) h _ _ _ _ fs ts os (hs.re [2, 3, 0, 1] rfl)
      | succ k ih =>
        intro h fs hk hs
        apply S_signalboxlaw36_PoolPlays_12
        unfold B_signalboxlaw36_PoolPlays_12
        (rw [decide_eq_true (by omega), mIf_true]; (refine Sep.new hs fun nb h hs => ?_; try simp only [List.toList_toArray] at hs))
        have e : ((k + 1 : Nat) : Int) - 1 = (k : Int) := by omega
        rw [e] at hs ⊢
        refine hs.app1 2 0 (k : Int) rfl rfl (fun _ => rfl) (by simp [encI, Value.oneCell']) rfl (by omega) (by simp; omega) fun s' h hn' hs => ?_
        simp only [List.set_cons_zero, List.set_cons_succ] at hs
        rw [wrap64 _ (by omega)]
        refine ih h s' (by omega) ?_
        rw [range_cons (show k < n by omega)]
        simpa [ints] using hs.drop
    exact loop n h ⟨none, 0, 0⟩ (by omega) (by simpa using (hs.nilRow encI 1).swap)
end play
end Go.Proofs.Ytkoenpliddhhoaa
