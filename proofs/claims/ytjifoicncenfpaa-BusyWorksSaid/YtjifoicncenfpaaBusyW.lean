/- Busy windows: the law BusyWorks. Conditions: none. -/
import Derived.Test.YtjifoicncenfpaaBusyP
import Derived.Test.YtjifoicncenfpaaSbW
namespace Go.Proofs.Ytjifoicncenfpaa
open Go Go.Sb
set_option linter.unusedSimpArgs false
set_option linter.unusedVariables false

/-- the work of so many jobs of each load -/
def tot : List Ld → List Nat → Int
  | w :: l, c :: cs => w.cost * c + tot l cs
  | _, _ => 0
theorem tot_set : ∀ (l : List Ld) (cs : List Nat) (i : Nat) (hl : i < l.length) (hc : i < cs.length), tot l (cs.set i (cs[i] + 1)) = tot l cs + l[i].cost
  | w :: l, c :: cs, 0, _, _ => by
    simp only [List.set_cons_zero, List.getElem_cons_zero, tot]
    have : w.cost * ((c + 1 : Nat) : Int) = w.cost * c + w.cost := by rw [Int.natCast_add, Int.mul_add]; simp
    omega
  | w :: l, c :: cs, i + 1, hl, hc => by
    simp only [List.set_cons_succ, List.getElem_cons_succ, tot]
    have := tot_set l cs i (by simpa using hl) (by simpa using hc)
    omega
theorem tot_zero : ∀ (l : List Ld) (n : Nat), tot l (List.replicate n 0) = 0
  | [], _ => by cases n : List.replicate _ 0 <;> rfl
  | w :: l, 0 => rfl
  | w :: l, n + 1 => by rw [List.replicate_succ, tot, tot_zero l n]; simp
/-- no more than a demand -/
theorem tot_dem (x : Int) (hx : 1 ≤ x ∧ x ≤ 1000000) : ∀ (l : List Ld) (cs : List Nat) (d w : Int), cs.length = l.length → U d → LOk l → (∀ v ∈ l, 1 ≤ v.period) → (∀ (i : Nat) (hi : i < l.length) (hc : i < cs.length), (cs[i] : Int) ≤ (x - 1) / l[i].period + 1) → dem d l x ≤ w → w < 18446744073709551615 → d + tot l cs ≤ w
  | [], _, d, w, _, _, _, _, _, h, _ => by simpa [tot, dem] using h
  | v :: l, [], d, w, hl, _, _, _, _, _, _ => by simp at hl
  | v :: l, c :: cs, d, w, hl, hd, hok, hp, hc, h, hw => by
    have hv := hok v (by simp)
    have hpv := hp v (by simp)
    have hxU : U x := ⟨by omega, by omega⟩
    have hdU := dstep_U hxU hd hv
    have hok' : LOk l := fun u hu => hok u (by simp [hu])
    have ih := tot_dem x hx l cs (dstep x d v) w (by simpa using hl) hdU hok' (fun u hu => hp u (by simp [hu])) (fun i hi hci => by
      have := hc (i + 1) (by simpa using hi) (by simpa using hci)
      simpa using this) h hw
    have h1 := dem_ge hxU l _ hdU hok'
    have h2 : dstep x d v ≤ w := Int.le_trans h1 h
    have hce : ceilV x v.period = (x - 1) / v.period + 1 := by
      unfold ceilV
      rw [if_neg (by omega), if_neg (by omega)]
    have h0 := hc 0 (by simp) (by simp)
    simp only [List.getElem_cons_zero] at h0
    have h3 := Int.mul_le_mul_of_nonneg_left h0 hv.1.1
    unfold dstep satA satM at h2 ih
    rw [hce] at h2 ih
    simp only [tot]
    have := hd.1
    omega
structure WOk (l : List Ld) : Prop where
  n : 1 ≤ l.length ∧ l.length ≤ 8
  b : ∀ v ∈ l, 1 ≤ v.cost ∧ v.cost ≤ 1000 ∧ 1 ≤ v.period ∧ v.period ≤ 1000
theorem WOk.lok {l : List Ld} (h : WOk l) : LOk l := fun v hv => by have := h.b v hv; exact ⟨⟨by omega, by omega⟩, ⟨by omega, by omega⟩⟩
/-- what is known at tick t -/
structure WI (l : List Ld) (d t left : Int) (ns az : List Int) (cs : List Nat) : Prop where
  n1 : ns.length = l.length
  n2 : az.length = l.length
  n3 : cs.length = l.length
  sum : left + t = d + tot l cs
  left : 0 ≤ left
  each : ∀ (i : Nat) (h1 : i < l.length) (h2 : i < ns.length) (h3 : i < az.length) (h4 : i < cs.length), (cs[i] : Int) * l[i].period ≤ ns[i] ∧ 0 ≤ ns[i] ∧ ns[i] ≤ 2100 ∧ 0 ≤ az[i] ∧ az[i] ≤ cs[i] + 1 ∧ (cs[i] : Int) ≤ t / l[i].period + 1
theorem tot_le {l : List Ld} (h : ∀ v ∈ l, 0 ≤ v.cost ∧ v.cost ≤ 1000) {m : Nat} : ∀ (cs : List Nat), (∀ c ∈ cs, c ≤ m) → 0 ≤ tot l cs ∧ tot l cs ≤ 1000 * m * l.length := by
  induction l with
  | nil => intro cs _; simp [tot]
  | cons w l ih =>
    intro cs hc
    cases cs with
    | nil => simp only [tot]; exact ⟨Int.le_refl _, Int.mul_nonneg (by omega) (by omega)⟩
    | cons c cs =>
      have h1 := ih (fun v hv => h v (by simp [hv])) cs fun c hc' => hc c (by simp [hc'])
      have h2 := hc c (by simp)
      have hw := h w (by simp)
      have h3 := Int.mul_nonneg hw.1 (show (0 : Int) ≤ c by omega)
      have h4 := Int.mul_le_mul hw.2 (show (c : Int) ≤ m by omega) (by omega) (by omega)
      simp only [tot, List.length_cons]
      have e : (1000 * (m : Int)) * ((l.length + 1 : Nat) : Int) = 1000 * m * l.length + 1000 * m := by rw [Int.natCast_add, Int.mul_add]; simp
      omega
abbrev encI : Int → List Value := fun z => [.int .i64 z]
section works
variable {h0 : Hp} {ls gs : Sl} {l : List Ld} {ss : List Sl} {d w : Int}
theorem bw30 (hl : RdE h0.size h0 Ld.enc 2 ls l) (hg : RdE h0.size h0 encS 1 gs ss) (hgo : ∀ s ∈ ss, ∃ zs, RdI h0.size h0 .u8 s zs) (hw : WOk l) (hd : 0 ≤ d ∧ d ≤ 255) (hwin : 1 ≤ w ∧ w ≤ 800 ∧ dem d l w ≤ w) {nx at_ : Sl} {t : Int} (ht : 0 ≤ t ∧ t < w)
    (hnext : ∀ (h : Hp) (left : Int) (ns az : List Int) (cs : List Nat), t + 1 < w → WI l d (t + 1) left ns az cs → Sep h0 h [aRow encU 1 nx ns, aRow encI 1 at_ az] → K_signalboxlaw25_BusyWorks_27 ls gs w left nx at_ (t + 1) h (WFin h0)) : ∀ (e j : Nat) (h : Hp) (left : Int) (ns az : List Int) (cs : List Nat), j + e = l.length → WI l d t left ns az cs → Sep h0 h [aRow encU 1 nx ns, aRow encI 1 at_ az] →
    K_signalboxlaw25_BusyWorks_30 ls gs w left nx at_ t ls (ls.n : Int) (j : Int) h (WFin h0)
  | 0, j, h, left, ns, az, cs, hj, hI, hs => by
    have hln := hl.n
    have hsum := hI.sum
    have hleft := hI.left
    apply S_signalboxlaw25_BusyWorks_30
    unfold B_signalboxlaw25_BusyWorks_30
    rw [decide_eq_false (by omega), mIf_false]
    refine mIf_intro (fun _ => ⟨rfl, hs.under⟩) (fun h1 => ?_)
    have h1 : ¬ left = 0 := by simpa using h1
    have hcs : ∀ c ∈ cs, c ≤ 801 := by
      intro c hc
      obtain ⟨i, hi, rfl⟩ := List.getElem_of_mem hc
      have n1 := hI.n1; have n2 := hI.n2; have n3 := hI.n3
      have := (hI.each i (by omega) (by omega) (by omega) hi).2.2.2.2.2
      have hp := hw.b l[i] (List.getElem_mem (by omega))
      have := Int.ediv_le_self l[i].period ht.1
      omega
    have htl := tot_le (l := l) (fun v hv => by have := hw.b v hv; omega) (m := 801) cs hcs
    have hn8 := hw.n
    have htl2 : tot l cs ≤ 7000000 := by omega
    rw [wrapu64 (left - 1) (by omega)]
    refine mIf_intro (fun _ => ⟨rfl, hs.under⟩) (fun h2 => ?_)
    have h2 : ¬ left - 1 = 0 := by simpa using h2
    rw [wrapu64 (t + 1) (by omega)]
    by_cases htw : t + 1 < w
    · refine hnext h (left - 1) ns az cs htw ⟨hI.n1, hI.n2, hI.n3, by omega, by omega, fun i h1 h2 h3 h4 => ?_⟩ hs
      have := hI.each i h1 h2 h3 h4
      have hp := hw.b l[i] (List.getElem_mem h1)
      have h5 := Int.ediv_le_ediv (show 0 < l[i].period by omega) (show t ≤ t + 1 by omega)
      omega
    · -- by then all is done
      exfalso
      have htw : t = w - 1 := by omega
      have := tot_dem w ⟨hwin.1, by omega⟩ l cs d w hI.n3 ⟨by omega, by omega⟩ hw.lok (fun v hv => (hw.b v hv).2.2.1) (fun i hi hc => by
        have n1 := hI.n1; have n2 := hI.n2
        have := (hI.each i hi (by omega) (by omega) hc).2.2.2.2.2
        rw [htw] at this
        exact this) hwin.2.2 (by omega)
      omega
  | e + 1, j, h, left, ns, az, cs, hj, hI, hs => by
    have ih := bw30 hl hg hgo hw hd hwin ht hnext e (j + 1)
    have hln := hl.n
    have hgn := hg.n
    have n1 := hI.n1; have n2 := hI.n2; have n3 := hI.n3
    have hjl : j < l.length := by omega
    have hsum := hI.sum
    have hleft := hI.left
    have hE := hI.each j hjl (by omega) (by omega) (by omega)
    have hp := hw.b l[j] (List.getElem_mem hjl)
    have hrn := hs.rowLen 0 rfl
    have hra := hs.rowLen 1 rfl
    have hn8 := hw.n
    apply S_signalboxlaw25_BusyWorks_30
    unfold B_signalboxlaw25_BusyWorks_30
    (rw [decide_eq_true (by omega), mIf_true]; refine Sep.argEn hs hl (by first | omega | (simp only [List.length_set, List.length_map, List.length_replicate, List.length_append, List.length_cons, List.length_nil, List.length_reverse, List.length_range]; omega) | (simp; omega)) fun aa haa => ?_; refine Arg.ldI0 haa rfl ?_; refine Arg.ldI haa rfl ?_; (refine Sep.new hs fun nb h hs => ?_; try simp only [List.toList_toArray] at hs); (refine Sep.st hs 0 rfl rfl rfl fun h hs => ?_; simp only [List.set_cons_zero, List.set_cons_succ] at hs); (refine Sep.st hs 0 rfl rfl rfl fun h hs => ?_; simp only [List.set_cons_zero, List.set_cons_succ] at hs); (refine Sep.idx hs 1 rfl (by first | omega | (simp only [List.length_set, List.length_map, List.length_replicate, List.length_append, List.length_cons, List.length_nil, List.length_reverse, List.length_range]; omega) | (simp; omega)) (by first | omega | (simp only [List.length_set, List.length_map, List.length_replicate, List.length_append, List.length_cons, List.length_nil, List.length_reverse, List.length_range]; omega) | (simp; omega)) fun aa_1 haa_1 => ?_; try simp only [Int.toNat_natCast] at haa_1); refine Sep.rldI0 hs 1 rfl (fun _ => rfl) haa_1 (List.getElem?_eq_getElem (by first | omega | (simp only [List.length_set, List.length_map, List.length_replicate, List.length_append, List.length_cons, List.length_nil, List.length_reverse, List.length_range]; omega) | (simp; omega))) rfl ?_; simp only [add_mk, Nat.zero_add])
    refine mIf_intro (fun hc => ?_) (fun hc => ?_)
    · rw [wrap64 _ (by omega), show (j : Int) + 1 = ((j + 1 : Nat) : Int) by omega]
      exact ih h left ns az cs (by omega) hI hs.drop
    · have hc : ns[j] = t := by simpa using hc
      have hcs : ∀ c ∈ cs, c ≤ 801 := by
        intro c hc
        obtain ⟨i, hi, rfl⟩ := List.getElem_of_mem hc
        have := (hI.each i (by omega) (by omega) (by omega) hi).2.2.2.2.2
        have hp := hw.b l[i] (List.getElem_mem (by omega))
        have := Int.ediv_le_self l[i].period ht.1
        omega
      have hcj := hcs cs[j] (List.getElem_mem (by omega))
      have htl := tot_le (l := l) (fun v hv => by have := hw.b v hv; omega) (m := 801) cs hcs
      have htl2 : tot l cs ≤ 7000000 := by omega
      have hset := tot_set l cs j hjl (by omega)
      (refine Sep.ldI hs 0 rfl rfl ?_; (refine Sep.idx hs 1 rfl (by first | omega | (simp only [List.length_set, List.length_map, List.length_replicate, List.length_append, List.length_cons, List.length_nil, List.length_reverse, List.length_range]; omega) | (simp; omega)) (by first | omega | (simp only [List.length_set, List.length_map, List.length_replicate, List.length_append, List.length_cons, List.length_nil, List.length_reverse, List.length_range]; omega) | (simp; omega)) fun aa_2 haa_2 => ?_; try simp only [Int.toNat_natCast] at haa_2); refine Sep.rldI0 hs 1 rfl (fun _ => rfl) haa_2 (List.getElem?_eq_getElem (by first | omega | (simp only [List.length_set, List.length_map, List.length_replicate, List.length_append, List.length_cons, List.length_nil, List.length_reverse, List.length_range]; omega) | (simp; omega))) rfl ?_; refine Sep.ldI hs 0 rfl rfl ?_; (refine Sep.idx hs 1 rfl (by first | omega | (simp only [List.length_set, List.length_map, List.length_replicate, List.length_append, List.length_cons, List.length_nil, List.length_reverse, List.length_range]; omega) | (simp; omega)) (by first | omega | (simp only [List.length_set, List.length_map, List.length_replicate, List.length_append, List.length_cons, List.length_nil, List.length_reverse, List.length_range]; omega) | (simp; omega)) fun aa_3 haa_3 => ?_; try simp only [Int.toNat_natCast] at haa_3); (refine Sep.ist hs 1 rfl haa_3 (by first | omega | (simp only [List.length_set, List.length_map, List.length_replicate, List.length_append, List.length_cons, List.length_nil, List.length_reverse, List.length_range]; omega) | (simp; omega)) fun h hs => ?_; simp only [List.set_cons_zero, List.set_cons_succ] at hs); simp only [mBind_ap])
      rw [hc, wrapu64 (t + l[j].period) (by omega)] at hs
      rw [wrapu64 (left + l[j].cost) (by omega)]
      -- one more job
      have hcp : (cs[j] : Int) ≤ t / l[j].period := by
        have : (cs[j] : Int) * l[j].period ≤ t := by rw [← hc]; exact hE.1
        exact Int.le_ediv_of_mul_le (by omega) this
      have more : ∀ (g a : Int), 0 ≤ g → g ≤ 255 → 0 ≤ a → a ≤ (cs[j] : Int) + 2 → ∀ (h : Hp), Sep h0 h [aRow encU 1 nx (ns.set j (t + l[j].period + g)), aRow encI 1 at_ (az.set j a)] →
          K_signalboxlaw25_BusyWorks_30 ls gs w (left + l[j].cost) nx at_ t ls (ls.n : Int) (IntKind.i64.wrap ((j : Int) + 1)) h (WFin h0) := by
        intro g a g0 g1 a0 a1 h hs
        rw [wrap64 _ (by omega), show (j : Int) + 1 = ((j + 1 : Nat) : Int) by omega]
        refine ih h _ _ _ (cs.set j (cs[j] + 1)) (by omega) ⟨by simpa using n1, by simpa using n2, by simpa using n3, by rw [hset]; omega, by omega, fun i h1 h2 h3 h4 => ?_⟩ hs
        simp only [List.length_set] at h2 h3 h4
        rw [List.getElem_set, List.getElem_set, List.getElem_set]
        by_cases hij : j = i
        · subst hij
          rw [if_pos rfl, if_pos rfl, if_pos rfl]
          have e1 : ((cs[j] + 1 : Nat) : Int) * l[j].period = (cs[j] : Int) * l[j].period + l[j].period := by rw [Int.natCast_add, Int.add_mul]; simp
          have : (cs[j] : Int) * l[j].period ≤ t := by rw [← hc]; exact hE.1
          omega
        · rw [if_neg hij, if_neg hij, if_neg hij]
          exact hI.each i h1 h2 h3 h4
      refine mIf_dec (fun hgl => ?_) (fun hgl => ?_)
      · have hjs : j < ss.length := by omega
        obtain ⟨zs, hz⟩ := hgo ss[j] (List.getElem_mem hjs)
        have hzn := hz.n
        ((refine Sep.idx hs 2 rfl (by first | omega | (simp only [List.length_set, List.length_map, List.length_replicate, List.length_append, List.length_cons, List.length_nil, List.length_reverse, List.length_range]; omega) | (simp; omega)) (by first | omega | (simp only [List.length_set, List.length_map, List.length_replicate, List.length_append, List.length_cons, List.length_nil, List.length_reverse, List.length_range]; omega) | (simp; omega)) fun aa_4 haa_4 => ?_; try simp only [Int.toNat_natCast] at haa_4); refine Sep.rldI0 hs 2 rfl (fun _ => rfl) haa_4 (List.getElem?_eq_getElem (by first | omega | (simp only [List.length_set, List.length_map, List.length_replicate, List.length_append, List.length_cons, List.length_nil, List.length_reverse, List.length_range]; omega) | (simp; omega))) rfl ?_; refine Sep.argEn hs hg (by first | omega | (simp only [List.length_set, List.length_map, List.length_replicate, List.length_append, List.length_cons, List.length_nil, List.length_reverse, List.length_range]; omega) | (simp; omega)) fun aa_5 haa_5 => ?_; refine Arg.ldL0 haa_5 rfl ?_; rw [mRet_ap]; simp only)
        refine mIf_dec (fun hal => ?_) (fun hal => ?_)
        · obtain ⟨k, hk⟩ : ∃ k : Nat, az[j] = k := ⟨az[j].toNat, by omega⟩
          have hkz : k < zs.length := by omega
          have hzk := hz.wf zs[k] (List.getElem_mem hkz)
          rw [show IntKind.u8.min = 0 by decide, show IntKind.u8.max = 255 by decide] at hzk
          ((refine Sep.idx hs 1 rfl (by first | omega | (simp only [List.length_set, List.length_map, List.length_replicate, List.length_append, List.length_cons, List.length_nil, List.length_reverse, List.length_range]; omega) | (simp; omega)) (by first | omega | (simp only [List.length_set, List.length_map, List.length_replicate, List.length_append, List.length_cons, List.length_nil, List.length_reverse, List.length_range]; omega) | (simp; omega)) fun aa_6 haa_6 => ?_; try simp only [Int.toNat_natCast] at haa_6); refine Sep.rldI0 hs 1 rfl (fun _ => rfl) haa_6 (List.getElem?_eq_getElem (by first | omega | (simp only [List.length_set, List.length_map, List.length_replicate, List.length_append, List.length_cons, List.length_nil, List.length_reverse, List.length_range]; omega) | (simp; omega))) rfl ?_; refine Sep.argEn hs hg (by first | omega | (simp only [List.length_set, List.length_map, List.length_replicate, List.length_append, List.length_cons, List.length_nil, List.length_reverse, List.length_range]; omega) | (simp; omega)) fun aa_7 haa_7 => ?_; refine Arg.ldL0 haa_7 rfl ?_; (refine Sep.idx hs 2 rfl (by first | omega | (simp only [List.length_set, List.length_map, List.length_replicate, List.length_append, List.length_cons, List.length_nil, List.length_reverse, List.length_range]; omega) | (simp; omega)) (by first | omega | (simp only [List.length_set, List.length_map, List.length_replicate, List.length_append, List.length_cons, List.length_nil, List.length_reverse, List.length_range]; omega) | (simp; omega)) fun aa_8 haa_8 => ?_; try simp only [Int.toNat_natCast] at haa_8); refine Sep.rldI0 hs 2 rfl (fun _ => rfl) haa_8 (List.getElem?_eq_getElem (by first | omega | (simp only [List.length_set, List.length_map, List.length_replicate, List.length_append, List.length_cons, List.length_nil, List.length_reverse, List.length_range]; omega) | (simp; omega))) rfl ?_)
          rw [hk]
          (skip)
          refine hs.argIn hz hkz ?_
          rw [List.getElem_set_self, wrapu64 zs[k] (by omega), wrapu64 (t + l[j].period + zs[k]) (by omega)]
          ((refine Sep.idx hs 1 rfl (by first | omega | (simp only [List.length_set, List.length_map, List.length_replicate, List.length_append, List.length_cons, List.length_nil, List.length_reverse, List.length_range]; omega) | (simp; omega)) (by first | omega | (simp only [List.length_set, List.length_map, List.length_replicate, List.length_append, List.length_cons, List.length_nil, List.length_reverse, List.length_range]; omega) | (simp; omega)) fun aa_9 haa_9 => ?_; try simp only [Int.toNat_natCast] at haa_9); (refine Sep.ist hs 1 rfl haa_9 (by first | omega | (simp only [List.length_set, List.length_map, List.length_replicate, List.length_append, List.length_cons, List.length_nil, List.length_reverse, List.length_range]; omega) | (simp; omega)) fun h hs => ?_; simp only [List.set_cons_zero, List.set_cons_succ] at hs); (refine Sep.idx hs 2 rfl (by first | omega | (simp only [List.length_set, List.length_map, List.length_replicate, List.length_append, List.length_cons, List.length_nil, List.length_reverse, List.length_range]; omega) | (simp; omega)) (by first | omega | (simp only [List.length_set, List.length_map, List.length_replicate, List.length_append, List.length_cons, List.length_nil, List.length_reverse, List.length_range]; omega) | (simp; omega)) fun aa_10 haa_10 => ?_; try simp only [Int.toNat_natCast] at haa_10); refine Sep.rldI0 hs 2 rfl (fun _ => rfl) haa_10 (List.getElem?_eq_getElem (by first | omega | (simp only [List.length_set, List.length_map, List.length_replicate, List.length_append, List.length_cons, List.length_nil, List.length_reverse, List.length_range]; omega) | (simp; omega))) rfl ?_; (refine Sep.idx hs 2 rfl (by first | omega | (simp only [List.length_set, List.length_map, List.length_replicate, List.length_append, List.length_cons, List.length_nil, List.length_reverse, List.length_range]; omega) | (simp; omega)) (by first | omega | (simp only [List.length_set, List.length_map, List.length_replicate, List.length_append, List.length_cons, List.length_nil, List.length_reverse, List.length_range]; omega) | (simp; omega)) fun aa_11 haa_11 => ?_; try simp only [Int.toNat_natCast] at haa_11); (refine Sep.ist hs 2 rfl haa_11 (by first | omega | (simp only [List.length_set, List.length_map, List.length_replicate, List.length_append, List.length_cons, List.length_nil, List.length_reverse, List.length_range]; omega) | (simp; omega)) fun h hs => ?_; simp only [List.set_cons_zero, List.set_cons_succ] at hs))
          rw [hk, wrap64 ((k : Int) + 1) (by omega), List.set_set] at hs
          exact more zs[k] ((k : Int) + 1) hzk.1 hzk.2 (by omega) (by omega) h hs.drop
        · have := more 0 az[j] (by omega) (by omega) (by omega) (by omega) h
          rw [Int.add_zero, List.set_getElem_self] at this
          exact this (by simpa using hs.drop)
      · have := more 0 az[j] (by omega) (by omega) (by omega) (by omega) h
        rw [Int.add_zero, List.set_getElem_self] at this
        exact this (by simpa using hs.drop)
theorem bw27 (hl : RdE h0.size h0 Ld.enc 2 ls l) (hg : RdE h0.size h0 encS 1 gs ss) (hgo : ∀ s ∈ ss, ∃ zs, RdI h0.size h0 .u8 s zs) (hw : WOk l) (hd : 0 ≤ d ∧ d ≤ 255) (hwin : 1 ≤ w ∧ w ≤ 800 ∧ dem d l w ≤ w) {nx at_ : Sl} : ∀ (e : Nat) (t : Int) (h : Hp) (left : Int) (ns az : List Int) (cs : List Nat), 0 ≤ t → t < w → w - t ≤ e → WI l d t left ns az cs → Sep h0 h [aRow encU 1 nx ns, aRow encI 1 at_ az] →
    K_signalboxlaw25_BusyWorks_27 ls gs w left nx at_ t h (WFin h0)
  | 0, t, h, left, ns, az, cs, t0, t1, he, _, _ => by omega
  | e + 1, t, h, left, ns, az, cs, t0, t1, he, hI, hs => by
    have ih := bw27 hl hg hgo hw hd hwin (nx := nx) (at_ := at_) e (t + 1)
    apply S_signalboxlaw25_BusyWorks_27
    unfold B_signalboxlaw25_BusyWorks_27
    rw [decide_eq_true t1, mIf_true]
    exact bw30 hl hg hgo hw hd hwin ⟨t0, t1⟩ (fun h left ns az cs h1 hI hs => ih h left ns az cs (by omega) h1 (by omega) hI hs) l.length 0 h left ns az cs (by omega) hI hs
theorem bw18 (hl : RdE h0.size h0 Ld.enc 2 ls l) (hg : RdE h0.size h0 encS 1 gs ss) (hgo : ∀ s ∈ ss, ∃ zs, RdI h0.size h0 .u8 s zs) (hw : WOk l) (hd : 0 ≤ d ∧ d ≤ 255) (hwin : 1 ≤ w ∧ w ≤ 800 ∧ dem d l w ≤ w) {nx at_ : Sl} : ∀ (e j : Nat) (h : Hp) (ns az : List Int), j + e = l.length → WI l d 0 d ns az (List.replicate l.length 0) → Sep h0 h [aRow encU 1 nx ns, aRow encI 1 at_ az] →
    K_signalboxlaw25_BusyWorks_18 ls gs w d nx at_ (ls.n : Int) (j : Int) h (WFin h0)
  | 0, j, h, ns, az, hj, hI, hs => by
    have hln := hl.n
    have n1 := hI.n1
    have hn8 := hw.n
    have hrn := hs.rowLen 0 rfl
    have ht0 := tot_zero l l.length
    apply S_signalboxlaw25_BusyWorks_18
    unfold B_signalboxlaw25_BusyWorks_18
    rw [decide_eq_false (by omega), mIf_false]
    have go := fun h ns => bw27 hl hg hgo hw hd hwin (nx := nx) (at_ := at_) w.toNat 0 h d ns az (List.replicate l.length 0) (by omega) (by omega) (by omega)
    refine mIf_intro (fun hc => ?_) (fun hc => ?_)
    · refine hs.idx 0 rfl (by omega) (by omega) fun aa haa => ?_
      refine hs.ist 0 rfl haa (by show 0 < _; omega) fun h hs => ?_
      simp only [List.set_cons_zero] at hs
      refine go h (ns.set 0 0) ⟨by simpa using n1, hI.n2, hI.n3, by omega, by omega, fun i h1 h2 h3 h4 => ?_⟩ hs
      have := hI.each i h1 (by simpa using h2) h3 h4
      simp only [List.getElem_replicate] at this ⊢
      rw [List.getElem_set]
      by_cases h0i : 0 = i
      · rw [if_pos h0i]; omega
      · rw [if_neg h0i]; exact this
    · exact go h ns hI hs
  | e + 1, j, h, ns, az, hj, hI, hs => by
    have ih := bw18 hl hg hgo hw hd hwin (nx := nx) (at_ := at_) e (j + 1)
    have hln := hl.n
    have hgn := hg.n
    have n1 := hI.n1; have n2 := hI.n2
    have hn8 := hw.n
    have hjl : j < l.length := by omega
    have hrn := hs.rowLen 0 rfl
    have hra := hs.rowLen 1 rfl
    apply S_signalboxlaw25_BusyWorks_18
    unfold B_signalboxlaw25_BusyWorks_18
    have skip : K_signalboxlaw25_BusyWorks_18 ls gs w d nx at_ (ls.n : Int) (IntKind.i64.wrap ((j : Int) + 1)) h (WFin h0) := by
      rw [wrap64 _ (by omega), show (j : Int) + 1 = ((j + 1 : Nat) : Int) by omega]
      exact ih h ns az (by omega) hI hs
    rw [decide_eq_true (by omega), mIf_true, mBind_ap]
    refine mIf_dec (fun hgl => ?_) (fun hgl => ?_)
    · have hjs : j < ss.length := by omega
      obtain ⟨zs, hz⟩ := hgo ss[j] (List.getElem_mem hjs)
      have hzn := hz.n
      (refine Sep.argEn hs hg (by first | omega | (simp only [List.length_set, List.length_map, List.length_replicate, List.length_append, List.length_cons, List.length_nil, List.length_reverse, List.length_range]; omega) | (simp; omega)) fun aa haa => ?_; refine Arg.ldL0 haa rfl ?_; rw [mRet_ap]; simp only)
      refine mIf_dec (fun hal => ?_) (fun hal => ?_)
      · have hkz : 0 < zs.length := by omega
        have hzk := hz.wf zs[0] (List.getElem_mem hkz)
        rw [show IntKind.u8.min = 0 by decide, show IntKind.u8.max = 255 by decide] at hzk
        (refine Sep.argEn hs hg (by first | omega | (simp only [List.length_set, List.length_map, List.length_replicate, List.length_append, List.length_cons, List.length_nil, List.length_reverse, List.length_range]; omega) | (simp; omega)) fun aa_1 haa_1 => ?_; refine Arg.ldL0 haa_1 rfl ?_)
        refine hs.argIn hz (j := 0) hkz ?_
        rw [wrapu64 zs[0] (by omega)]
        ((refine Sep.idx hs 0 rfl (by first | omega | (simp only [List.length_set, List.length_map, List.length_replicate, List.length_append, List.length_cons, List.length_nil, List.length_reverse, List.length_range]; omega) | (simp; omega)) (by first | omega | (simp only [List.length_set, List.length_map, List.length_replicate, List.length_append, List.length_cons, List.length_nil, List.length_reverse, List.length_range]; omega) | (simp; omega)) fun aa_2 haa_2 => ?_; try simp only [Int.toNat_natCast] at haa_2); (refine Sep.ist hs 0 rfl haa_2 (by first | omega | (simp only [List.length_set, List.length_map, List.length_replicate, List.length_append, List.length_cons, List.length_nil, List.length_reverse, List.length_range]; omega) | (simp; omega)) fun h hs => ?_; simp only [List.set_cons_zero, List.set_cons_succ] at hs); (refine Sep.idx hs 1 rfl (by first | omega | (simp only [List.length_set, List.length_map, List.length_replicate, List.length_append, List.length_cons, List.length_nil, List.length_reverse, List.length_range]; omega) | (simp; omega)) (by first | omega | (simp only [List.length_set, List.length_map, List.length_replicate, List.length_append, List.length_cons, List.length_nil, List.length_reverse, List.length_range]; omega) | (simp; omega)) fun aa_3 haa_3 => ?_; try simp only [Int.toNat_natCast] at haa_3); (refine Sep.ist hs 1 rfl haa_3 (by first | omega | (simp only [List.length_set, List.length_map, List.length_replicate, List.length_append, List.length_cons, List.length_nil, List.length_reverse, List.length_range]; omega) | (simp; omega)) fun h hs => ?_; simp only [List.set_cons_zero, List.set_cons_succ] at hs))
        rw [wrap64 _ (by omega), show (j : Int) + 1 = ((j + 1 : Nat) : Int) by omega]
        refine ih h (ns.set j zs[0]) (az.set j 1) (by omega) ⟨by simpa using n1, by simpa using n2, hI.n3, hI.sum, hI.left, fun i h1 h2 h3 h4 => ?_⟩ hs
        have := hI.each i h1 (by simpa using h2) (by simpa using h3) h4
        simp only [List.getElem_replicate] at this ⊢
        rw [List.getElem_set, List.getElem_set]
        by_cases hij : j = i
        · rw [if_pos hij, if_pos hij]; omega
        · rw [if_neg hij, if_neg hij]; exact this
      · exact skip
    · (rw [mRet_ap]; simp only [mIf_false])
      exact skip
theorem bw6 (hl : RdE h0.size h0 Ld.enc 2 ls l) (hlo : ∀ x ∈ l, x.ok h0) (hg : RdE h0.size h0 encS 1 gs ss) (hgo : ∀ s ∈ ss, ∃ zs, RdI h0.size h0 .u8 s zs) (hn : 1 ≤ l.length ∧ l.length ≤ 8) (hd : 0 ≤ d ∧ d ≤ 255) : ∀ (e j : Nat) (h : Hp), j + e = l.length → (∀ v ∈ l.take j, 1 ≤ v.cost ∧ v.cost ≤ 1000 ∧ 1 ≤ v.period ∧ v.period ≤ 1000) → Sep h0 h [] →
    K_signalboxlaw25_BusyWorks_6 d ls gs ls (ls.n : Int) (j : Int) h (WFin h0)
  | 0, j, h, hj, hb, hs => by
    have hln := hl.n
    rw [List.take_of_length_le (by omega)] at hb
    have hw : WOk l := ⟨hn, hb⟩
    apply S_signalboxlaw25_BusyWorks_6
    unfold B_signalboxlaw25_BusyWorks_6
    rw [decide_eq_false (by omega), mIf_false, wrapu64 d (by omega), mBind_ap]
    refine (Window_s hs hl (by omega) hw.lok (d := d) ⟨by omega, by omega⟩ (m := 800) ⟨by omega, by omega⟩).mono ?_
    rintro v h ⟨⟨w, ok, rfl, hwin⟩, hs⟩
    simp only [un2_tuple, unI_int, unB_bool]
    cases ok with
    | false => exact ⟨rfl, hs.under⟩
    | true =>
      simp only [Bool.not_true, mIf_false]
      rcases hwin with ⟨_, w1, w2, w3, _⟩ | ⟨h, _⟩
      · refine hs.make encU 1 0 rfl (by omega) (by omega) (by omega) fun nx h hsn hs => ?_
        refine hs.make encI 1 0 rfl (by omega) (by omega) (by omega) fun at_ h hsn2 hs => ?_
        rw [hln, Int.toNat_natCast] at hs
        refine bw18 hl hg hgo hw hd ⟨w1, w2, w3⟩ l.length 0 h (List.replicate l.length 0) (List.replicate l.length 0) (by omega) ⟨by simp, by simp, by simp, by rw [tot_zero], hd.1, fun i h1 h2 h3 h4 => ?_⟩ hs.swap
        simp only [List.getElem_replicate]
        have hp := hw.b l[i] (List.getElem_mem h1)
        have := Int.ediv_nonneg (show (0 : Int) ≤ 0 by omega) (show 0 ≤ l[i].period by omega)
        simp
      · cases h
  | e + 1, j, h, hj, hb, hs => by
    have ih := bw6 hl hlo hg hgo hn hd e (j + 1)
    have hln := hl.n
    have hjl : j < l.length := by omega
    have ho := hlo l[j] (List.getElem_mem hjl)
    obtain ⟨⟨o1, o2⟩, o3, o4⟩ := ho
    apply S_signalboxlaw25_BusyWorks_6
    unfold B_signalboxlaw25_BusyWorks_6
    (rw [decide_eq_true (by omega), mIf_true]; refine Sep.argEn hs hl (by first | omega | (simp only [List.length_set, List.length_map, List.length_replicate, List.length_append, List.length_cons, List.length_nil, List.length_reverse, List.length_range]; omega) | (simp; omega)) fun aa haa => ?_; refine Arg.ldI0 haa rfl ?_; refine Arg.ldI haa rfl ?_; (refine Sep.new hs fun nb h hs => ?_; try simp only [List.toList_toArray] at hs); (refine Sep.st hs 0 rfl rfl rfl fun h hs => ?_; simp only [List.set_cons_zero, List.set_cons_succ] at hs); (refine Sep.st hs 0 rfl rfl rfl fun h hs => ?_; simp only [List.set_cons_zero, List.set_cons_succ] at hs); refine Sep.ldI hs 0 rfl rfl ?_; simp only [add_mk, Nat.zero_add, mBind_ap])
    by_cases h1 : l[j].cost = 0
    · refine mIf_pos (by simp [h1]) ?_
      (rw [mRet_ap]; simp only [mIf_true]; rw [mRet_ap]; simp only [mIf_true]; rw [mRet_ap]; simp only [mIf_true])
      exact ⟨rfl, hs.under⟩
    refine mIf_neg (by simp [h1]) ?_
    (refine Sep.ldI hs 0 rfl rfl ?_; rw [mRet_ap])
    by_cases h2 : l[j].period = 0
    · refine mIf_pos (by simp [h2]) ?_
      (rw [mRet_ap]; simp only [mIf_true]; rw [mRet_ap]; simp only [mIf_true])
      exact ⟨rfl, hs.under⟩
    refine mIf_neg (by simp [h2]) ?_
    (refine Sep.ldI hs 0 rfl rfl ?_; rw [mRet_ap])
    by_cases h3 : l[j].cost > 1000
    · (rw [decide_eq_true (by omega), mIf_true]; rw [mRet_ap]; simp only [mIf_true])
      exact ⟨rfl, hs.under⟩
    by_cases h4 : l[j].period > 1000
    · (rw [decide_eq_false (by omega), mIf_false]; refine Sep.ldI hs 0 rfl rfl ?_; rw [mRet_ap]; rw [decide_eq_true (by omega), mIf_true])
      exact ⟨rfl, hs.under⟩
    (rw [decide_eq_false (by omega), mIf_false]; refine Sep.ldI hs 0 rfl rfl ?_; rw [mRet_ap]; rw [decide_eq_false (by omega), mIf_false])
    rw [wrap64 _ (by omega), show (j : Int) + 1 = ((j + 1 : Nat) : Int) by omega]
    refine ih h (by omega) (fun v hv => ?_) hs.drop
    rw [List.take_succ_eq_append_getElem hjl] at hv
    rcases List.mem_append.1 hv with hv | hv
    · exact hb v hv
    · rw [List.mem_singleton] at hv
      subst hv
      omega
theorem BusyWorks_ok (hd : 0 ≤ d ∧ d ≤ 255) (hl : RdE h0.size h0 Ld.enc 2 ls l) (hlo : ∀ x ∈ l, x.ok h0) (hg : RdE h0.size h0 encS 1 gs ss) (hgo : ∀ s ∈ ss, ∃ zs, RdI h0.size h0 .u8 s zs) : N_signalboxlaw25_BusyWorks d ls gs h0 (WFin h0) := by
  have hln := hl.n
  have hgn := hg.n
  apply S_signalboxlaw25_BusyWorks
  unfold B_signalboxlaw25_BusyWorks
  rw [mBind_ap]
  refine (bfixed_s (Sep.init h0)).mono ?_
  rintro v h ⟨rfl, hs⟩
  (simp only [unB_bool, Bool.not_true, mIf_false])
  refine mIf_intro (fun _ => ⟨rfl, hs.under⟩) (fun hc => ?_)
  have hc : 1 ≤ l.length ∧ l.length ≤ 8 := by simp at hc; omega
  exact bw6 hl hlo hg hgo hc hd l.length 0 h (by omega) (by simp) hs
end works
end Go.Proofs.Ytjifoicncenfpaa
