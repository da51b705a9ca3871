/- Monitor: the law MonitorFlags. Conditions: none. -/
import Derived.Test.YtkoenpliddhhoaaMonQ
import Derived.Test.YtkoenpliddhhoaaSbW
namespace Go.Proofs.Ytkoenpliddhhoaa
open Go Go.Sb
set_option linter.unusedSimpArgs false
set_option linter.unusedVariables false

section flags
variable {h0 : Hp} {c : Conf} {ts : List CTask} {ls : Sl} {l : List Rec} {task : Int} {cb : Nat}
def MFLoop (h0 : Hp) (cb : Nat) (c : Conf) (ts : List CTask) (ls : Sl) (l : List Rec) (task : Int) (k : Nat) : Prop := ∀ (h : Hp) (ws gs : Sl), Sep h0 h [aBlk cb c.enc, aRow Fl.enc 2 ws (soons ts l k), aRow encI 1 gs (gaps l task k)] →
  K_signalboxlaw19_MonitorFlags_8 ls task ⟨cb, 0, none⟩ ws gs ls (ls.n : Int) (k : Int) h (MFin h0)
theorem mf18 (ht : RdE h0.size h0 CTask.enc 7 c.tasks ts) {k : Nat} (hk : k < 150) (hloop : MFLoop h0 cb c ts ls l task (k + 1)) {r : Rec} {rb : Nat} {was : Int} {h : Hp} {ws gs : Sl} (hkl : k < l.length) (hr : l[k] = r) (hrel : rel r = true) (hp : prevAt (l.take k) r.task = some was)
    (hs : Sep h0 h [aBlk rb r.enc, aBlk cb c.enc, aRow Fl.enc 2 ws (soons ts l k), aRow encI 1 gs (gaps l task (k + 1))]) :
    K_signalboxlaw19_MonitorFlags_18 ls task ⟨cb, 0, none⟩ ws gs ⟨rb, 0, none⟩ (clampv r.at_ - was) ls (ls.n : Int) (k : Int) h (MFin h0) := by
  have htn := ht.n
  have hsu := soons_succ ts l hkl
  have hsl := soons_len ts l k
  rw [hr] at hsu
  have next : ∀ (h : Hp) (ws : Sl), Sep h0 h [aBlk cb c.enc, aRow Fl.enc 2 ws (soons ts l k ++ soon ts (l.take k) r), aRow encI 1 gs (gaps l task (k + 1))] →
      K_signalboxlaw19_MonitorFlags_8 ls task ⟨cb, 0, none⟩ ws gs ls (ls.n : Int) (IntKind.i64.wrap ((k : Int) + 1)) h (MFin h0) := by
    intro h ws hs
    rw [wrap64 _ (by omega), show (k : Int) + 1 = ((k + 1 : Nat) : Int) by omega]
    rw [← hsu] at hs
    exact hloop h ws gs hs
  apply S_signalboxlaw19_MonitorFlags_18
  unfold B_signalboxlaw19_MonitorFlags_18
  by_cases hin : 0 ≤ r.task ∧ r.task < ts.length
  · obtain ⟨j, hj⟩ : ∃ j : Nat, r.task = j := ⟨r.task.toNat, by omega⟩
    have hjn : j < ts.length := by omega
    have hgd : (ts.map (·.period)).getD r.task.toNat 0 = ts[j].period := by
      rw [hj, Int.toNat_natCast, List.getD_eq_getElem?_getD, List.getElem?_map, List.getElem?_eq_getElem hjn]
      rfl
    (refine Sep.ldI hs 0 rfl rfl ?_; simp only [add_mk, Nat.zero_add, mBind_ap]; rw [decide_eq_true (by omega), mIf_true]; refine Sep.ldI hs 0 rfl rfl ?_; refine Sep.ldL hs 1 rfl rfl ?_; rw [mRet_ap]; rw [decide_eq_true (by omega), mIf_true]; refine Sep.ldL hs 1 rfl rfl ?_; refine Sep.ldI hs 0 rfl rfl ?_)
    rw [hj]
    (refine Sep.argEn hs ht (by first | omega | (simp only [List.length_set, List.length_map, List.length_replicate, List.length_append, List.length_cons, List.length_nil, List.length_reverse, List.length_range]; omega) | (simp; omega)) fun aa haa => ?_; refine Arg.ldI haa rfl ?_; simp only [mBind_ap])
    refine (lclamp_q _ _).mono ?_
    rintro v h' ⟨rfl, rfl⟩
    (simp only [unI_int]; rw [mRet_ap])
    refine mIf_dec (fun hc => ?_) (fun hc => ?_)
    · have hsn : soon ts (l.take k) r = [⟨r.at_, r.task⟩] := by
        unfold soon; rw [hrel, hp, hgd]
        simp only [if_true]
        rw [if_pos ⟨hin.1, hin.2, hc⟩]
      rw [hsn] at next
      (refine Sep.ldI hs 0 rfl rfl ?_; refine Sep.ldI hs 0 rfl rfl ?_; (refine Sep.new hs fun nb h hs => ?_; try simp only [List.toList_toArray] at hs))
      refine hs.app1 3 0 ⟨r.at_, r.task⟩ rfl rfl (fun _ => rfl) (by simp [Fl.enc, Value.oneCell']) rfl (by omega) (by omega) fun s' h hn' hs => ?_
      simp only [List.set_cons_zero, List.set_cons_succ] at hs
      exact next h s' hs.drop.drop
    · have hsn : soon ts (l.take k) r = [] := by
        unfold soon; rw [hrel, hp, hgd]
        simp only [if_true]
        rw [if_neg (fun h => hc h.2.2)]
      rw [hsn, List.append_nil] at next
      exact next _ ws hs.drop
  · have hsn : soon ts (l.take k) r = [] := by
      unfold soon; rw [hrel, hp]
      simp only [if_true]
      rw [if_neg (fun h => hin ⟨h.1, h.2.1⟩)]
    rw [hsn, List.append_nil] at next
    by_cases hneg : r.task < 0
    · (refine Sep.ldI hs 0 rfl rfl ?_; simp only [add_mk, Nat.zero_add, mBind_ap]; rw [decide_eq_false (by omega), mIf_false]; rw [mRet_ap]; simp only [mIf_false]; rw [mRet_ap]; simp only [mIf_false])
      exact next _ ws hs.drop
    · (refine Sep.ldI hs 0 rfl rfl ?_; simp only [add_mk, Nat.zero_add, mBind_ap]; rw [decide_eq_true (by omega), mIf_true]; refine Sep.ldI hs 0 rfl rfl ?_; refine Sep.ldL hs 1 rfl rfl ?_; rw [mRet_ap]; rw [decide_eq_false (by omega), mIf_false]; rw [mRet_ap]; simp only [mIf_false])
      exact next _ ws hs.drop
theorem prevAt_zero (l : List Rec) (t : Int) : prevAt (l.take 0) t = none := by simp [prevAt]
theorem mf12 (ht : RdE h0.size h0 CTask.enc 7 c.tasks ts) (hl : RdE h0.size h0 Rec.enc 7 ls l) (hlen : l.length ≤ 150) {k : Nat} (hkl : k < l.length) (hloop : MFLoop h0 cb c ts ls l task (k + 1)) {r : Rec} {rb : Nat} {h : Hp} {ws gs : Sl} (hr : l[k] = r) (hrel : rel r = true)
    (hs : Sep h0 h [aBlk rb r.enc, aBlk cb c.enc, aRow Fl.enc 2 ws (soons ts l k), aRow encI 1 gs (gaps l task k)]) : ∀ (j : Nat), j ≤ k → prevAt (l.take k) r.task = prevAt (l.take j) r.task →
    K_signalboxlaw19_MonitorFlags_12 ls task ⟨cb, 0, none⟩ ws gs ⟨rb, 0, none⟩ ((j : Int) - 1) ls (ls.n : Int) (k : Int) h (MFin h0)
  | 0, hj, hp => by
    rw [prevAt_zero] at hp
    have hsu := soons_succ ts l hkl
    have hgu := gaps_succ l task hkl
    rw [hr] at hsu hgu
    have e1 : soon ts (l.take k) r = [] := by unfold soon; rw [hrel, hp]; rfl
    have e2 : gap (l.take k) r task = [] := by
      unfold gap
      by_cases hrt : r.task = task
      · rw [← hrt, hp, hrel]; simp
      · simp [hrt]
    rw [e1, List.append_nil] at hsu
    rw [e2, List.append_nil] at hgu
    apply S_signalboxlaw19_MonitorFlags_12
    unfold B_signalboxlaw19_MonitorFlags_12
    (simp only [add_mk, Nat.zero_add]; rw [decide_eq_false (by omega), mIf_false])
    rw [wrap64 _ (by omega), show (k : Int) + 1 = ((k + 1 : Nat) : Int) by omega]
    refine hloop h ws gs ?_
    rw [hsu, hgu]
    exact hs.drop
  | j + 1, hj, hp => by
    have ih := mf12 ht hl hlen hkl hloop hr hrel hs j (by omega)
    have hln := hl.n
    have hjl : j < l.length := by omega
    have htk : l.take (j + 1) = l.take j ++ [l[j]] := List.take_succ_eq_append_getElem hjl
    rw [htk, prevAt_snoc] at hp
    have e : ((j + 1 : Nat) : Int) - 1 = (j : Int) := by omega
    have skip : (rel l[j] && (l[j].task == r.task)) = false → K_signalboxlaw19_MonitorFlags_12 ls task ⟨cb, 0, none⟩ ws gs ⟨rb, 0, none⟩ (IntKind.i64.wrap ((j : Int) - 1)) ls (ls.n : Int) (k : Int) h (MFin h0) := by
      intro hm
      rw [hm] at hp
      simp only [Bool.false_eq_true, if_false] at hp
      rw [wrap64 _ (by omega)]
      exact ih hp
    apply S_signalboxlaw19_MonitorFlags_12
    unfold B_signalboxlaw19_MonitorFlags_12
    rw [e]
    (simp only [add_mk, Nat.zero_add]; rw [decide_eq_true (by omega), mIf_true]; refine Sep.argEn hs hl (by first | omega | (simp only [List.length_set, List.length_map, List.length_replicate, List.length_append, List.length_cons, List.length_nil, List.length_reverse, List.length_range]; omega) | (simp; omega)) fun aa haa => ?_; refine Arg.ldI haa rfl ?_; simp only [mBind_ap])
    have found : ∀ (hrx : rel l[j] = true), (mIf (l[j].task != r.task) (
      K_signalboxlaw19_MonitorFlags_12 ls task ⟨cb, 0, none⟩ ws gs ⟨rb, 0, none⟩ (IntKind.i64.wrap ((j : Int) - (1 : Int))) ls (ls.n : Int) (k : Int)) (
      mLdI .i64 ⟨rb, 0, none⟩ fun (x76 : Int) =>
      mQ (N_signalboxlaw19_clamp x76) fun r77 =>
      unI .i64 r77 fun (x77 : Int) =>
      mIdx ls (j : Int) 7 fun (x80 : Addr) =>
      mLdI .i64 x80 fun (x82 : Int) =>
      mQ (N_signalboxlaw19_clamp x82) fun r83 =>
      unI .i64 r83 fun (x83 : Int) =>
      mLdI .i64 ⟨rb, 2, none⟩ fun (x86 : Int) =>
      mIf (x86 == task) (
        mNew #[.int .i64 (IntKind.i64.wrap (x77 - x83))] 3 fun (x91 : Addr) =>
        mApp 3 1 8 #[.int .i64 (0 : Int)] gs ⟨(some x91), 1, 1⟩ fun (x92 : Sl) =>
        K_signalboxlaw19_MonitorFlags_18 ls task ⟨cb, 0, none⟩ ws x92 ⟨rb, 0, none⟩ (IntKind.i64.wrap (x77 - x83)) ls (ls.n : Int) (k : Int)) (
        K_signalboxlaw19_MonitorFlags_18 ls task ⟨cb, 0, none⟩ ws gs ⟨rb, 0, none⟩ (IntKind.i64.wrap (x77 - x83)) ls (ls.n : Int) (k : Int)))) h (MFin h0) := by
      intro hrx
      refine mIf_intro (fun hc => ?_) (fun hc => ?_)
      · have hc : ¬ l[j].task = r.task := by simpa using hc
        exact skip (by rw [hrx]; simpa using hc)
      · have hc : l[j].task = r.task := by simpa using hc
        rw [hrx, hc] at hp
        simp only [beq_self_eq_true, Bool.and_self, if_true] at hp
        have b1 := clampv_b r.at_
        have b2 := clampv_b l[j].at_
        (refine Sep.ldI hs 0 rfl rfl ?_)
        refine mQ_intro _ (lclamp_q _ _) ?_
        (simp only [unI_int]; refine Sep.argEn hs hl (by first | omega | (simp only [List.length_set, List.length_map, List.length_replicate, List.length_append, List.length_cons, List.length_nil, List.length_reverse, List.length_range]; omega) | (simp; omega)) fun aa_1 haa_1 => ?_; refine Arg.ldI0 haa_1 rfl ?_)
        refine mQ_intro _ (lclamp_q _ _) ?_
        (simp only [unI_int]; refine Sep.ldI hs 0 rfl rfl ?_)
        rw [wrap64 (clampv r.at_ - clampv l[j].at_) (by omega)]
        have hgu := gaps_succ l task hkl
        have hgl := gaps_len l task k
        rw [hr] at hgu
        refine mIf_intro (fun ht2 => ?_) (fun ht2 => ?_)
        · have ht2 : r.task = task := by simpa using ht2
          have e2 : gap (l.take k) r task = [clampv r.at_ - clampv l[j].at_] := by
            unfold gap
            rw [← ht2, hp, hrel]; simp
          rw [e2] at hgu
          ((refine Sep.new hs fun nb h hs => ?_; try simp only [List.toList_toArray] at hs))
          refine hs.app1 4 0 (clampv r.at_ - clampv l[j].at_) rfl rfl (fun _ => rfl) (by simp [Value.oneCell']) rfl (by omega) (by omega) fun s' h hn' hs => ?_
          simp only [List.set_cons_zero, List.set_cons_succ] at hs
          refine mf18 ht (by omega) hloop hkl hr hrel hp ?_
          rw [hgu]
          exact hs.drop
        · have ht2 : ¬ r.task = task := by simpa using ht2
          have e2 : gap (l.take k) r task = [] := by
            unfold gap
            simp [ht2]
          rw [e2, List.append_nil] at hgu
          refine mf18 ht (by omega) hloop hkl hr hrel hp ?_
          rw [hgu]
          exact hs
    by_cases h1 : l[j].kind = 1
    · refine mIf_neg (by simp [h1]) ?_
      (rw [mRet_ap]; simp only [mIf_false]; refine Sep.argEn hs hl (by first | omega | (simp only [List.length_set, List.length_map, List.length_replicate, List.length_append, List.length_cons, List.length_nil, List.length_reverse, List.length_range]; omega) | (simp; omega)) fun aa_1 haa_1 => ?_; refine Arg.ldI haa_1 rfl ?_; refine Sep.ldI hs 0 rfl rfl ?_; rw [mRet_ap])
      exact found (by unfold rel; simp [h1])
    · refine mIf_pos (by simp [h1]) ?_
      (refine Sep.argEn hs hl (by first | omega | (simp only [List.length_set, List.length_map, List.length_replicate, List.length_append, List.length_cons, List.length_nil, List.length_reverse, List.length_range]; omega) | (simp; omega)) fun aa_1 haa_1 => ?_; refine Arg.ldI haa_1 rfl ?_; rw [mRet_ap])
      by_cases h2 : l[j].kind = 2
      · refine mIf_neg (by simp [h2]) ?_
        (refine Sep.argEn hs hl (by first | omega | (simp only [List.length_set, List.length_map, List.length_replicate, List.length_append, List.length_cons, List.length_nil, List.length_reverse, List.length_range]; omega) | (simp; omega)) fun aa_2 haa_2 => ?_; refine Arg.ldI haa_2 rfl ?_; refine Sep.ldI hs 0 rfl rfl ?_; rw [mRet_ap])
        exact found (by unfold rel; simp [h2])
      · refine mIf_pos (by simp [h2]) ?_
        (rw [mRet_ap]; simp only [mIf_true])
        exact skip (by unfold rel; simp [h1, h2])
theorem mf8 (ht : RdE h0.size h0 CTask.enc 7 c.tasks ts) (hl : RdE h0.size h0 Rec.enc 7 ls l) (hlen : l.length ≤ 150) (hfin : MFLoop h0 cb c ts ls l task l.length) : ∀ (d k : Nat), k + d = l.length → MFLoop h0 cb c ts ls l task k
  | 0, k, hk => by
    obtain rfl : k = l.length := by omega
    exact hfin
  | d + 1, k, hk => by
    have hloop := mf8 ht hl hlen hfin d (k + 1) (by omega)
    have hln := hl.n
    have hkl : k < l.length := by omega
    have hsu := soons_succ ts l hkl
    have hgu := gaps_succ l task hkl
    intro h ws gs hs
    apply S_signalboxlaw19_MonitorFlags_8
    unfold B_signalboxlaw19_MonitorFlags_8
    (simp only [add_mk, Nat.zero_add]; rw [decide_eq_true (by omega), mIf_true]; refine Sep.argEn hs hl (by first | omega | (simp only [List.length_set, List.length_map, List.length_replicate, List.length_append, List.length_cons, List.length_nil, List.length_reverse, List.length_range]; omega) | (simp; omega)) fun aa haa => ?_; refine Arg.ldI0 haa rfl ?_; refine Arg.ldI haa rfl ?_; refine Arg.ldI haa rfl ?_; refine Arg.ldI haa rfl ?_; refine Arg.ldI haa rfl ?_; refine Arg.ldI haa rfl ?_; refine Arg.ldI haa rfl ?_; (refine Sep.new hs fun nb h hs => ?_; try simp only [List.toList_toArray] at hs); (refine Sep.st hs 0 rfl rfl rfl fun h hs => ?_; simp only [List.set_cons_zero, List.set_cons_succ] at hs); (refine Sep.st hs 0 rfl rfl rfl fun h hs => ?_; simp only [List.set_cons_zero, List.set_cons_succ] at hs); (refine Sep.st hs 0 rfl rfl rfl fun h hs => ?_; simp only [List.set_cons_zero, List.set_cons_succ] at hs); (refine Sep.st hs 0 rfl rfl rfl fun h hs => ?_; simp only [List.set_cons_zero, List.set_cons_succ] at hs); (refine Sep.st hs 0 rfl rfl rfl fun h hs => ?_; simp only [List.set_cons_zero, List.set_cons_succ] at hs); (refine Sep.st hs 0 rfl rfl rfl fun h hs => ?_; simp only [List.set_cons_zero, List.set_cons_succ] at hs); (refine Sep.st hs 0 rfl rfl rfl fun h hs => ?_; simp only [List.set_cons_zero, List.set_cons_succ] at hs); refine Sep.ldI hs 0 rfl rfl ?_; simp only [add_mk, Nat.zero_add, mBind_ap])
    generalize hr : l[k] = r at *
    have go : ∀ h, rel r = true → Sep h0 h [aBlk nb r.enc, aBlk cb c.enc, aRow Fl.enc 2 ws (soons ts l k), aRow encI 1 gs (gaps l task k)] → K_signalboxlaw19_MonitorFlags_12 ls task ⟨cb, 0, none⟩ ws gs ⟨nb, 0, none⟩ (IntKind.i64.wrap ((k : Int) - 1)) ls (ls.n : Int) (k : Int) h (MFin h0) := by
      intro h hrel hs
      rw [wrap64 _ (by omega)]
      exact mf12 ht hl hlen hkl hloop hr hrel hs k (Nat.le_refl _) rfl
    by_cases h1 : r.kind = 1
    · refine mIf_neg (by simp [h1]) ?_
      (rw [mRet_ap]; simp only [mIf_false])
      exact go h (by unfold rel; simp [h1]) hs
    · refine mIf_pos (by simp [h1]) ?_
      (refine Sep.ldI hs 0 rfl rfl ?_; rw [mRet_ap])
      by_cases h2 : r.kind = 2
      · refine mIf_neg (by simp [h2]) ?_
        (skip)
        exact go h (by unfold rel; simp [h2]) hs
      · refine mIf_pos (by simp [h2]) ?_
        have hrel : rel r = false := by unfold rel; simp [h1, h2]
        have e1 : soon ts (l.take k) r = [] := by unfold soon; rw [hrel]; rfl
        have e2 : gap (l.take k) r task = [] := by unfold gap; rw [hrel]; rfl
        rw [e1, List.append_nil] at hsu
        rw [e2, List.append_nil] at hgu
        rw [wrap64 _ (by omega), show (k : Int) + 1 = ((k + 1 : Nat) : Int) by omega]
        refine hloop h ws gs ?_
        rw [hsu, hgu]
        exact hs.drop
theorem mf31 {ws gs g2 : Sl} (ht : RdE h0.size h0 CTask.enc 7 c.tasks ts) (hl : RdE h0.size h0 Rec.enc 7 ls l) (hlen : l.length ≤ 150) {fs : List Fl} (hfs : fs = soons ts l l.length) {qs : List Int} (hq : qs.length ≤ 1000) : ∀ (d k : Nat) (h : Hp), k + d = qs.length → Sep h0 h [aBlk cb c.enc, aRow Fl.enc 2 ws fs, aRow encI 1 gs qs, aRow encI 1 g2 qs] →
    K_signalboxlaw19_MonitorFlags_31 ls ⟨cb, 0, none⟩ ws gs g2 (g2.n : Int) (k : Int) h (MFin h0)
  | 0, k, h, hk, hs => by
    have hwn := hs.rowLen 1 rfl
    have hgn := hs.rowLen 3 rfl
    apply S_signalboxlaw19_MonitorFlags_31
    unfold B_signalboxlaw19_MonitorFlags_31
    (simp only [add_mk, Nat.zero_add, Bool.and_true]; rw [decide_eq_false (by omega), mIf_false]; refine Sep.ldI hs 0 rfl rfl ?_; refine Sep.ldI hs 0 rfl rfl ?_; refine Sep.ldI hs 0 rfl rfl ?_; refine Sep.ldI hs 0 rfl rfl ?_; refine Sep.ldL hs 0 rfl rfl ?_; refine Sep.ldI hs 0 rfl rfl ?_; refine Sep.ldL hs 0 rfl rfl ?_; refine Sep.ldL hs 0 rfl rfl ?_; refine Sep.ldL hs 0 rfl rfl ?_; refine Sep.ldL hs 0 rfl rfl ?_; simp only [mBind_ap])
    refine (First_s (c := c) (ht.now hs) (hl.now hs) (by omega)).mono ?_
    rintro v h' ⟨rfl, hs'⟩
    have hs := hs.rebase hs'
    simp only [List.nil_append] at hs
    rw [← hfs]
    cases fs with
    | nil =>
      simp only [List.length_nil] at hwn
      simp only [List.isEmpty_nil]
      (simp only [Bool.not_true, unT_tuple, unC_cons, unE_nil, unB_bool, Bool.not_false, mIf_true, mIf_false, unA_agg, unI_int]; (refine Sep.new hs fun nb h hs => ?_; try simp only [List.toList_toArray] at hs); (refine Sep.st hs 0 rfl rfl rfl fun h hs => ?_; simp only [List.set_cons_zero, List.set_cons_succ] at hs); (refine Sep.st hs 0 rfl rfl rfl fun h hs => ?_; simp only [List.set_cons_zero, List.set_cons_succ] at hs); simp only [add_mk, Nat.zero_add, mBind_ap])
      refine mIf_pos (by rw [hwn]; rfl) ?_
      (simp only [mBind_ap]; refine Sep.ldI hs 0 rfl rfl ?_; refine Sep.ldI hs 0 rfl rfl ?_; rw [mRet_ap])
      exact ⟨rfl, hs.under⟩
    | cons f fs =>
      simp only [List.length_cons] at hwn
      simp only [List.isEmpty_cons]
      (simp only [Bool.not_false, unT_tuple, unC_cons, unE_nil, unB_bool, Bool.not_true, mIf_false, mIf_true, unA_agg, unI_int]; (refine Sep.new hs fun nb h hs => ?_; try simp only [List.toList_toArray] at hs); (refine Sep.st hs 0 rfl rfl rfl fun h hs => ?_; simp only [List.set_cons_zero, List.set_cons_succ] at hs); (refine Sep.st hs 0 rfl rfl rfl fun h hs => ?_; simp only [List.set_cons_zero, List.set_cons_succ] at hs); simp only [add_mk, Nat.zero_add, mBind_ap])
      refine mIf_pos (by simp; omega) ?_
      (simp only [mBind_ap]; rw [mRet_ap]; simp only [mIf_false, mBind_ap]; refine Sep.ldI hs 0 rfl rfl ?_; refine Sep.ldI hs 0 rfl rfl ?_; (refine Sep.idx hs 2 rfl (by first | omega | (simp only [List.length_set, List.length_map, List.length_replicate, List.length_append, List.length_cons, List.length_nil, List.length_reverse, List.length_range]; omega) | (simp; omega)) (by first | omega | (simp only [List.length_set, List.length_map, List.length_replicate, List.length_append, List.length_cons, List.length_nil, List.length_reverse, List.length_range]; omega) | (simp; omega)) fun aa haa => ?_; try simp only [Int.toNat_natCast] at haa); refine Sep.rldI0 hs 2 rfl (fun _ => rfl) haa (List.getElem?_eq_getElem (by first | omega | (simp only [List.length_set, List.length_map, List.length_replicate, List.length_append, List.length_cons, List.length_nil, List.length_reverse, List.length_range]; omega) | (simp; omega))) rfl ?_; refine Sep.rldI hs 2 rfl (fun _ => rfl) haa (List.getElem?_eq_getElem (by first | omega | (simp only [List.length_set, List.length_map, List.length_replicate, List.length_append, List.length_cons, List.length_nil, List.length_reverse, List.length_range]; omega) | (simp; omega))) rfl ?_; rw [mRet_ap]; rw [mRet_ap]; rw [mRet_ap])
      refine ⟨?_, hs.under⟩
      simp [headF]
  | d + 1, k, h, hk, hs => by
    have ih := mf31 ht hl hlen hfs hq (ws := ws) (gs := gs) (g2 := g2) d (k + 1)
    have hgn := hs.rowLen 2 rfl
    have hg2 := hs.rowLen 3 rfl
    apply S_signalboxlaw19_MonitorFlags_31
    unfold B_signalboxlaw19_MonitorFlags_31
    (simp only [add_mk, Nat.zero_add, Bool.and_true]; rw [decide_eq_true (by omega), mIf_true]; (refine Sep.idx hs 3 rfl (by first | omega | (simp only [List.length_set, List.length_map, List.length_replicate, List.length_append, List.length_cons, List.length_nil, List.length_reverse, List.length_range]; omega) | (simp; omega)) (by first | omega | (simp only [List.length_set, List.length_map, List.length_replicate, List.length_append, List.length_cons, List.length_nil, List.length_reverse, List.length_range]; omega) | (simp; omega)) fun aa haa => ?_; try simp only [Int.toNat_natCast] at haa); refine Sep.rldI0 hs 3 rfl (fun _ => rfl) haa (List.getElem?_eq_getElem (by first | omega | (simp only [List.length_set, List.length_map, List.length_replicate, List.length_append, List.length_cons, List.length_nil, List.length_reverse, List.length_range]; omega) | (simp; omega))) rfl ?_; (refine Sep.idx hs 2 rfl (by first | omega | (simp only [List.length_set, List.length_map, List.length_replicate, List.length_append, List.length_cons, List.length_nil, List.length_reverse, List.length_range]; omega) | (simp; omega)) (by first | omega | (simp only [List.length_set, List.length_map, List.length_replicate, List.length_append, List.length_cons, List.length_nil, List.length_reverse, List.length_range]; omega) | (simp; omega)) fun aa_1 haa_1 => ?_; try simp only [Int.toNat_natCast] at haa_1); refine Sep.rldI0 hs 2 rfl (fun _ => rfl) haa_1 (List.getElem?_eq_getElem (by first | omega | (simp only [List.length_set, List.length_map, List.length_replicate, List.length_append, List.length_cons, List.length_nil, List.length_reverse, List.length_range]; omega) | (simp; omega))) rfl ?_)
    refine mIf_neg (by simp) ?_
    rw [wrap64 _ (by omega), show (k : Int) + 1 = ((k + 1 : Nat) : Int) by omega]
    exact ih h (by omega) hs
theorem mf25 {ws gs w2 g2 : Sl} (ht : RdE h0.size h0 CTask.enc 7 c.tasks ts) (hl : RdE h0.size h0 Rec.enc 7 ls l) (hlen : l.length ≤ 150) {fs : List Fl} (hfs : fs = soons ts l l.length) {qs : List Int} (hq : qs.length ≤ 1000) : ∀ (d k : Nat) (h : Hp), k + d = fs.length → Sep h0 h [aBlk cb c.enc, aRow Fl.enc 2 ws fs, aRow encI 1 gs qs, aRow encI 1 g2 qs, aRow Fl.enc 2 w2 fs] →
    K_signalboxlaw19_MonitorFlags_25 ls ⟨cb, 0, none⟩ ws gs w2 g2 (w2.n : Int) (k : Int) h (MFin h0)
  | 0, k, h, hk, hs => by
    have hwn := hs.rowLen 4 rfl
    apply S_signalboxlaw19_MonitorFlags_25
    unfold B_signalboxlaw19_MonitorFlags_25
    (simp only [Bool.and_true]; rw [decide_eq_false (by omega), mIf_false])
    exact mf31 ht hl hlen hfs hq qs.length 0 h (by omega) ((hs.re [4, 0, 1, 2, 3] rfl).drop)
  | d + 1, k, h, hk, hs => by
    have ih := mf25 ht hl hlen hfs hq (ws := ws) (gs := gs) (w2 := w2) (g2 := g2) d (k + 1)
    have hfl : fs.length ≤ l.length := by rw [hfs]; exact soons_len ts l l.length
    have hgn := hs.rowLen 1 rfl
    have hg2 := hs.rowLen 4 rfl
    apply S_signalboxlaw19_MonitorFlags_25
    unfold B_signalboxlaw19_MonitorFlags_25
    (simp only [Bool.and_true]; rw [decide_eq_true (by omega), mIf_true]; (refine Sep.idx hs 4 rfl (by first | omega | (simp only [List.length_set, List.length_map, List.length_replicate, List.length_append, List.length_cons, List.length_nil, List.length_reverse, List.length_range]; omega) | (simp; omega)) (by first | omega | (simp only [List.length_set, List.length_map, List.length_replicate, List.length_append, List.length_cons, List.length_nil, List.length_reverse, List.length_range]; omega) | (simp; omega)) fun aa haa => ?_; try simp only [Int.toNat_natCast] at haa); refine Sep.rldI0 hs 4 rfl (fun _ => rfl) haa (List.getElem?_eq_getElem (by first | omega | (simp only [List.length_set, List.length_map, List.length_replicate, List.length_append, List.length_cons, List.length_nil, List.length_reverse, List.length_range]; omega) | (simp; omega))) rfl ?_; refine Sep.rldI hs 4 rfl (fun _ => rfl) haa (List.getElem?_eq_getElem (by first | omega | (simp only [List.length_set, List.length_map, List.length_replicate, List.length_append, List.length_cons, List.length_nil, List.length_reverse, List.length_range]; omega) | (simp; omega))) rfl ?_; (refine Sep.idx hs 1 rfl (by first | omega | (simp only [List.length_set, List.length_map, List.length_replicate, List.length_append, List.length_cons, List.length_nil, List.length_reverse, List.length_range]; omega) | (simp; omega)) (by first | omega | (simp only [List.length_set, List.length_map, List.length_replicate, List.length_append, List.length_cons, List.length_nil, List.length_reverse, List.length_range]; omega) | (simp; omega)) fun aa_1 haa_1 => ?_; try simp only [Int.toNat_natCast] at haa_1); refine Sep.rldI0 hs 1 rfl (fun _ => rfl) haa_1 (List.getElem?_eq_getElem (by first | omega | (simp only [List.length_set, List.length_map, List.length_replicate, List.length_append, List.length_cons, List.length_nil, List.length_reverse, List.length_range]; omega) | (simp; omega))) rfl ?_; refine Sep.rldI hs 1 rfl (fun _ => rfl) haa_1 (List.getElem?_eq_getElem (by first | omega | (simp only [List.length_set, List.length_map, List.length_replicate, List.length_append, List.length_cons, List.length_nil, List.length_reverse, List.length_range]; omega) | (simp; omega))) rfl ?_)
    refine mIf_neg (by simp) ?_
    rw [wrap64 _ (by omega), show (k : Int) + 1 = ((k + 1 : Nat) : Int) by omega]
    exact ih h (by omega) hs
theorem MonitorFlags_ok (hc : c.ok h0) (hl : RdE h0.size h0 Rec.enc 7 ls l) (_hlo : ∀ x ∈ l, x.ok h0) (_hn : -9223372036854775808 ≤ task ∧ task ≤ 9223372036854775807) :
    N_signalboxlaw19_MonitorFlags c.machine.sets c.machine.ways c.machine.hit c.machine.miss c.mailboxes c.groups c.counts c.ceilings c.tasks c.lines ls task h0 (MFin h0) := by
  obtain ⟨_, _, _, _, _, ⟨ts, ht, _⟩, _⟩ := hc
  have htn := ht.n
  have hln := hl.n
  apply S_signalboxlaw19_MonitorFlags
  unfold B_signalboxlaw19_MonitorFlags
  have hs := Sep.init h0
  ((refine Sep.new hs fun nb h hs => ?_; try simp only [List.toList_toArray] at hs); simp only [add_mk, Nat.zero_add, mBind_ap])
  refine (fixed19_s hs).mono ?_
  rintro v h ⟨rfl, hs⟩
  (simp only [unB_bool, Bool.not_true, mIf_false]; refine Sep.ldL hs 0 rfl rfl ?_)
  refine mIf_intro (fun _ => ⟨rfl, hs.under⟩) (fun hcc => ?_)
  have hcc : ts.length ≤ 20 ∧ l.length ≤ 150 := by simp at hcc; omega
  have hfin : MFLoop h0 nb c ts ls l task l.length := by
    intro h ws gs hs
    apply S_signalboxlaw19_MonitorFlags_8
    unfold B_signalboxlaw19_MonitorFlags_8
    (simp only [add_mk, Nat.zero_add]; rw [decide_eq_false (by omega), mIf_false]; refine Sep.ldI hs 0 rfl rfl ?_; refine Sep.ldI hs 0 rfl rfl ?_; refine Sep.ldI hs 0 rfl rfl ?_; refine Sep.ldI hs 0 rfl rfl ?_; refine Sep.ldL hs 0 rfl rfl ?_; refine Sep.ldI hs 0 rfl rfl ?_; refine Sep.ldL hs 0 rfl rfl ?_; refine Sep.ldL hs 0 rfl rfl ?_; refine Sep.ldL hs 0 rfl rfl ?_; refine Sep.ldL hs 0 rfl rfl ?_; simp only [mBind_ap])
    refine (All_s (c := c) (ht.now hs) (hl.now hs) (by omega)).mono ?_
    rintro v h' ⟨w2, rfl, hs'⟩
    have hs := hs.rebase hs'
    simp only [List.cons_append, List.nil_append] at hs
    (simp only [unL_slice, mBind_ap])
    refine (Gaps_s (hl.now hs) (by omega) task).mono ?_
    rintro v h' ⟨g2, rfl, hs'⟩
    have hs := hs.rebase hs'
    simp only [List.cons_append, List.nil_append] at hs
    have n0 := hs.rowLen 0 rfl
    have n1 := hs.rowLen 1 rfl
    have n3 := hs.rowLen 3 rfl
    have n4 := hs.rowLen 4 rfl
    (simp only [unL_slice])
    refine mIf_neg (by simp; omega) ?_
    exact mf25 ht hl hcc.2 rfl (Nat.le_trans (gaps_len l task l.length) (by omega)) _ 0 h' (Nat.zero_add _) (hs.re [2, 3, 4, 0, 1] rfl)
  have hs := hs.nilRow encI 1
  have hs := hs.nilRow Fl.enc 2
  exact mf8 ht hl hcc.2 hfin l.length 0 (by omega) h _ _ (hs.re [2, 0, 1] rfl)
end flags
end Go.Proofs.Ytkoenpliddhhoaa
