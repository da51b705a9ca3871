/- Monitor: what each call answers. Conditions: none. -/
import Derived.Test.YtkoenpliddhhoaaMonM
import Derived.Test.YtkoenpliddhhoaaMonA
import Derived.Test.YtkoenpliddhhoaaSbW
namespace Go.Proofs.Ytkoenpliddhhoaa
open Go Go.Sb
set_option linter.unusedSimpArgs false
set_option linter.unusedVariables false

def clampv (n : Int) : Int := (if (1099511627776 : Int) < (if (-1099511627776 : Int) > n then (-1099511627776 : Int) else n) then (1099511627776 : Int) else (if (-1099511627776 : Int) > n then (-1099511627776 : Int) else n))
theorem clampv_b (n : Int) : -1099511627776 ≤ clampv n ∧ clampv n ≤ 1099511627776 := by unfold clampv; split <;> split <;> omega
theorem clamp_q (n : Int) (h : Hp) : N_monitor_clamp n h (fun v h' => v = .int .i64 (clampv n) ∧ h' = h) := by
  apply S_monitor_clamp
  unfold B_monitor_clamp
  exact ⟨rfl, rfl⟩
theorem lclamp_q (n : Int) (h : Hp) : N_signalboxlaw19_clamp n h (fun v h' => v = .int .i64 (clampv n) ∧ h' = h) := by
  apply S_signalboxlaw19_clamp
  unfold B_signalboxlaw19_clamp
  exact ⟨rfl, rfl⟩
def rel (r : Rec) : Bool := r.kind == 1 || r.kind == 2
section
variable {h0 h : Hp} {R : List As}
theorem rel_s (hs : Sep h0 h R) (r : Rec) : N_monitor_released r.at_ r.kind r.task r.job r.op r.code r.value h (fun v h' => v = .bool (rel r) ∧ Sep h0 h' R) := by
  apply S_monitor_released
  unfold B_monitor_released
  ((refine Sep.new hs fun nb h hs => ?_; try simp only [List.toList_toArray] at hs); refine Sep.ldI hs 0 rfl rfl ?_; simp only [add_mk, Nat.zero_add, mBind_ap])
  refine mIf_intro (fun hc => ?_) (fun hc => ?_)
  · (rw [mRet_ap])
    exact ⟨by unfold rel; rw [hc]; rfl, hs.drop⟩
  · (refine Sep.ldI hs 0 rfl rfl ?_; rw [mRet_ap])
    exact ⟨by unfold rel; rw [hc]; rfl, hs.drop⟩
end
/-- when a task was released last -/
def prevAt (l : List Rec) (t : Int) : Option Int := (l.reverse.find? fun r => rel r && (r.task == t)).map fun r => clampv r.at_
theorem prevAt_snoc (l : List Rec) (r : Rec) (t : Int) : prevAt (l ++ [r]) t = if (rel r && (r.task == t)) = true then some (clampv r.at_) else prevAt l t := by
  unfold prevAt
  rw [List.reverse_append, List.reverse_singleton, List.singleton_append, List.find?_cons]
  split <;> simp_all
theorem prevAt_b {l : List Rec} {t w : Int} (h : prevAt l t = some w) : -1099511627776 ≤ w ∧ w ≤ 1099511627776 := by
  unfold prevAt at h
  cases hf : l.reverse.find? fun r => rel r && (r.task == t) with
  | none => rw [hf] at h; cases h
  | some r => rw [hf] at h; cases h; exact clampv_b _
structure Fl where
  at_ : Int
  task : Int
def Fl.enc (x : Fl) : List Value := [.int .i64 x.at_, .int .i64 x.task]
def soon (ts : List CTask) (l : List Rec) (r : Rec) : List Fl := if rel r then match prevAt l r.task with
  | some was => if 0 ≤ r.task ∧ r.task < ts.length ∧ clampv r.at_ - was < clampv ((ts.map (·.period)).getD r.task.toNat 0) then [⟨r.at_, r.task⟩] else []
  | none => [] else []
def gap (l : List Rec) (r : Rec) (t : Int) : List Int := if rel r && (r.task == t) then match prevAt l t with
  | some was => [clampv r.at_ - was]
  | none => [] else []
def soons (ts : List CTask) (l : List Rec) : Nat → List Fl
  | 0 => []
  | k + 1 => soons ts l k ++ match l[k]? with
    | some r => soon ts (l.take k) r
    | none => []
def gaps (l : List Rec) (t : Int) : Nat → List Int
  | 0 => []
  | k + 1 => gaps l t k ++ match l[k]? with
    | some r => gap (l.take k) r t
    | none => []
theorem soon_len (ts : List CTask) (l : List Rec) (r : Rec) : (soon ts l r).length ≤ 1 := by
  unfold soon; split
  · split
    · split <;> simp
    · simp
  · simp
theorem gap_len (l : List Rec) (r : Rec) (t : Int) : (gap l r t).length ≤ 1 := by
  unfold gap; split
  · split <;> simp
  · simp
theorem soons_len (ts : List CTask) (l : List Rec) : ∀ k, (soons ts l k).length ≤ k
  | 0 => by simp [soons]
  | k + 1 => by
    have := soons_len ts l k
    simp only [soons, List.length_append]
    cases l[k]? with
    | none => simp; omega
    | some r => have := soon_len ts (l.take k) r; simp only []; omega
theorem gaps_len (l : List Rec) (t : Int) : ∀ k, (gaps l t k).length ≤ k
  | 0 => by simp [gaps]
  | k + 1 => by
    have := gaps_len l t k
    simp only [gaps, List.length_append]
    cases l[k]? with
    | none => simp; omega
    | some r => have := gap_len (l.take k) r t; simp only []; omega
theorem soons_succ (ts : List CTask) (l : List Rec) {k : Nat} (hk : k < l.length) : soons ts l (k + 1) = soons ts l k ++ soon ts (l.take k) l[k] := by
  simp only [soons, List.getElem?_eq_getElem hk]
theorem gaps_succ (l : List Rec) (t : Int) {k : Nat} (hk : k < l.length) : gaps l t (k + 1) = gaps l t k ++ gap (l.take k) l[k] t := by
  simp only [gaps, List.getElem?_eq_getElem hk]
abbrev encI : Int → List Value := fun z => [.int .i64 z]
section calls
variable {h1 : Hp} {c : Conf} {ts : List CTask} {ls : Sl} {l : List Rec}
def lastF (n : Nat) (l : List Rec) : Int → Option Value := fun t => if 0 ≤ t ∧ t < n then (prevAt l t).map (Value.int .i64 ·) else none
theorem All_s (ht : RdE h1.size h1 CTask.enc 7 c.tasks ts) (hl : RdE h1.size h1 Rec.enc 7 ls l) (hlen : l.length ≤ 1000) :
    N_monitor_All c.machine.sets c.machine.ways c.machine.hit c.machine.miss c.mailboxes c.groups c.counts c.ceilings c.tasks c.lines ls h1 (fun v h' => ∃ out : Sl, v = .slice out.p out.n out.c ∧ Sep h1 h' [aRow Fl.enc 2 out (soons ts l l.length)]) := by
  have htn := ht.n
  have hln := hl.n
  apply S_monitor_All
  unfold B_monitor_All
  have hs := Sep.init h1
  ((refine Sep.new hs fun nb h hs => ?_; try simp only [List.toList_toArray] at hs))
  refine hs.mapNew .i64 fun m h hs => ?_
  have loop : ∀ (d k : Nat) (h : Hp) (out : Sl) (f : Int → Option Value) (n : Nat), k + d = l.length → (∀ t, f t = lastF ts.length (l.take k) t) → Sep h1 h [aMap m .i64 f n, aBlk nb c.enc, aRow Fl.enc 2 out (soons ts l k)] →
      K_monitor_All_4 ⟨nb, 0, none⟩ out (some m) ls (ls.n : Int) (k : Int) h (fun v h' => ∃ out : Sl, v = .slice out.p out.n out.c ∧ Sep h1 h' [aRow Fl.enc 2 out (soons ts l l.length)]) := by
    intro d
    induction d with
    | zero =>
      intro k h out f n hk hf hs
      apply S_monitor_All_4
      unfold B_monitor_All_4
      (simp only [add_mk, Nat.zero_add, mNilM_some]; rw [decide_eq_false (by omega), mIf_false])
      obtain rfl : k = l.length := by omega
      exact ⟨out, rfl, hs.drop.drop⟩
    | succ d ih =>
      intro k h out f n hk hf hs
      have hkl : k < l.length := by omega
      have hsu := soons_succ ts l hkl
      have hso := soons_len ts l k
      have htk : l.take (k + 1) = l.take k ++ [l[k]] := List.take_succ_eq_append_getElem hkl
      apply S_monitor_All_4
      unfold B_monitor_All_4
      (simp only [add_mk, Nat.zero_add, mNilM_some]; rw [decide_eq_true (by omega), mIf_true]; refine Sep.argEn hs hl (by first | omega | (simp only [List.length_set, List.length_map, List.length_replicate, List.length_append, List.length_cons, List.length_nil, List.length_reverse, List.length_range]; omega) | (simp; omega)) fun aa haa => ?_; refine Arg.ldI0 haa rfl ?_; refine Arg.ldI haa rfl ?_; refine Arg.ldI haa rfl ?_; refine Arg.ldI haa rfl ?_; refine Arg.ldI haa rfl ?_; refine Arg.ldI haa rfl ?_; refine Arg.ldI haa rfl ?_; (refine Sep.new hs fun nb_1 h hs => ?_; try simp only [List.toList_toArray] at hs); (refine Sep.st hs 0 rfl rfl rfl fun h hs => ?_; simp only [List.set_cons_zero, List.set_cons_succ] at hs); (refine Sep.st hs 0 rfl rfl rfl fun h hs => ?_; simp only [List.set_cons_zero, List.set_cons_succ] at hs); (refine Sep.st hs 0 rfl rfl rfl fun h hs => ?_; simp only [List.set_cons_zero, List.set_cons_succ] at hs); (refine Sep.st hs 0 rfl rfl rfl fun h hs => ?_; simp only [List.set_cons_zero, List.set_cons_succ] at hs); (refine Sep.st hs 0 rfl rfl rfl fun h hs => ?_; simp only [List.set_cons_zero, List.set_cons_succ] at hs); (refine Sep.st hs 0 rfl rfl rfl fun h hs => ?_; simp only [List.set_cons_zero, List.set_cons_succ] at hs); (refine Sep.st hs 0 rfl rfl rfl fun h hs => ?_; simp only [List.set_cons_zero, List.set_cons_succ] at hs); refine Sep.ldI hs 0 rfl rfl ?_; refine Sep.ldI hs 0 rfl rfl ?_; refine Sep.ldI hs 0 rfl rfl ?_; refine Sep.ldI hs 0 rfl rfl ?_; refine Sep.ldI hs 0 rfl rfl ?_; refine Sep.ldI hs 0 rfl rfl ?_; refine Sep.ldI hs 0 rfl rfl ?_; simp only [add_mk, Nat.zero_add, mBind_ap])
      generalize l[k] = r at *
      refine (rel_s hs r).mono ?_
      rintro v h ⟨rfl, hs⟩
      have skip : ∀ (h : Hp) , (∀ t, lastF ts.length (l.take k ++ [r]) t = lastF ts.length (l.take k) t) → soon ts (l.take k) r = [] → Sep h1 h [aBlk nb_1 r.enc, aMap m .i64 f n, aBlk nb c.enc, aRow Fl.enc 2 out (soons ts l k)] →
          K_monitor_All_4 ⟨nb, 0, none⟩ out (some m) ls (ls.n : Int) (IntKind.i64.wrap ((k : Int) + 1)) h (fun v h' => ∃ out : Sl, v = .slice out.p out.n out.c ∧ Sep h1 h' [aRow Fl.enc 2 out (soons ts l l.length)]) := by
        intro h hla hso0 hs
        rw [wrap64 _ (by omega), show (k : Int) + 1 = ((k + 1 : Nat) : Int) by omega]
        refine ih (k + 1) h out f n (by omega) (fun t => ?_) ?_
        · rw [htk, hla, hf]
        · rw [hsu, hso0, List.append_nil]
          exact hs.drop
      cases hr : rel r with
      | false =>
        (simp only [unB_bool, Bool.not_false, mIf_true, mBind_ap]; rw [mRet_ap]; simp only [mIf_true]; rw [mRet_ap]; simp only [mIf_true])
        refine skip h (fun t => ?_) ?_ hs
        · unfold lastF; rw [prevAt_snoc, hr]; simp
        · unfold soon; rw [hr]; rfl
      | true =>
        (simp only [unB_bool, Bool.not_true, mIf_false, mBind_ap]; refine Sep.ldI hs 0 rfl rfl ?_; rw [mRet_ap])
        by_cases hin : 0 ≤ r.task ∧ r.task < ts.length
        · obtain ⟨j, hj⟩ : ∃ j : Nat, r.task = j := ⟨r.task.toNat, by omega⟩
          have hjn : j < ts.length := by omega
          have hla : ∀ (v : Int), v = clampv r.at_ → ∀ t, (if t = r.task then some (Value.int .i64 v) else f t) = lastF ts.length (l.take k ++ [r]) t := by
            intro v hv t
            rw [hf t]
            unfold lastF
            rw [prevAt_snoc, hr]
            by_cases ht : t = r.task
            · subst ht
              rw [if_pos rfl, if_pos hin]
              simp [hv]
            · have : (r.task == t) = false := by simpa using fun h => ht h.symm
              rw [if_neg ht, this]
              rfl
          have hft : f r.task = (prevAt (l.take k) r.task).map (Value.int .i64 ·) := by rw [hf]; unfold lastF; rw [if_pos hin]
          have hgd : (ts.map (·.period)).getD r.task.toNat 0 = ts[j].period := by
            rw [hj, Int.toNat_natCast, List.getD_eq_getElem?_getD, List.getElem?_map, List.getElem?_eq_getElem hjn]
            rfl
          have next : ∀ (h : Hp) (out : Sl) (f' : Int → Option Value), (∀ t, f' t = lastF ts.length (l.take k ++ [r]) t) → (∃ n, Sep h1 h [aMap m .i64 f' n, aBlk nb c.enc, aRow Fl.enc 2 out (soons ts l k ++ soon ts (l.take k) r)]) →
              K_monitor_All_4 ⟨nb, 0, none⟩ out (some m) ls (ls.n : Int) (IntKind.i64.wrap ((k : Int) + 1)) h (fun v h' => ∃ out : Sl, v = .slice out.p out.n out.c ∧ Sep h1 h' [aRow Fl.enc 2 out (soons ts l l.length)]) := by
            rintro h out f' hf' ⟨n, hs⟩
            rw [wrap64 _ (by omega), show (k : Int) + 1 = ((k + 1 : Nat) : Int) by omega]
            refine ih (k + 1) h out f' n (by omega) (fun t => ?_) ?_
            · rw [htk, hf']
            · rw [hsu]; exact hs
          (rw [decide_eq_false (by omega), mIf_false]; refine Sep.ldI hs 0 rfl rfl ?_; refine Sep.ldL hs 2 rfl rfl ?_; rw [mRet_ap]; rw [decide_eq_false (by omega), mIf_false]; refine Sep.ldI hs 0 rfl rfl ?_; refine Sep.mapGet hs 1 rfl ?_)
          cases hp : prevAt (l.take k) r.task with
          | none =>
            rw [hp] at hft
            rw [hft]
            simp only [Option.map_none]
            (simp only [Option.getD_none, Option.isSome_none, mIf_false, unI_int, mBind_ap]; rw [mRet_ap]; simp only [mIf_false]; refine Sep.ldI hs 0 rfl rfl ?_; refine Sep.ldI hs 0 rfl rfl ?_)
            refine mQ_intro _ (clamp_q _ _) ?_
            (simp only [unI_int]; (refine Sep.mapSet hs 1 rfl fun h hs => ?_; simp only [List.set_cons_zero, List.set_cons_succ] at hs))
            refine next h out _ (hla _ rfl) ?_
            have : soon ts (l.take k) r = [] := by unfold soon; rw [hr, hp]; rfl
            rw [this, List.append_nil]
            exact ⟨_, hs.drop⟩
          | some was =>
            have hwb := prevAt_b hp
            have hcb := clampv_b r.at_
            rw [hp] at hft
            rw [hft]
            simp only [Option.map_some]
            (simp only [Option.getD_some, Option.isSome_some, mIf_true, unI_int, mBind_ap]; refine Sep.ldI hs 0 rfl rfl ?_)
            refine mQ_intro _ (clamp_q _ _) ?_
            (simp only [unI_int]; refine Sep.ldL hs 2 rfl rfl ?_; refine Sep.ldI hs 0 rfl rfl ?_)
            rw [hj]
            (refine Sep.argEn hs ht (by first | omega | (simp only [List.length_set, List.length_map, List.length_replicate, List.length_append, List.length_cons, List.length_nil, List.length_reverse, List.length_range]; omega) | (simp; omega)) fun aa_1 haa_1 => ?_; refine Arg.ldI haa_1 rfl ?_)
            refine mQ_intro _ (clamp_q _ _) ?_
            (simp only [unI_int]; rw [mRet_ap])
            rw [wrap64 _ (by omega)]
            refine mIf_dec (fun hc => ?_) (fun hc => ?_)
            · (refine Sep.ldI hs 0 rfl rfl ?_; refine Sep.ldI hs 0 rfl rfl ?_; (refine Sep.new hs fun nb_2 h hs => ?_; try simp only [List.toList_toArray] at hs))
              have hsn : soon ts (l.take k) r = [⟨r.at_, r.task⟩] := by
                unfold soon; rw [hr, hp, hgd]
                simp only [if_true]
                rw [if_pos ⟨hin.1, hin.2, hc⟩]
              refine hs.app1 4 0 ⟨r.at_, r.task⟩ rfl rfl (fun _ => rfl) (by simp [Fl.enc, Value.oneCell']) rfl (by omega) (by omega) fun s' h hn' hs => ?_
              simp only [List.set_cons_zero, List.set_cons_succ] at hs
              (refine Sep.ldI hs 1 rfl rfl ?_; refine Sep.ldI hs 1 rfl rfl ?_)
              refine mQ_intro _ (clamp_q _ _) ?_
              (simp only [unI_int]; (refine Sep.mapSet hs 2 rfl fun h hs => ?_; simp only [List.set_cons_zero, List.set_cons_succ] at hs))
              refine next h s' _ (hla _ rfl) ?_
              rw [hsn]
              exact ⟨_, hs.drop.drop⟩
            · have hsn : soon ts (l.take k) r = [] := by
                unfold soon; rw [hr, hp, hgd]
                simp only [if_true]
                rw [if_neg (fun h => hc h.2.2)]
              (refine Sep.ldI hs 0 rfl rfl ?_; refine Sep.ldI hs 0 rfl rfl ?_)
              refine mQ_intro _ (clamp_q _ _) ?_
              (simp only [unI_int]; (refine Sep.mapSet hs 1 rfl fun h hs => ?_; simp only [List.set_cons_zero, List.set_cons_succ] at hs))
              refine next h out _ (hla _ rfl) ?_
              rw [hsn, List.append_nil]
              exact ⟨_, hs.drop⟩
        · have hla : ∀ t, lastF ts.length (l.take k ++ [r]) t = lastF ts.length (l.take k) t := by
            intro t
            unfold lastF
            rw [prevAt_snoc, hr]
            by_cases ht : r.task = t
            · subst ht; rw [if_neg hin, if_neg hin]
            · simp [ht]
          have hsn : soon ts (l.take k) r = [] := by
            unfold soon; rw [hr]
            simp only [if_true]
            split
            · rw [if_neg (fun h => hin ⟨h.1, h.2.1⟩)]
            · rfl
          by_cases hneg : r.task < 0
          · (rw [decide_eq_true (by omega), mIf_true]; rw [mRet_ap]; simp only [mIf_true])
            exact skip h hla hsn hs
          · (rw [decide_eq_false (by omega), mIf_false]; refine Sep.ldI hs 0 rfl rfl ?_; refine Sep.ldL hs 2 rfl rfl ?_; rw [mRet_ap]; rw [decide_eq_true (by omega), mIf_true])
            exact skip h hla hsn hs
  exact loop l.length 0 h ⟨none, 0, 0⟩ _ _ (by omega) (fun t => by simp [lastF, prevAt]) ((hs.nilRow Fl.enc 2).re [1, 2, 0] rfl)
theorem Gaps_s (hl : RdE h1.size h1 Rec.enc 7 ls l) (hlen : l.length ≤ 1000) (t : Int) :
    N_monitor_Gaps ls t h1 (fun v h' => ∃ out : Sl, v = .slice out.p out.n out.c ∧ Sep h1 h' [aRow encI 1 out (gaps l t l.length)]) := by
  have hln := hl.n
  apply S_monitor_Gaps
  unfold B_monitor_Gaps
  have loop : ∀ (d k : Nat) (h : Hp) (out : Sl), k + d = l.length → Sep h1 h [aRow encI 1 out (gaps l t k)] →
      K_monitor_Gaps_4 t out ((prevAt (l.take k) t).getD 0) (prevAt (l.take k) t).isSome ls (ls.n : Int) (k : Int) h (fun v h' => ∃ out : Sl, v = .slice out.p out.n out.c ∧ Sep h1 h' [aRow encI 1 out (gaps l t l.length)]) := by
    intro d
    induction d with
    | zero =>
      intro k h out hk hs
      apply S_monitor_Gaps_4
      unfold B_monitor_Gaps_4
      (rw [decide_eq_false (by omega), mIf_false])
      obtain rfl : k = l.length := by omega
      exact ⟨out, rfl, hs⟩
    | succ d ih =>
      intro k h out hk hs
      have hkl : k < l.length := by omega
      have hsu := gaps_succ l t hkl
      have hgl := gaps_len l t k
      have htk : l.take (k + 1) = l.take k ++ [l[k]] := List.take_succ_eq_append_getElem hkl
      have ih' := ih (k + 1)
      rw [htk, prevAt_snoc, hsu] at ih'
      apply S_monitor_Gaps_4
      unfold B_monitor_Gaps_4
      (rw [decide_eq_true (by omega), mIf_true]; refine Sep.argEn hs hl (by first | omega | (simp only [List.length_set, List.length_map, List.length_replicate, List.length_append, List.length_cons, List.length_nil, List.length_reverse, List.length_range]; omega) | (simp; omega)) fun aa haa => ?_; refine Arg.ldI0 haa rfl ?_; refine Arg.ldI haa rfl ?_; refine Arg.ldI haa rfl ?_; refine Arg.ldI haa rfl ?_; refine Arg.ldI haa rfl ?_; refine Arg.ldI haa rfl ?_; refine Arg.ldI haa rfl ?_; (refine Sep.new hs fun nb h hs => ?_; try simp only [List.toList_toArray] at hs); (refine Sep.st hs 0 rfl rfl rfl fun h hs => ?_; simp only [List.set_cons_zero, List.set_cons_succ] at hs); (refine Sep.st hs 0 rfl rfl rfl fun h hs => ?_; simp only [List.set_cons_zero, List.set_cons_succ] at hs); (refine Sep.st hs 0 rfl rfl rfl fun h hs => ?_; simp only [List.set_cons_zero, List.set_cons_succ] at hs); (refine Sep.st hs 0 rfl rfl rfl fun h hs => ?_; simp only [List.set_cons_zero, List.set_cons_succ] at hs); (refine Sep.st hs 0 rfl rfl rfl fun h hs => ?_; simp only [List.set_cons_zero, List.set_cons_succ] at hs); (refine Sep.st hs 0 rfl rfl rfl fun h hs => ?_; simp only [List.set_cons_zero, List.set_cons_succ] at hs); (refine Sep.st hs 0 rfl rfl rfl fun h hs => ?_; simp only [List.set_cons_zero, List.set_cons_succ] at hs); refine Sep.ldI hs 0 rfl rfl ?_; refine Sep.ldI hs 0 rfl rfl ?_; refine Sep.ldI hs 0 rfl rfl ?_; refine Sep.ldI hs 0 rfl rfl ?_; refine Sep.ldI hs 0 rfl rfl ?_; refine Sep.ldI hs 0 rfl rfl ?_; refine Sep.ldI hs 0 rfl rfl ?_; simp only [add_mk, Nat.zero_add, mBind_ap])
      generalize l[k] = r at *
      refine (rel_s hs r).mono ?_
      rintro v h ⟨rfl, hs⟩
      have skip : ∀ (h : Hp), (rel r && (r.task == t)) = false → Sep h1 h [aBlk nb r.enc, aRow encI 1 out (gaps l t k)] →
          K_monitor_Gaps_4 t out ((prevAt (l.take k) t).getD 0) (prevAt (l.take k) t).isSome ls (ls.n : Int) (IntKind.i64.wrap ((k : Int) + 1)) h (fun v h' => ∃ out : Sl, v = .slice out.p out.n out.c ∧ Sep h1 h' [aRow encI 1 out (gaps l t l.length)]) := by
        intro h hm hs
        rw [hm] at ih'
        simp only [Bool.false_eq_true, if_false] at ih'
        rw [wrap64 _ (by omega), show (k : Int) + 1 = ((k + 1 : Nat) : Int) by omega]
        refine ih' h out (by omega) ?_
        have : gap (l.take k) r t = [] := by unfold gap; rw [hm]; rfl
        rw [this, List.append_nil]
        exact hs.drop
      cases hr : rel r with
      | false =>
        (simp only [unB_bool, Bool.not_false, mIf_true, mBind_ap]; rw [mRet_ap]; simp only [mIf_true])
        exact skip h (by rw [hr]; rfl) hs
      | true =>
        (simp only [unB_bool, Bool.not_true, mIf_false, mBind_ap]; refine Sep.ldI hs 0 rfl rfl ?_; rw [mRet_ap])
        refine mIf_intro (fun hc => ?_) (fun hc => ?_)
        · exact skip h (by rw [hr]; simpa using hc) hs
        · have hm : (rel r && (r.task == t)) = true := by rw [hr]; simpa using hc
          rw [hm] at ih'
          simp only [if_true, Option.getD_some, Option.isSome_some] at ih'
          (refine Sep.ldI hs 0 rfl rfl ?_; simp only [mBind_ap])
          refine (clamp_q _ _).mono ?_
          rintro v h ⟨rfl, rfl⟩
          (simp only [unI_int])
          have hcb := clampv_b r.at_
          cases hp : prevAt (l.take k) t with
          | none =>
            (simp only [Option.isSome_none, Option.getD_none, mIf_false])
            rw [wrap64 _ (by omega), show (k : Int) + 1 = ((k + 1 : Nat) : Int) by omega]
            refine ih' _ out (by omega) ?_
            have : gap (l.take k) r t = [] := by unfold gap; rw [hm, hp]; rfl
            rw [this, List.append_nil]
            exact hs.drop
          | some was =>
            have hwb := prevAt_b hp
            (simp only [Option.isSome_some, Option.getD_some, mIf_true]; (refine Sep.new hs fun nb_1 h hs => ?_; try simp only [List.toList_toArray] at hs))
            rw [wrap64 (clampv r.at_ - was) (by omega)] at hs
            refine hs.app1 2 0 (clampv r.at_ - was) rfl rfl (fun _ => rfl) (by simp [Value.oneCell']) rfl (by omega) (by omega) fun s' h hn' hs => ?_
            simp only [List.set_cons_zero, List.set_cons_succ] at hs
            rw [wrap64 _ (by omega), show (k : Int) + 1 = ((k + 1 : Nat) : Int) by omega]
            refine ih' h s' (by omega) ?_
            have : gap (l.take k) r t = [clampv r.at_ - was] := by unfold gap; rw [hm, hp]; rfl
            rw [this]
            exact hs.drop.drop
  exact loop l.length 0 h1 ⟨none, 0, 0⟩ (by omega) ((Sep.init h1).nilRow encI 1)
def headF (fs : List Fl) : Fl := fs.headD ⟨0, 0⟩
theorem First_s (ht : RdE h1.size h1 CTask.enc 7 c.tasks ts) (hl : RdE h1.size h1 Rec.enc 7 ls l) (hlen : l.length ≤ 1000) :
    N_monitor_First c.machine.sets c.machine.ways c.machine.hit c.machine.miss c.mailboxes c.groups c.counts c.ceilings c.tasks c.lines ls h1
      (fun v h' => v = .tuple #[.agg #[.int .i64 (headF (soons ts l l.length)).at_, .int .i64 (headF (soons ts l l.length)).task], .bool (!(soons ts l l.length).isEmpty)] ∧ Sep h1 h' []) := by
  apply S_monitor_First
  unfold B_monitor_First
  have hs := Sep.init h1
  ((refine Sep.new hs fun nb h hs => ?_; try simp only [List.toList_toArray] at hs); (refine Sep.new hs fun nb_1 h hs => ?_; try simp only [List.toList_toArray] at hs); refine Sep.ldI hs 1 rfl rfl ?_; refine Sep.ldI hs 1 rfl rfl ?_; refine Sep.ldI hs 1 rfl rfl ?_; refine Sep.ldI hs 1 rfl rfl ?_; refine Sep.ldL hs 1 rfl rfl ?_; refine Sep.ldI hs 1 rfl rfl ?_; refine Sep.ldL hs 1 rfl rfl ?_; refine Sep.ldL hs 1 rfl rfl ?_; refine Sep.ldL hs 1 rfl rfl ?_; refine Sep.ldL hs 1 rfl rfl ?_; simp only [add_mk, Nat.zero_add, mBind_ap])
  refine (All_s (c := c) (ht.now hs) (hl.now hs) hlen).mono ?_
  rintro v h' ⟨out, rfl, hs'⟩
  have hs := hs.rebase hs'
  simp only [List.cons_append, List.nil_append] at hs
  have hrn := hs.rowLen 0 rfl
  rw [unL_slice]
  generalize soons ts l l.length = fs at *
  cases fs with
  | nil =>
    simp only [List.length_nil] at hrn
    (simp only; rw [decide_eq_false (by omega), mIf_false]; (refine Sep.st hs 1 rfl rfl rfl fun h hs => ?_; simp only [List.set_cons_zero, List.set_cons_succ] at hs); (refine Sep.st hs 1 rfl rfl rfl fun h hs => ?_; simp only [List.set_cons_zero, List.set_cons_succ] at hs); refine Sep.ldI hs 1 rfl rfl ?_; refine Sep.ldI hs 1 rfl rfl ?_)
    exact ⟨rfl, hs.drop.drop.drop⟩
  | cons f fs =>
    simp only [List.length_cons] at hrn
    (simp only; rw [decide_eq_true (by omega), mIf_true]; (refine Sep.idx hs 0 rfl (by first | omega | (simp only [List.length_set, List.length_map, List.length_replicate, List.length_append, List.length_cons, List.length_nil, List.length_reverse, List.length_range]; omega) | (simp; omega)) (by first | omega | (simp only [List.length_set, List.length_map, List.length_replicate, List.length_append, List.length_cons, List.length_nil, List.length_reverse, List.length_range]; omega) | (simp; omega)) fun aa haa => ?_; try simp only [Int.toNat_natCast] at haa); refine Sep.rldI0 hs 0 rfl (fun _ => rfl) haa (List.getElem?_eq_getElem (by first | omega | (simp only [List.length_set, List.length_map, List.length_replicate, List.length_append, List.length_cons, List.length_nil, List.length_reverse, List.length_range]; omega) | (simp; omega))) rfl ?_; refine Sep.rldI hs 0 rfl (fun _ => rfl) haa (List.getElem?_eq_getElem (by first | omega | (simp only [List.length_set, List.length_map, List.length_replicate, List.length_append, List.length_cons, List.length_nil, List.length_reverse, List.length_range]; omega) | (simp; omega))) rfl ?_; (refine Sep.st hs 1 rfl rfl rfl fun h hs => ?_; simp only [List.set_cons_zero, List.set_cons_succ] at hs); (refine Sep.st hs 1 rfl rfl rfl fun h hs => ?_; simp only [List.set_cons_zero, List.set_cons_succ] at hs); refine Sep.ldI hs 1 rfl rfl ?_; refine Sep.ldI hs 1 rfl rfl ?_)
    exact ⟨rfl, hs.drop.drop.drop⟩
/-- is this job late? -/
def late (ts : List CTask) (now : Int) (r : Rep) : Bool := decide (0 ≤ r.task ∧ r.task < ts.length) && decide (clampv (if r.end_ < 0 then now else r.end_) > clampv r.release + clampv ((ts.map (·.deadline)).getD r.task.toNat 0))
def lates (ts : List CTask) (now : Int) (l : List Rep) : Nat → List Int
  | 0 => []
  | k + 1 => lates ts now l k ++ match l[k]? with
    | some r => if late ts now r then [(k : Int)] else []
    | none => []
theorem lates_succ (ts : List CTask) (now : Int) (l : List Rep) {k : Nat} (hk : k < l.length) : lates ts now l (k + 1) = lates ts now l k ++ if late ts now l[k] then [(k : Int)] else [] := by
  simp only [lates, List.getElem?_eq_getElem hk]
theorem lates_len (ts : List CTask) (now : Int) (l : List Rep) : ∀ k, (lates ts now l k).length ≤ k
  | 0 => by simp [lates]
  | k + 1 => by
    have := lates_len ts now l k
    simp only [lates, List.length_append]
    cases l[k]? with
    | none => simp; omega
    | some r => simp only []; split <;> simp <;> omega
theorem Late_s {l : List Rep} (ht : RdE h1.size h1 CTask.enc 7 c.tasks ts) (hl : RdE h1.size h1 Rep.enc 11 ls l) (hlen : l.length ≤ 1000) (now : Int) :
    N_monitor_Late c.machine.sets c.machine.ways c.machine.hit c.machine.miss c.mailboxes c.groups c.counts c.ceilings c.tasks c.lines ls now h1 (fun v h' => ∃ out : Sl, v = .slice out.p out.n out.c ∧ Sep h1 h' [aRow encI 1 out (lates ts now l l.length)]) := by
  have htn := ht.n
  have hln := hl.n
  apply S_monitor_Late
  unfold B_monitor_Late
  have hs := Sep.init h1
  ((refine Sep.new hs fun nb h hs => ?_; try simp only [List.toList_toArray] at hs))
  have loop : ∀ (d k : Nat) (h : Hp) (out : Sl), k + d = l.length → Sep h1 h [aBlk nb c.enc, aRow encI 1 out (lates ts now l k)] →
      K_monitor_Late_3 now ⟨nb, 0, none⟩ out ls (ls.n : Int) (k : Int) h (fun v h' => ∃ out : Sl, v = .slice out.p out.n out.c ∧ Sep h1 h' [aRow encI 1 out (lates ts now l l.length)]) := by
    intro d
    induction d with
    | zero =>
      intro k h out hk hs
      apply S_monitor_Late_3
      unfold B_monitor_Late_3
      (simp only [add_mk, Nat.zero_add]; rw [decide_eq_false (by omega), mIf_false])
      obtain rfl : k = l.length := by omega
      exact ⟨out, rfl, hs.drop⟩
    | succ d ih =>
      intro k h out hk hs
      have hkl : k < l.length := by omega
      have hsu := lates_succ ts now l hkl
      have hll := lates_len ts now l k
      apply S_monitor_Late_3
      unfold B_monitor_Late_3
      (simp only [add_mk, Nat.zero_add]; rw [decide_eq_true (by omega), mIf_true]; refine Sep.argEn hs hl (by first | omega | (simp only [List.length_set, List.length_map, List.length_replicate, List.length_append, List.length_cons, List.length_nil, List.length_reverse, List.length_range]; omega) | (simp; omega)) fun aa haa => ?_; refine Arg.ldI0 haa rfl ?_; refine Arg.ldI haa rfl ?_; refine Arg.ldI haa rfl ?_; refine Arg.ldI haa rfl ?_; refine Arg.ldI haa rfl ?_; refine Arg.ldB haa rfl ?_; refine Arg.ldI haa rfl ?_; refine Arg.ldI haa rfl ?_; refine Arg.ldI haa rfl ?_; refine Arg.ldI haa rfl ?_; refine Arg.ldI haa rfl ?_; (refine Sep.new hs fun nb_1 h hs => ?_; try simp only [List.toList_toArray] at hs); (refine Sep.st hs 0 rfl rfl rfl fun h hs => ?_; simp only [List.set_cons_zero, List.set_cons_succ] at hs); (refine Sep.st hs 0 rfl rfl rfl fun h hs => ?_; simp only [List.set_cons_zero, List.set_cons_succ] at hs); (refine Sep.st hs 0 rfl rfl rfl fun h hs => ?_; simp only [List.set_cons_zero, List.set_cons_succ] at hs); (refine Sep.st hs 0 rfl rfl rfl fun h hs => ?_; simp only [List.set_cons_zero, List.set_cons_succ] at hs); (refine Sep.st hs 0 rfl rfl rfl fun h hs => ?_; simp only [List.set_cons_zero, List.set_cons_succ] at hs); (refine Sep.st hs 0 rfl rfl rfl fun h hs => ?_; simp only [List.set_cons_zero, List.set_cons_succ] at hs); (refine Sep.st hs 0 rfl rfl rfl fun h hs => ?_; simp only [List.set_cons_zero, List.set_cons_succ] at hs); (refine Sep.st hs 0 rfl rfl rfl fun h hs => ?_; simp only [List.set_cons_zero, List.set_cons_succ] at hs); (refine Sep.st hs 0 rfl rfl rfl fun h hs => ?_; simp only [List.set_cons_zero, List.set_cons_succ] at hs); (refine Sep.st hs 0 rfl rfl rfl fun h hs => ?_; simp only [List.set_cons_zero, List.set_cons_succ] at hs); (refine Sep.st hs 0 rfl rfl rfl fun h hs => ?_; simp only [List.set_cons_zero, List.set_cons_succ] at hs); refine Sep.ldI hs 0 rfl rfl ?_; simp only [add_mk, Nat.zero_add, mBind_ap])
      generalize l[k] = r at *
      have next : ∀ (h : Hp) (out : Sl), Sep h1 h [aBlk nb c.enc, aRow encI 1 out (lates ts now l k ++ if late ts now r then [(k : Int)] else [])] →
          K_monitor_Late_3 now ⟨nb, 0, none⟩ out ls (ls.n : Int) (IntKind.i64.wrap ((k : Int) + 1)) h (fun v h' => ∃ out : Sl, v = .slice out.p out.n out.c ∧ Sep h1 h' [aRow encI 1 out (lates ts now l l.length)]) := by
        intro h out hs
        rw [wrap64 _ (by omega), show (k : Int) + 1 = ((k + 1 : Nat) : Int) by omega]
        refine ih (k + 1) h out (by omega) ?_
        rw [hsu]; exact hs
      by_cases hin : 0 ≤ r.task ∧ r.task < ts.length
      · (rw [decide_eq_false (by omega), mIf_false]; refine Sep.ldI hs 0 rfl rfl ?_; refine Sep.ldL hs 1 rfl rfl ?_; rw [mRet_ap]; rw [decide_eq_false (by omega), mIf_false]; refine Sep.ldI hs 0 rfl rfl ?_)
        have k9 : ∀ (e : Int), e = (if r.end_ < 0 then now else r.end_) → K_monitor_Late_9 now ⟨nb, 0, none⟩ out (k : Int) ⟨nb_1, 0, none⟩ e ls (ls.n : Int) (k : Int) h (fun v h' => ∃ out : Sl, v = .slice out.p out.n out.c ∧ Sep h1 h' [aRow encI 1 out (lates ts now l l.length)]) := by
          intro e he
          obtain ⟨j, hj⟩ : ∃ j : Nat, r.task = j := ⟨r.task.toNat, by omega⟩
          have hjn : j < ts.length := by omega
          have hgd : (ts.map (·.deadline)).getD r.task.toNat 0 = ts[j].deadline := by
            rw [hj, Int.toNat_natCast, List.getD_eq_getElem?_getD, List.getElem?_map, List.getElem?_eq_getElem hjn]
            rfl
          have hlt : late ts now r = decide (clampv e > clampv r.release + clampv ts[j].deadline) := by
            unfold late
            rw [decide_eq_true hin, hgd, he]; rfl
          have b1 := clampv_b r.release
          have b2 := clampv_b ts[j].deadline
          apply S_monitor_Late_9
          unfold B_monitor_Late_9
          refine mQ_intro _ (clamp_q _ _) ?_
          (simp only [add_mk, Nat.zero_add, unI_int]; refine Sep.ldI hs 0 rfl rfl ?_)
          refine mQ_intro _ (clamp_q _ _) ?_
          (simp only [unI_int]; refine Sep.ldL hs 1 rfl rfl ?_; refine Sep.ldI hs 0 rfl rfl ?_)
          rw [hj]
          (refine Sep.argEn hs ht (by first | omega | (simp only [List.length_set, List.length_map, List.length_replicate, List.length_append, List.length_cons, List.length_nil, List.length_reverse, List.length_range]; omega) | (simp; omega)) fun aa_1 haa_1 => ?_; refine Arg.ldI haa_1 rfl ?_)
          refine mQ_intro _ (clamp_q _ _) ?_
          (simp only [unI_int])
          rw [wrap64 _ (by omega)]
          refine mIf_dec (fun hc => ?_) (fun hc => ?_)
          · ((refine Sep.new hs fun nb_2 h hs => ?_; try simp only [List.toList_toArray] at hs))
            refine hs.app1 3 0 (k : Int) rfl rfl (fun _ => rfl) (by simp [Value.oneCell']) rfl (by omega) (by omega) fun s' h hn' hs => ?_
            simp only [List.set_cons_zero, List.set_cons_succ] at hs
            refine next h s' ?_
            rw [hlt, decide_eq_true hc, if_pos rfl]
            exact hs.drop.drop
          · refine next _ out ?_
            rw [hlt, decide_eq_false hc]
            simp only [Bool.false_eq_true, if_false, List.append_nil]
            exact hs.drop
        refine mIf_dec (fun hc => ?_) (fun hc => ?_)
        · exact k9 now (by rw [if_pos hc])
        · exact k9 r.end_ (by rw [if_neg hc])
      · have hlt : late ts now r = false := by unfold late; rw [decide_eq_false hin]; rfl
        rw [hlt] at next
        simp only [Bool.false_eq_true, if_false, List.append_nil] at next
        by_cases hneg : r.task < 0
        · (rw [decide_eq_true (by omega), mIf_true]; rw [mRet_ap]; simp only [mIf_true])
          exact next h out hs.drop
        · (rw [decide_eq_false (by omega), mIf_false]; refine Sep.ldI hs 0 rfl rfl ?_; refine Sep.ldL hs 1 rfl rfl ?_; rw [mRet_ap]; rw [decide_eq_true (by omega), mIf_true])
          exact next h out hs.drop
  exact loop l.length 0 h ⟨none, 0, 0⟩ (by omega) ((hs.nilRow encI 1).re [1, 0] rfl)
end calls
section
variable {h0 h : Hp} {R : List As}
def t19 : CTask := ⟨0, 0, 10, 10, 0, 0, ⟨none, 0, 0⟩⟩
def l19 : List Rec := [⟨0, 1, 0, 0, 0, 0, 0⟩, ⟨5, 3, 0, 0, 0, 0, 0⟩, ⟨9, 2, 0, 0, 0, 0, 0⟩, ⟨19, 1, 0, 0, 0, 0, 0⟩]
def p19 : List Rep := [⟨0, 0, 3, 0, 13, false, 0, 0, 0, 0, 0⟩, ⟨0, 0, 3, 0, 14, false, 0, 0, 0, 0, 0⟩, ⟨0, 0, 3, 0, -1, false, 0, 0, 0, 0, 0⟩]
def c19 (tb : Nat) : Conf := ⟨⟨0, 0, 0, 0⟩, ⟨none, 0, 0⟩, 0, ⟨none, 0, 0⟩, ⟨none, 0, 0⟩, ⟨some ⟨tb, 0, none⟩, 1, 1⟩, ⟨none, 0, 0⟩⟩
theorem fixed19_s (hs : Sep h0 h R) : N_signalboxlaw19_fixed h (fun v h' => v = .bool true ∧ Sep h0 h' R) := by
  apply S_signalboxlaw19_fixed
  unfold B_signalboxlaw19_fixed
  refine hs.new fun tb h hs => ?_
  simp only [List.toList_toArray] at hs
  have hs := Blk.row (enc := CTask.enc) (sz := 7) (xs := [t19]) hs 0 rfl rfl (n := 1) rfl
  simp only [List.set_cons_zero] at hs
  ((refine Sep.new hs fun nb h hs => ?_; try simp only [List.toList_toArray] at hs); (refine Sep.st hs 0 rfl rfl rfl fun h hs => ?_; simp only [List.set_cons_zero, List.set_cons_succ] at hs); (refine Sep.st hs 0 rfl rfl rfl fun h hs => ?_; simp only [List.set_cons_zero, List.set_cons_succ] at hs); (refine Sep.st hs 0 rfl rfl rfl fun h hs => ?_; simp only [List.set_cons_zero, List.set_cons_succ] at hs); (refine Sep.st hs 0 rfl rfl rfl fun h hs => ?_; simp only [List.set_cons_zero, List.set_cons_succ] at hs); (refine Sep.st hs 0 rfl rfl rfl fun h hs => ?_; simp only [List.set_cons_zero, List.set_cons_succ] at hs); (refine Sep.st hs 0 rfl rfl rfl fun h hs => ?_; simp only [List.set_cons_zero, List.set_cons_succ] at hs); (refine Sep.st hs 0 rfl rfl rfl fun h hs => ?_; simp only [List.set_cons_zero, List.set_cons_succ] at hs); (refine Sep.st hs 0 rfl rfl rfl fun h hs => ?_; simp only [List.set_cons_zero, List.set_cons_succ] at hs); (refine Sep.st hs 0 rfl rfl rfl fun h hs => ?_; simp only [List.set_cons_zero, List.set_cons_succ] at hs); (refine Sep.st hs 0 rfl rfl rfl fun h hs => ?_; simp only [List.set_cons_zero, List.set_cons_succ] at hs); (refine Sep.new hs fun nb_1 h hs => ?_; try simp only [List.toList_toArray] at hs); refine Sep.ldI hs 1 rfl rfl ?_; refine Sep.ldI hs 1 rfl rfl ?_; refine Sep.ldI hs 1 rfl rfl ?_; refine Sep.ldI hs 1 rfl rfl ?_; refine Sep.ldL' hs 1 rfl rfl ?_; refine Sep.ldI hs 1 rfl rfl ?_; refine Sep.ldL' hs 1 rfl rfl ?_; refine Sep.ldL' hs 1 rfl rfl ?_; refine Sep.ldL' hs 1 rfl rfl ?_; refine Sep.ldL' hs 1 rfl rfl ?_; simp only [add_mk, Nat.zero_add, Bool.and_true, mBind_ap])
  have hs := Blk.row (enc := Rec.enc) (sz := 7) (xs := l19) hs 0 rfl rfl (n := 4) rfl
  simp only [List.set_cons_zero] at hs
  refine (First_s (c := c19 tb) (hs.rowE 2 rfl (fun _ => rfl) (by omega)) (hs.rowE 0 rfl (fun _ => rfl) (by omega)) (by decide)).mono ?_
  rintro v h' ⟨rfl, hs'⟩
  have hs := hs.rebase hs'
  simp only [List.nil_append] at hs
  rw [show headF (soons [t19] l19 l19.length) = ⟨9, 0⟩ by rfl, show (!(soons [t19] l19 l19.length).isEmpty) = true by rfl]
  (simp only [unT_tuple, unC_cons, unE_nil, unB_bool, mIf_true, unA_agg, unI_int]; (refine Sep.new hs fun nb_2 h hs => ?_; try simp only [List.toList_toArray] at hs); (refine Sep.st hs 0 rfl rfl rfl fun h hs => ?_; simp only [List.set_cons_zero, List.set_cons_succ] at hs); (refine Sep.st hs 0 rfl rfl rfl fun h hs => ?_; simp only [List.set_cons_zero, List.set_cons_succ] at hs); simp only [add_mk, Nat.zero_add, mBind_ap])
  refine (Gaps_s (hs.rowE 1 rfl (fun _ => rfl) (by omega)) (by decide) 0).mono ?_
  rintro v h' ⟨gs, rfl, hs'⟩
  have hs := hs.rebase hs'
  simp only [List.cons_append, List.nil_append] at hs
  rw [show gaps l19 0 l19.length = [9, 10] by rfl] at hs
  have hgn := hs.rowLen 0 rfl
  (simp only [unL_slice]; refine Sep.ldI hs 3 rfl rfl ?_; refine Sep.ldI hs 3 rfl rfl ?_; refine Sep.ldI hs 3 rfl rfl ?_; refine Sep.ldI hs 3 rfl rfl ?_; refine Sep.ldL' hs 3 rfl rfl ?_; refine Sep.ldI hs 3 rfl rfl ?_; refine Sep.ldL' hs 3 rfl rfl ?_; refine Sep.ldL' hs 3 rfl rfl ?_; refine Sep.ldL' hs 3 rfl rfl ?_; refine Sep.ldL' hs 3 rfl rfl ?_; (refine Sep.new hs fun nb_3 h hs => ?_; try simp only [List.toList_toArray] at hs); simp only [mBind_ap])
  have hs := Blk.row (enc := Rep.enc) (sz := 11) (xs := p19) hs 0 rfl rfl (n := 3) rfl
  simp only [List.set_cons_zero] at hs
  refine (Late_s (c := c19 tb) (hs.rowE 5 rfl (fun _ => rfl) (by omega)) (hs.rowE 0 rfl (fun _ => rfl) (by omega)) (by decide) 14).mono ?_
  rintro v h' ⟨es, rfl, hs'⟩
  have hs := hs.rebase hs'
  simp only [List.cons_append, List.nil_append] at hs
  rw [show lates [t19] 14 p19 p19.length = [1, 2] by rfl] at hs
  have hen := hs.rowLen 0 rfl
  (simp only [unL_slice, mBind_ap]; refine Sep.ldI hs 3 rfl rfl ?_; refine Sep.ldI hs 3 rfl rfl ?_; rw [mRet_ap])
  refine mIf_pos rfl ?_
  (refine Sep.ldI hs 5 rfl rfl ?_; refine Sep.ldI hs 5 rfl rfl ?_; refine Sep.ldI hs 5 rfl rfl ?_; refine Sep.ldI hs 5 rfl rfl ?_; refine Sep.ldL' hs 5 rfl rfl ?_; refine Sep.ldI hs 5 rfl rfl ?_; refine Sep.ldL' hs 5 rfl rfl ?_; refine Sep.ldL' hs 5 rfl rfl ?_; refine Sep.ldL' hs 5 rfl rfl ?_; refine Sep.ldL' hs 5 rfl rfl ?_; simp only [mBind_ap])
  refine (All_s (c := c19 tb) (hs.rowE 6 rfl (fun _ => rfl) (by omega)) (hs.rowE 4 rfl (fun _ => rfl) (by omega)) (by decide)).mono ?_
  rintro v h' ⟨fs, rfl, hs'⟩
  have hs := hs.rebase hs'
  simp only [List.cons_append, List.nil_append] at hs
  have hfn := hs.rowLen 0 rfl
  rw [show (soons [t19] l19 l19.length).length = 1 by rfl] at hfn
  (simp only [unL_slice]; rw [mRet_ap])
  refine mIf_pos (by rw [hfn, hgn]; rfl) ?_
  ((refine Sep.idx hs 3 rfl (by first | omega | (simp only [List.length_set, List.length_map, List.length_replicate, List.length_append, List.length_cons, List.length_nil, List.length_reverse, List.length_range]; omega) | (simp; omega)) (by first | omega | (simp only [List.length_set, List.length_map, List.length_replicate, List.length_append, List.length_cons, List.length_nil, List.length_reverse, List.length_range]; omega) | (simp; omega)) fun aa haa => ?_; try simp only [Int.toNat_natCast] at haa); refine Sep.rldI0 hs 3 rfl (fun _ => rfl) haa (List.getElem?_eq_getElem (by first | omega | (simp only [List.length_set, List.length_map, List.length_replicate, List.length_append, List.length_cons, List.length_nil, List.length_reverse, List.length_range]; omega) | (simp; omega))) rfl ?_; rw [mRet_ap])
  refine mIf_pos rfl ?_
  ((refine Sep.idx hs 3 rfl (by first | omega | (simp only [List.length_set, List.length_map, List.length_replicate, List.length_append, List.length_cons, List.length_nil, List.length_reverse, List.length_range]; omega) | (simp; omega)) (by first | omega | (simp only [List.length_set, List.length_map, List.length_replicate, List.length_append, List.length_cons, List.length_nil, List.length_reverse, List.length_range]; omega) | (simp; omega)) fun aa_1 haa_1 => ?_; try simp only [Int.toNat_natCast] at haa_1); refine Sep.rldI0 hs 3 rfl (fun _ => rfl) haa_1 (List.getElem?_eq_getElem (by first | omega | (simp only [List.length_set, List.length_map, List.length_replicate, List.length_append, List.length_cons, List.length_nil, List.length_reverse, List.length_range]; omega) | (simp; omega))) rfl ?_; rw [mRet_ap])
  refine mIf_pos (by rw [hen]; rfl) ?_
  ((refine Sep.idx hs 1 rfl (by first | omega | (simp only [List.length_set, List.length_map, List.length_replicate, List.length_append, List.length_cons, List.length_nil, List.length_reverse, List.length_range]; omega) | (simp; omega)) (by first | omega | (simp only [List.length_set, List.length_map, List.length_replicate, List.length_append, List.length_cons, List.length_nil, List.length_reverse, List.length_range]; omega) | (simp; omega)) fun aa_2 haa_2 => ?_; try simp only [Int.toNat_natCast] at haa_2); refine Sep.rldI0 hs 1 rfl (fun _ => rfl) haa_2 (List.getElem?_eq_getElem (by first | omega | (simp only [List.length_set, List.length_map, List.length_replicate, List.length_append, List.length_cons, List.length_nil, List.length_reverse, List.length_range]; omega) | (simp; omega))) rfl ?_; rw [mRet_ap])
  exact ⟨rfl, hs.drop.drop.drop.drop.drop.drop.drop.drop⟩
end
end Go.Proofs.Ytkoenpliddhhoaa
