/- Configurations as bytes: the law CodeParses. Conditions: none. -/
import Derived.Test.YtimpaammdmeocaaCodeX
import Derived.Test.YtimpaammdmeocaaSbW
namespace Go.Proofs.Ytimpaammdmeocaa
open Go Go.Sb
set_option linter.unusedSimpArgs false
set_option linter.unusedVariables false
set_option linter.unusedVariables false
section
variable {h0 h : Hp} {R L : List As} {C : PCfg} {sm sc se st sl : Sl} {ts : List (PTask × Sl)}
theorem xor8 (a b : Int) : 0 ≤ ixor .u8 a b ∧ ixor .u8 a b ≤ 255 := by
  unfold ixor
  rw [IntKind.wrap_u8]
  omega
theorem rowb {α : Type} {Q : α → Hp → Prop} {L : List As} {k : Nat} {s : Sl} {xs : List Int} {K : Int → M α} (hs : Sep h0 h L) (hk : L[k]? = some (aRow encB 1 s xs)) {i : Nat} (hi : i < xs.length) (hK : K (xs[i]'hi) h Q) : mIdx s (i : Int) 1 (fun x => mLdI .u8 x K) h Q := by
  refine hs.idx k hk (by omega) (by omega) fun x hx => ?_
  rw [Int.toNat_natCast] at hx
  exact hs.ild k hk hx hi hK
set_option maxRecDepth 100000 in
theorem cp8 (hc : CRd h0 C sm sc se st sl ts) {x4 : Nat} {at1 by2 : Int} (ha : 0 ≤ at1 ∧ at1 ≤ 65535) (hs : Sep h0 h (aBlk x4 (cfgC C sm sc se st sl) :: R)) : K_signalboxlaw46_CodeParses_8 at1 by2 ⟨x4, 0, none⟩ h (CFin h0) := by
  apply S_signalboxlaw46_CodeParses_8
  unfold B_signalboxlaw46_CodeParses_8
  (refine Sep.ldI hs 0 rfl rfl ?_; refine Sep.ldI hs 0 rfl rfl ?_; refine Sep.ldI hs 0 rfl rfl ?_; refine Sep.ldI hs 0 rfl rfl ?_; refine Sep.ldL hs 0 rfl rfl ?_; refine Sep.ldI hs 0 rfl rfl ?_; refine Sep.ldL hs 0 rfl rfl ?_; refine Sep.ldL hs 0 rfl rfl ?_; refine Sep.ldL hs 0 rfl rfl ?_; refine Sep.ldL hs 0 rfl rfl ?_; simp only [add_mk, Nat.zero_add, mBind_ap])
  refine (rConf_s hc hs).mono ?_
  rintro v h ⟨rfl, hs⟩
  simp only [unI_int]
  refine mIf_intro (fun hk => ⟨rfl, hs.under⟩) (fun hk => ?_)
  have hk : checkN C = 0 := by simpa using hk
  (refine Sep.ldI hs 0 rfl rfl ?_; refine Sep.ldI hs 0 rfl rfl ?_; refine Sep.ldI hs 0 rfl rfl ?_; refine Sep.ldI hs 0 rfl rfl ?_; refine Sep.ldL hs 0 rfl rfl ?_; refine Sep.ldI hs 0 rfl rfl ?_; refine Sep.ldL hs 0 rfl rfl ?_; refine Sep.ldL hs 0 rfl rfl ?_; refine Sep.ldL hs 0 rfl rfl ?_; refine Sep.ldL hs 0 rfl rfl ?_; simp only [mBind_ap])
  refine (rBytes_s hc hk hs).mono ?_
  rintro v h ⟨o, rfl, hs⟩
  simp only [unL_slice]
  have hB := encCfg_B C
  have hl := enc_len hk
  have hpos : 0 < (encCfg C).length := by unfold encCfg; simp
  have hn := hs.rowLen 0 rfl
  have hturn : ∀ (i : Nat) (hi : i < (encCfg C).length) {v : Int}, 0 ≤ v ∧ v ≤ 255 → (encCfg C)[i] - v ≠ 0 → (encCfg C)[i] - v ≠ 251 → (encCfg C)[i] - v ≠ -251 → (parseC ((encCfg C).set i v)).2 = 2 := fun i hi v hv h0 h1 h2 => parse_turned hi hv hB h0 h1 h2
  have hpe := parse_enc hk
  generalize encCfg C = X at hs hB hl hpos hn hturn hpe
  refine ⟨by rw [hn]; omega, ?_⟩
  have hj : at1.toNat % X.length < X.length := Nat.mod_lt _ hpos
  have ei : Int.tmod (IntKind.i64.wrap at1) (o.n : Int) = ((at1.toNat % X.length : Nat) : Int) := by
    rw [wrap64 _ (by omega), hn, show at1 = ((at1.toNat : Nat) : Int) by omega, Int.ofNat_tmod, Int.toNat_natCast]
  rw [ei]
  generalize at1.toNat % X.length = j at hj
  have hbj := hB _ (List.getElem_mem hj)
  refine rowb (k := 0) hs rfl hj ?_
  refine rowb (k := 0) hs rfl hj ?_
  have hv := xor8 X[j] by2
  generalize ixor .u8 X[j] by2 = v at hv ⊢
  have hjs : j < (X.set j v).length := by simpa using hj
  refine hs.idx (i := (j : Int)) 0 rfl (by omega) (by omega) fun a haa => ?_
  rw [Int.toNat_natCast] at haa
  refine hs.ist 0 rfl haa hj fun h hs => ?_
  simp only [List.set_cons_zero] at hs
  refine rowb (k := 0) hs rfl hjs ?_
  rw [List.getElem_set_self, mBind_ap]
  have hB' : isB (X.set j v) := by
    intro z hz
    rcases List.mem_or_eq_of_mem_set hz with h | h
    · exact hB z h
    · omega
  refine (ParseO hs (k := 0) rfl hB' (by simp; omega)).mono ?_
  rintro w h ⟨sm3, sc3, se3, st3, sl3, ts3, rfl, ho3, hs⟩
  have hs := cfg_drop hs
  simp only [unT_tuple, unA_agg, unC_cons, unI_int, unL_slice, unE_nil, List.toList_toArray]
  have eg : IntKind.i64.wrap (IntKind.i64.wrap X[j] - IntKind.i64.wrap v) = X[j] - v := by
    rw [wrap64 X[j] (by omega), wrap64 v (by omega), wrap64 _ (by omega)]
  generalize hE : parseC (X.set j v) = E at ho3 hs
  ((refine Sep.new hs fun nb h hs => ?_; try simp only [List.toList_toArray] at hs); (refine Sep.st hs 0 rfl rfl rfl fun h hs => ?_; simp only [List.set_cons_zero, List.set_cons_succ] at hs); (refine Sep.st hs 0 rfl rfl rfl fun h hs => ?_; simp only [List.set_cons_zero, List.set_cons_succ] at hs); (refine Sep.st hs 0 rfl rfl rfl fun h hs => ?_; simp only [List.set_cons_zero, List.set_cons_succ] at hs); (refine Sep.st hs 0 rfl rfl rfl fun h hs => ?_; simp only [List.set_cons_zero, List.set_cons_succ] at hs); (refine Sep.st hs 0 rfl rfl rfl fun h hs => ?_; simp only [List.set_cons_zero, List.set_cons_succ] at hs); (refine Sep.st hs 0 rfl rfl rfl fun h hs => ?_; simp only [List.set_cons_zero, List.set_cons_succ] at hs); (refine Sep.st hs 0 rfl rfl rfl fun h hs => ?_; simp only [List.set_cons_zero, List.set_cons_succ] at hs); (refine Sep.st hs 0 rfl rfl rfl fun h hs => ?_; simp only [List.set_cons_zero, List.set_cons_succ] at hs); (refine Sep.st hs 0 rfl rfl rfl fun h hs => ?_; simp only [List.set_cons_zero, List.set_cons_succ] at hs); (refine Sep.st hs 0 rfl rfl rfl fun h hs => ?_; simp only [List.set_cons_zero, List.set_cons_succ] at hs))
  rw [eg]
  refine mIf_intro (fun hg => ?_) (fun hg => ?_)
  · have hg : X[j] = v := by have := eqT hg; omega
    have : X.set j v = X := by rw [← hg]; exact List.set_getElem_self hj
    rw [this, hpe] at hE
    rw [← hE]
    exact ⟨rfl, hs.under⟩
  · have hg := eqF hg
    refine ⟨?_, hs.under⟩
    by_cases h1 : X[j] - v = 251
    · simp [h1]
    · by_cases h2 : X[j] - v = -251
      · simp [h2]
      · have := hturn j hj hv hg h1 h2
        rw [hE] at this
        rw [this]
        simp
set_option maxRecDepth 100000 in
theorem CodeParses_c {at1 by2 : Int} {raw3 : Sl} {raw : List Int} (hc : CRd h0 C sm sc se st sl ts) (hb : (st.n : Int) ≤ 9223372036854775807) (ha : 0 ≤ at1 ∧ at1 ≤ 65535) (hr : RdI h0.size h0 .u8 raw3 raw) (hrc : raw3.n ≤ raw3.c) : N_signalboxlaw46_CodeParses C.sets C.ways C.hit C.miss sm C.groups sc se st sl at1 by2 raw3 h0 (CFin h0) := by
  have hn := hr.n
  apply S_signalboxlaw46_CodeParses
  unfold B_signalboxlaw46_CodeParses
  refine Sep.new (Sep.init h0) fun x1 h hs => ?_
  simp only [List.toList_toArray] at hs
  have hs : Sep h0 h [aBlk x1 (cfgC C sm sc se st sl)] := hs
  rw [mBind_ap]
  refine fixed46_s.mono ?_
  rintro v h' ⟨rfl, hu⟩
  have hs := hs.more hu
  simp only [unB_bool]
  refine mIf_neg rfl ?_
  (refine Sep.ldI hs 0 rfl rfl ?_; refine Sep.ldI hs 0 rfl rfl ?_; refine Sep.ldI hs 0 rfl rfl ?_; refine Sep.ldI hs 0 rfl rfl ?_; refine Sep.ldL hs 0 rfl rfl ?_; refine Sep.ldI hs 0 rfl rfl ?_; refine Sep.ldL hs 0 rfl rfl ?_; refine Sep.ldL hs 0 rfl rfl ?_; refine Sep.ldL hs 0 rfl rfl ?_; refine Sep.ldL hs 0 rfl rfl ?_; simp only [mIf_false, mIf_true, mBind_ap])
  refine (Few_s hc hb hs).mono ?_
  rintro v h ⟨rfl, hs⟩
  simp only [unB_bool]
  refine mIf_intro (fun hf => ⟨rfl, hs.under⟩) (fun hf => ?_)
  have hrl : raw.length ≤ 400 := by simp at hf; omega
  rw [mBind_ap]
  refine (Parse_s hr hrc (by omega) hs).mono ?_
  rintro v h ⟨sm3, sc3, se3, st3, sl3, ts3, rfl, ho3, hs⟩
  have hs : Sep h0 h (aBlk x1 (cfgC C sm sc se st sl) :: cfgA (parseC raw).1 sm3 sc3 se3 st3 sl3 ts3) := cfg_back hs
  generalize hE : parseC raw = E at ho3 hs
  obtain ⟨D, e⟩ := E
  simp only [unT_tuple, unA_agg, unC_cons, unI_int, unL_slice, unE_nil, List.toList_toArray]
  simp only at ho3 hs
  ((refine Sep.new hs fun nb h hs => ?_; try simp only [List.toList_toArray] at hs); (refine Sep.st hs 0 rfl rfl rfl fun h hs => ?_; simp only [List.set_cons_zero, List.set_cons_succ] at hs); (refine Sep.st hs 0 rfl rfl rfl fun h hs => ?_; simp only [List.set_cons_zero, List.set_cons_succ] at hs); (refine Sep.st hs 0 rfl rfl rfl fun h hs => ?_; simp only [List.set_cons_zero, List.set_cons_succ] at hs); (refine Sep.st hs 0 rfl rfl rfl fun h hs => ?_; simp only [List.set_cons_zero, List.set_cons_succ] at hs); (refine Sep.st hs 0 rfl rfl rfl fun h hs => ?_; simp only [List.set_cons_zero, List.set_cons_succ] at hs); (refine Sep.st hs 0 rfl rfl rfl fun h hs => ?_; simp only [List.set_cons_zero, List.set_cons_succ] at hs); (refine Sep.st hs 0 rfl rfl rfl fun h hs => ?_; simp only [List.set_cons_zero, List.set_cons_succ] at hs); (refine Sep.st hs 0 rfl rfl rfl fun h hs => ?_; simp only [List.set_cons_zero, List.set_cons_succ] at hs); (refine Sep.st hs 0 rfl rfl rfl fun h hs => ?_; simp only [List.set_cons_zero, List.set_cons_succ] at hs); (refine Sep.st hs 0 rfl rfl rfl fun h hs => ?_; simp only [List.set_cons_zero, List.set_cons_succ] at hs); simp only [add_mk, Nat.zero_add])
  have k8 : ∀ h b6 cs, Sep h0 h (aBlk b6 cs :: aBlk x1 (cfgC C sm sc se st sl) :: cfgA D sm3 sc3 se3 st3 sl3 ts3) → K_signalboxlaw46_CodeParses_8 at1 by2 ⟨x1, 0, none⟩ h (CFin h0) := fun h b6 cs hs => cp8 hc ha hs.drop
  by_cases he : e = 0
  · subst he
    obtain ⟨hkD, heD⟩ := enc_parse (rdI_B hr) (by omega) hE
    refine mIf_pos rfl ?_
    (refine Sep.ldI hs 0 rfl rfl ?_; refine Sep.ldI hs 0 rfl rfl ?_; refine Sep.ldI hs 0 rfl rfl ?_; refine Sep.ldI hs 0 rfl rfl ?_; refine Sep.ldL hs 0 rfl rfl ?_; refine Sep.ldI hs 0 rfl rfl ?_; refine Sep.ldL hs 0 rfl rfl ?_; refine Sep.ldL hs 0 rfl rfl ?_; refine Sep.ldL hs 0 rfl rfl ?_; refine Sep.ldL hs 0 rfl rfl ?_; simp only [mBind_ap])
    have hcd := crd_own ho3 (cfg_front (R := [_, _]) hs)
    refine (rConf_s hcd (Sep.init h)).mono ?_
    rintro v h' ⟨rfl, hs'⟩
    have hs := hs.more hs'.under
    rw [hkD]
    simp only [unI_int]
    refine mIf_neg rfl ?_
    have hX := rdI_B hr
    have hse := str_eq hX hX
    rw [decide_eq_true rfl] at hse
    have rb : ∀ h b6 cs, Sep h0 h (aBlk b6 cs :: aBlk x1 (cfgC C sm sc se st sl) :: cfgA D sm3 sc3 se3 st3 sl3 ts3) → N_signalboxref46_Bytes D.sets D.ways D.hit D.miss sm3 D.groups sc3 se3 st3 sl3 h (fun v h' => ∃ o2 : Sl, v = .slice o2.p o2.n o2.c ∧ RdI h'.size h' .u8 o2 raw ∧ Sep h0 h' (aBlk b6 cs :: aBlk x1 (cfgC C sm sc se st sl) :: cfgA D sm3 sc3 se3 st3 sl3 ts3)) := by
      intro h b6 cs hs
      have hcd := crd_own ho3 (cfg_front (R := [_, _]) hs)
      refine (rBytes_s hcd hkD (Sep.init h)).mono ?_
      rintro v h' ⟨o2, rfl, hs'⟩
      rw [heD] at hs'
      exact ⟨o2, rfl, (rowB hs' (k := 0) rfl hX).1, hs.more hs'.under⟩
    have neg1 : (match true with | true => (match false with | true => true | false => (!((strOf raw).toList == (strOf raw).toList))) | false => false) = false := by rw [hse]; rfl
    repeat' (first | with_reducible refine mAnd_intro ?_ ?_ | (first | (((with_reducible refine gd_mLdI ?_); refine Sep.ldI hs 0 rfl rfl ?_)) | (((with_reducible refine gd_mLdL ?_); refine Sep.ldL hs 0 rfl rfl ?_)) | ((simp only [mBind_ap])) | ((simp only [unL_slice]))) | with_reducible refine mIf_neg neg1 ?_ | with_reducible refine mIf_neg rfl ?_ | (with_reducible refine RdI.str (hr.under hs.under) ?_) | (with_reducible refine RdI.str (by assumption) ?_) | (refine (rb _ _ _ hs).mono ?_; rintro v h ⟨o2, rfl, hro, hs⟩))
    all_goals first | exact k8 _ _ _ hs | exact (0 : Nat)
  · have hbad := parse_bad (raw := raw) (by rw [hE]; exact he)
    rw [hE] at hbad
    have hbad : D = c0Cfg := hbad
    subst hbad
    have htn := hs.rowLen 3 rfl
    have htl := congrArg List.length ho3.ts
    rw [List.length_map] at htl
    have hst : st3.n = 0 := by rw [htn, htl]; rfl
    have hne : (e != 0) = true := by simpa using he
    refine mIf_neg (by simpa using he) ?_
    repeat' (first | with_reducible refine mAnd_intro ?_ ?_ | ((with_reducible refine gd_mLdL ?_); refine Sep.ldL hs 0 rfl rfl ?_) | with_reducible refine mIf_pos hne ?_ | with_reducible refine mIf_neg (by rw [hst]; decide) ?_)
    all_goals first | exact k8 _ _ _ hs | exact (0 : Nat)
theorem CodeParses_ok {y : CConf} {at1 by2 : Int} {raw3 : Sl} {raw : List Int} (o : y.ok h0) (ha : 0 ≤ at1 ∧ at1 ≤ 65535) (_ : 0 ≤ by2 ∧ by2 ≤ 255) (hr : RdI h0.size h0 .u8 raw3 raw) (hrc : raw3.n ≤ raw3.c) : N_signalboxlaw46_CodeParses y.machine.sets y.machine.ways y.machine.hit y.machine.miss y.mailboxes y.groups y.counts y.ceilings y.tasks y.lines at1 by2 raw3 h0 (CFin h0) := by
  obtain ⟨M, cs, ce, T, L, ts, hc, hb⟩ := conf_rd o
  have := CodeParses_c (by2 := by2) hc hb ha hr hrc
  exact this
end
end Go.Proofs.Ytimpaammdmeocaa
