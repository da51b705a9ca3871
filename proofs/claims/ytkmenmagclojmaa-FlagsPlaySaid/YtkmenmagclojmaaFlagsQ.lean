/- Groups of flags: the law FlagsPlay, over memory. Conditions: none. -/
import Derived.Test.YtkmenmagclojmaaFlagsS
import Derived.Test.YtkmenmagclojmaaSbS
namespace Go.Proofs.Ytkmenmagclojmaa
open Go Go.Sb

abbrev FFin (h0 : Hp) : Value → Hp → Prop := fun v h' => v = .bool true ∧ Under h0.size h0 h'
theorem mIdx_at {α : Type} {h : Hp} {Q : α → Hp → Prop} {p : Addr} {n c t : Nat} {K : Addr → M α} (h1 : t < n) (hk : K (p.add t) h Q) : mIdx ⟨some p, n, c⟩ (t : Int) 1 K h Q := by
  refine mIdx_of (by omega) (by omega) ?_
  rw [Nat.mul_one, Int.toNat_natCast]; exact hk
def inn (l : List (BitVec 8)) (f : FAct) : Bool := decide (f.i ≥ 0) && decide (f.i < l.length)
def rowT (l : List (BitVec 8)) (f : FAct) (x : BitVec 8) (t : Nat) : List (BitVec 8) := if inn l f && decide (Int.tmod f.kind 4 < 2) then l.set f.i.toNat (curT x (low8 f.mask) (Int.tmod f.kind 4 == 0) t) else l
section play
variable {h0 : Hp} {b i n : Nat} {up ls : Sl} {acts : List FAct} {l : List (BitVec 8)} {f : FAct} {x : BitVec 8}
def FLoop (h0 : Hp) (b n : Nat) (up ls : Sl) (i : Nat) : Prop := ∀ (h : Hp) (l : List (BitVec 8)), l.length = n → Sep h0 h [aG b l, aRow enc8 8 up l] → K_signalboxlaw11_FlagsPlay_9 (some ⟨b, 0, none⟩) n up ls (ls.n : Int) (i : Int) h (FFin h0)

theorem inn_iff : inn l f = true ↔ ¬ (f.i < 0 ∨ f.i ≥ l.length) := by unfold inn; simp
/-- the row behind all eight flags -/
theorem rowT_set (hx : inn l f = true → l[f.i.toNat]? = some x) (hk : Int.tmod f.kind 4 = 0) : rowT l f x 8 = chgL l f.i (· ||| low8 f.mask) := by
  unfold rowT chgL
  by_cases hi : inn l f = true
  · have h2 := hx hi
    rw [if_neg (inn_iff.1 hi), hi, hk, if_pos (by decide), show ((0 : Int) == 0) = true by rfl, curT_set]
    simp [h2]
  · have : (f.i < 0 ∨ f.i ≥ l.length) := by false_or_by_contra; rename_i h; exact hi (inn_iff.2 h)
    rw [if_pos this]
    simp only [Bool.not_eq_true] at hi
    rw [hi]; simp
theorem rowT_clr (hx : inn l f = true → l[f.i.toNat]? = some x) (hk : Int.tmod f.kind 4 = 1) : rowT l f x 8 = chgL l f.i (· &&& ~~~low8 f.mask) := by
  unfold rowT chgL
  by_cases hi : inn l f = true
  · have h2 := hx hi
    rw [if_neg (inn_iff.1 hi), hi, hk, if_pos (by decide), show ((1 : Int) == 0) = false by rfl, curT_clr]
    simp [h2]
  · have : (f.i < 0 ∨ f.i ≥ l.length) := by false_or_by_contra; rename_i h; exact hi (inn_iff.2 h)
    rw [if_pos this]
    simp only [Bool.not_eq_true] at hi
    rw [hi]; simp
theorem rowT_none (hk : 2 ≤ Int.tmod f.kind 4) (t : Nat) : rowT l f x t = l := by
  unfold rowT
  rw [decide_eq_false (by omega), Bool.and_false]; simp
theorem rowT_zero (hx : inn l f = true → l[f.i.toNat]? = some x) : rowT l f x 0 = l := by
  unfold rowT
  split
  · rename_i h
    simp only [Bool.and_eq_true] at h
    have := hx h.1
    apply List.ext_getElem?
    intro j
    rw [List.getElem?_set]
    split
    · rename_i e; subst e; rw [this]; simp [curT]; have := (List.getElem?_eq_some_iff.1 this).1; omega
    · rfl
  · rfl

/-- what is told behind all flags, in what order it is asked -/
theorem k30 (hn : l.length = n) (hok : f.ok) (hi : i < 150) (hx : inn l f = true → l[f.i.toNat]? = some x) (hloop : FLoop h0 b n up ls (i + 1)) {h : Hp} {w a : Nat} {num want : Int} {al an : Bool}
    (hnum : num = if inn l f then (x.toNat : Int) else 0) (hw : want = if inn l f then 0 else 6) (hal : al = (inn l f && decide (x &&& low8 f.mask = low8 f.mask))) (han : an = (inn l f && decide (x &&& low8 f.mask ≠ 0)))
    (hs : Sep h0 h [aBlk w (enc8 x), aBlk a f.enc, aG b l, aRow enc8 8 up (rowT l f x 8)]) :
    K_signalboxlaw11_FlagsPlay_30 (some ⟨b, 0, none⟩) n up ⟨a, 0, none⟩ num al an want ls (ls.n : Int) (i : Int) h (FFin h0) := by
  apply S_signalboxlaw11_FlagsPlay_30
  unfold B_signalboxlaw11_FlagsPlay_30
  obtain ⟨hk, -, -⟩ := hok
  have ht : Int.tmod f.kind 4 = f.kind % 4 := Int.tmod_eq_emod_of_nonneg hk.1
  have hA : chgA l f.i = .tuple #[.int .i64 num, .int .i64 want] := by
    unfold chgA
    by_cases hin : inn l f = true
    · have h2 := hx hin
      rw [if_neg (inn_iff.1 hin), hnum, hw, hin]
      simp [h2]
    · have : (f.i < 0 ∨ f.i ≥ l.length) := by false_or_by_contra; rename_i h; exact hin (inn_iff.2 h)
      rw [if_pos this, hnum, hw]
      simp [hin]
  have hT : tstA l f.i f.mask true = al ∧ tstA l f.i f.mask false = an ∧ tstE l f.i = want := by
    unfold tstA tstE
    by_cases hin : inn l f = true
    · have h2 := hx hin
      rw [if_neg (inn_iff.1 hin), if_neg (inn_iff.1 hin), if_neg (inn_iff.1 hin), hal, han, hw, hin]
      simp [h2]
    · have : (f.i < 0 ∨ f.i ≥ l.length) := by false_or_by_contra; rename_i h; exact hin (inn_iff.2 h)
      rw [if_pos this, if_pos this, if_pos this, hal, han, hw]
      simp [hin]
  have hnext : ∀ (h : Hp) (l' : List (BitVec 8)), l'.length = n → Sep h0 h [aG b l', aRow enc8 8 up l'] → K_signalboxlaw11_FlagsPlay_9 (some ⟨b, 0, none⟩) n up ls (ls.n : Int) (IntKind.i64.wrap ((i : Int) + 1)) h (FFin h0) := by
    intro h l' hl hs
    rw [wrap64 _ (by omega), show (i : Int) + 1 = ((i + 1 : Nat) : Int) by omega]
    exact hloop h l' hl hs
  have hlen : ∀ fn, (chgL l f.i fn).length = n := by intro fn; unfold chgL; split <;> simp [hn]
  refine Sep.ldI hs 1 rfl rfl ?_
  refine ⟨by decide, ?_⟩
  refine mIf_intro (fun hc => ?_) (fun hc => ?_)
  · have hc : Int.tmod f.kind 4 = 0 := by simpa using hc
    refine Sep.ldI hs 1 rfl rfl ?_; refine Sep.ldI hs 1 rfl rfl ?_
    rw [mBind_ap]
    refine (Set_s hs.drop.drop f.i f.mask).mono ?_
    rintro v h ⟨rfl, hs⟩
    rw [hA]
    simp only [un2_tuple, unI_int, bne_self_eq_false, Bool.or_self, mIf_false]
    rw [rowT_set hx hc] at hs
    exact hnext _ _ (hlen _) hs
  refine mIf_intro (fun hc1 => ?_) (fun hc1 => ?_)
  · have hc : Int.tmod f.kind 4 = 1 := by simpa using hc1
    refine Sep.ldI hs 1 rfl rfl ?_; refine Sep.ldI hs 1 rfl rfl ?_
    rw [mBind_ap]
    refine (Clear_s hs.drop.drop f.i f.mask).mono ?_
    rintro v h ⟨rfl, hs⟩
    rw [hA]
    simp only [un2_tuple, unI_int, bne_self_eq_false, Bool.or_self, mIf_false]
    rw [rowT_clr hx hc] at hs
    exact hnext _ _ (hlen _) hs
  have hge : 2 ≤ Int.tmod f.kind 4 := by
    simp at hc hc1; omega
  rw [rowT_none hge] at hs
  refine mIf_intro (fun hc2 => ?_) (fun hc2 => ?_)
  · refine Sep.ldI hs 1 rfl rfl ?_; refine Sep.ldI hs 1 rfl rfl ?_
    rw [mBind_ap]
    refine (Test_s hs.drop.drop f.i f.mask true).mono ?_
    rintro v h ⟨rfl, hs⟩
    rw [hT.1, hT.2.2]
    simp only [un2_tuple, unI_int, unB_bool, bne_self_eq_false, beq_self_eq_true, Bool.not_true, Bool.or_self, mIf_false]
    exact hnext _ _ hn hs
  refine mIf_intro (fun hc3 => ?_) (fun hc3 => ?_)
  · refine Sep.ldI hs 1 rfl rfl ?_; refine Sep.ldI hs 1 rfl rfl ?_
    rw [mBind_ap]
    refine (Test_s hs.drop.drop f.i f.mask false).mono ?_
    rintro v h ⟨rfl, hs⟩
    rw [hT.2.1, hT.2.2]
    simp only [un2_tuple, unI_int, unB_bool, bne_self_eq_false, beq_self_eq_true, Bool.not_true, Bool.or_self, mIf_false]
    exact hnext _ _ hn hs
  · exact hnext _ _ hn hs.drop.drop

theorem rowT_len (t : Nat) : (rowT l f x t).length = l.length := by unfold rowT; split <;> simp

/-- flag by flag -/
theorem k17 (hn : l.length = n) (hn4 : n ≤ 4) (hok : f.ok) (hi : i < 150) (hx : inn l f = true → l[f.i.toNat]? = some x) (hx0 : inn l f = false → x = 0) (hloop : FLoop h0 b n up ls (i + 1)) {w a : Nat} :
    ∀ (d t : Nat), t + d = 8 → ∀ h, Sep h0 h [aBlk w (enc8 x), aBlk a f.enc, aG b l, aRow enc8 8 up (rowT l f x t)] →
    K_signalboxlaw11_FlagsPlay_17 (some ⟨b, 0, none⟩) n up ⟨a, 0, none⟩ (inn l f) ⟨w, 0, none⟩ (numT x t) (allT x (low8 f.mask) t) (anyT x (low8 f.mask) t) ls (ls.n : Int) (i : Int) (t : Int) h (FFin h0)
  | 0, t, htd, h, hs => by
    obtain rfl : t = 8 := by omega
    apply S_signalboxlaw11_FlagsPlay_17
    unfold B_signalboxlaw11_FlagsPlay_17
    simp only [show decide (((8 : Nat) : Int) < 8) = false by decide, mIf_false]
    cases hin : inn l f
    · have h0' := hx0 hin
      simp only [Bool.not_false, mIf_true]
      exact k30 hn hok hi hx hloop (by rw [hin, numT_8, h0']; rfl) (by rw [hin]; rfl) (by rw [hin]; rfl) (by rw [hin]; rfl) hs
    · simp only [Bool.not_true, mIf_false]
      exact k30 hn hok hi hx hloop (by rw [hin, numT_8]; rfl) (by rw [hin]; rfl) (by rw [hin, allT_8]; rfl) (by rw [hin, anyT_8]; rfl) hs
  | d + 1, t, htd, h, hs => by
    have ih := k17 hn hn4 hok hi hx hx0 hloop (w := w) (a := a) d (t + 1) (by omega)
    apply S_signalboxlaw11_FlagsPlay_17
    unfold B_signalboxlaw11_FlagsPlay_17
    rw [decide_eq_true (by omega), mIf_true]
    have hu := wrapu64 (t : Int) (by omega)
    have h22 : K_signalboxlaw11_FlagsPlay_22 (some ⟨b, 0, none⟩) n up ⟨a, 0, none⟩ (inn l f) ⟨w, 0, none⟩ (numT x (t + 1)) (allT x (low8 f.mask) t) (anyT x (low8 f.mask) t) (t : Int) ((low8 f.mask).getLsbD t) ls (ls.n : Int) (i : Int) (t : Int) h (FFin h0) := by
      apply S_signalboxlaw11_FlagsPlay_22
      unfold B_signalboxlaw11_FlagsPlay_22
      have e1 : ∀ {Q : Bool → Hp → Prop}, Q (allT x (low8 f.mask) (t + 1)) h → (mIf (allT x (low8 f.mask) t) (mBind (mIf (!((low8 f.mask).getLsbD t)) (mRet true) (mIdx ⟨(some ⟨w, 0, none⟩), 8, 8⟩ (t : Int) 1 fun (x88 : Addr) => mLdB x88 fun (x89 : Bool) => mRet x89)) fun (b32 : Bool) => mRet b32) (mRet false)) h Q := by
        intro Q hq
        simp only [allT] at hq
        refine mIf_intro (fun ha => ?_) (fun ha => ?_)
        · rw [ha, Bool.true_and] at hq
          rw [mBind_ap]
          refine mIf_intro (fun hb => ?_) (fun hb => ?_)
          · rw [hb, Bool.true_or] at hq; exact hq
          · rw [hb, Bool.false_or] at hq
            refine mIdx_at (by omega) ?_
            rw [add_mk, Nat.zero_add]
            exact hs.ldB 0 rfl (enc8_get x t (by omega)) hq
        · rw [ha, Bool.false_and] at hq; exact hq
      have e2 : ∀ {Q : Bool → Hp → Prop}, Q (anyT x (low8 f.mask) (t + 1)) h → (mIf (anyT x (low8 f.mask) t) (mRet true) (mBind (mIf ((low8 f.mask).getLsbD t) (mIdx ⟨(some ⟨w, 0, none⟩), 8, 8⟩ (t : Int) 1 fun (x97 : Addr) => mLdB x97 fun (x98 : Bool) => mRet x98) (mRet false)) fun (b36 : Bool) => mRet b36)) h Q := by
        intro Q hq
        simp only [anyT] at hq
        refine mIf_intro (fun ha => ?_) (fun ha => ?_)
        · rw [ha, Bool.true_or] at hq; exact hq
        · rw [ha, Bool.false_or] at hq
          rw [mBind_ap]
          refine mIf_intro (fun hb => ?_) (fun hb => ?_)
          · rw [hb, Bool.true_and] at hq
            refine mIdx_at (by omega) ?_
            rw [add_mk, Nat.zero_add]
            exact hs.ldB 0 rfl (enc8_get x t (by omega)) hq
          · rw [hb, Bool.false_and] at hq; exact hq
      have hnx : ∀ h, Sep h0 h [aBlk w (enc8 x), aBlk a f.enc, aG b l, aRow enc8 8 up (rowT l f x (t + 1))] → K_signalboxlaw11_FlagsPlay_17 (some ⟨b, 0, none⟩) n up ⟨a, 0, none⟩ (inn l f) ⟨w, 0, none⟩ (numT x (t + 1)) (allT x (low8 f.mask) (t + 1)) (anyT x (low8 f.mask) (t + 1)) ls (ls.n : Int) (i : Int) (IntKind.i64.wrap ((t : Int) + 1)) h (FFin h0) := by
        intro h hs
        rw [wrap64 _ (by omega), show (t : Int) + 1 = ((t + 1 : Nat) : Int) by omega]
        exact ih h hs
      rw [mBind_ap]; refine e1 ?_
      rw [mBind_ap]; refine e2 ?_
      rw [mBind_ap]
      refine mIf_intro (fun hc => ?_) (fun hc => ?_)
      · refine Sep.ldI hs 1 rfl rfl ?_
        refine ⟨by decide, ?_⟩
        rw [mRet_ap]
        simp only [Bool.and_eq_true] at hc
        have hr := inn_iff.1 hc.1
        refine mIf_dec (fun hk => ?_) (fun hk => ?_)
        · have hrow : ∀ t, rowT l f x t = l.set f.i.toNat (curT x (low8 f.mask) (Int.tmod f.kind 4 == 0) t) := by
            intro t; unfold rowT; rw [hc.1, decide_eq_true hk]; rfl
          have hcur : curT x (low8 f.mask) (Int.tmod f.kind 4 == 0) (t + 1) = put8 (curT x (low8 f.mask) (Int.tmod f.kind 4 == 0) t) t (Int.tmod f.kind 4 == 0) := by
            simp only [curT]; rw [if_pos hc.2]
          have hlt : f.i.toNat < l.length := by omega
          have hst : ∀ aa, At up aa f.i.toNat 8 → mSt (aa.add t) (.bool (Int.tmod f.kind 4 == 0)) (K_signalboxlaw11_FlagsPlay_17 (some ⟨b, 0, none⟩) n up ⟨a, 0, none⟩ (inn l f) ⟨w, 0, none⟩ (numT x (t + 1)) (allT x (low8 f.mask) (t + 1)) (anyT x (low8 f.mask) (t + 1)) ls (ls.n : Int) (i : Int) (IntKind.i64.wrap ((t : Int) + 1))) h (FFin h0) := by
            intro aa hat
            refine hs.rst 3 (put8 (curT x (low8 f.mask) (Int.tmod f.kind 4 == 0) t) t (Int.tmod f.kind 4 == 0)) rfl (fun _ => rfl) hat (x := curT x (low8 f.mask) (Int.tmod f.kind 4 == 0) t) (by rw [hrow]; simp [hlt]) (by omega) (enc8_set _ _ _ (by omega)) rfl fun h hs => ?_
            simp only [List.set_cons_zero, List.set_cons_succ] at hs
            refine hnx h ?_
            rw [hrow, hcur]
            rw [hrow] at hs
            simpa using hs
          refine ⟨?_, ?_⟩
          · refine Sep.ldI hs 1 rfl rfl ?_
            refine hs.idx 3 rfl (by omega) (by rw [rowT_len]; omega) fun aa hat => ?_
            refine Sep.ldI hs 1 rfl rfl ?_
            refine ⟨by decide, mIdx_at (by omega) (hst aa hat)⟩
          · refine Sep.ldI hs 1 rfl rfl ?_
            refine ⟨by decide, ?_⟩
            refine Sep.ldI hs 1 rfl rfl ?_
            refine hs.idx 3 rfl (by omega) (by rw [rowT_len]; omega) fun aa hat => ?_
            exact mIdx_at (by omega) (hst aa hat)
        · refine hnx h ?_
          rw [rowT_none (by omega)] at hs ⊢
          exact hs
      · rw [mRet_ap, mIf_false]
        refine hnx h ?_
        have : rowT l f x (t + 1) = rowT l f x t := by
          unfold rowT
          cases hin : inn l f
          · simp
          · rw [hin, Bool.true_and] at hc
            simp [curT, hc]
        rw [this]; exact hs
    refine Sep.ldI hs 1 rfl rfl ?_
    refine ⟨by omega, mIdx_at (by omega) ?_⟩
    rw [add_mk, Nat.zero_add]
    refine hs.ldB 0 rfl (enc8_get x t (by omega)) ?_
    have hbit := bit_eq f.mask t (by omega)
    rw [hbit]
    have hlt := numT_lt x t
    have hp : (2 : Int) ^ t ≤ 128 := by
      have : t = 0 ∨ t = 1 ∨ t = 2 ∨ t = 3 ∨ t = 4 ∨ t = 5 ∨ t = 6 ∨ t = 7 := by omega
      rcases this with rfl | rfl | rfl | rfl | rfl | rfl | rfl | rfl <;> decide
    have hsh : ishl .i64 1 (IntKind.u64.wrap (t : Int)) = 2 ^ t := by
      unfold ishl
      rw [hu, show min (t : Int).toNat IntKind.i64.bits = t by show min (t : Int).toNat 64 = t; omega, Int.one_mul, wrap64 _ (by omega)]
    refine mIf_intro (fun hb => ?_) (fun hb => ?_)
    · refine ⟨by omega, ?_⟩
      rw [hsh, wrap64 _ (by omega)]
      have : numT x (t + 1) = numT x t + 2 ^ t := by simp only [numT]; rw [if_pos hb]
      rw [this] at h22; exact h22
    · have : numT x (t + 1) = numT x t := by simp only [numT]; rw [hb]; simp
      rw [this] at h22; exact h22

theorem kLoop (hn4 : n ≤ 4) (hl : RdE h0.size h0 FAct.enc 3 ls acts) (hok : ∀ x ∈ acts, x.ok) (hlen : acts.length ≤ 150) : ∀ (d i : Nat), i + d = acts.length → FLoop h0 b n up ls i
  | 0, i, hid, h, l, hn, hs => by
    apply S_signalboxlaw11_FlagsPlay_9
    unfold B_signalboxlaw11_FlagsPlay_9
    have := hl.n
    rw [decide_eq_false (by omega), mIf_false, mBind_ap]
    refine (Set_nil h 0 1).mono ?_
    rintro v h1 ⟨rfl, hu⟩
    have hs := hs.more hu
    simp only [un2_tuple, unI_int, mBind_ap]
    refine (Test_nil h1 0 1 true).mono ?_
    rintro v h2 ⟨rfl, rfl⟩
    simp only [un2_tuple, unI_int, unB_bool, mBind_ap]
    refine (Len_s hs).mono ?_
    rintro v h2 ⟨rfl, rfl⟩
    simp only [unI_int, mBind_ap, hn, beq_self_eq_true, mIf_true]
    refine (gLen_nil h2).mono ?_
    rintro v h3 ⟨rfl, rfl⟩
    simp only [unI_int, mRet_ap, beq_self_eq_true, Bool.and_self]
    exact ⟨rfl, hs.under⟩
  | d + 1, i, hid, h, l, hn, hs => by
    have ih := kLoop hn4 hl hok hlen d (i + 1) (by omega)
    apply S_signalboxlaw11_FlagsPlay_9
    unfold B_signalboxlaw11_FlagsPlay_9
    have hln := hl.n
    rw [decide_eq_true (by omega), mIf_true]
    refine hs.argE hl (by omega) (by omega) fun a ha => ?_
    obtain ⟨f, hf⟩ : ∃ f, acts[(i : Int).toNat]? = some f := ⟨acts[(i : Int).toNat], List.getElem?_eq_getElem (by omega)⟩
    have hfe : acts[(i : Int).toNat]'(by omega) = f := (List.getElem?_eq_some_iff.1 hf).2
    rw [hfe] at ha
    have hfok := hok f (List.mem_of_getElem? hf)
    refine mLdI_of (by have := ha 0 _ rfl; rwa [Addr.add_zero'] at this) ?_
    refine mLdI_of (ha 1 _ rfl) ?_
    refine mLdI_of (ha 2 _ rfl) ?_
    (refine Sep.new hs fun nb h hs => ?_; try simp only [List.toList_toArray] at hs)
    simp only [add_mk, Nat.zero_add]
    (refine Sep.st hs 0 rfl rfl rfl fun h hs => ?_; simp only [List.set_cons_zero, List.set_cons_succ] at hs); (refine Sep.st hs 0 rfl rfl rfl fun h hs => ?_; simp only [List.set_cons_zero, List.set_cons_succ] at hs); (refine Sep.st hs 0 rfl rfl rfl fun h hs => ?_; simp only [List.set_cons_zero, List.set_cons_succ] at hs)
    rw [show [Value.int .u8 f.kind, .int .i64 f.i, .int .i64 f.mask] = f.enc from rfl] at hs
    refine Sep.ldI hs 0 rfl rfl ?_
    have hb : ∀ {a : Nat} {Q : Bool → Hp → Prop}, Sep h0 h [aBlk a f.enc, aG b l, aRow enc8 8 up l] → Q (inn l f) h → (mIf (decide (f.i ≥ 0)) (mLdI .i64 ⟨a, 1, none⟩ fun (x54 : Int) => mRet (decide (x54 < (n : Int)))) (mRet false)) h Q := by
      intro a Q hs hq
      unfold inn at hq
      refine mIf_intro (fun hc => ?_) (fun hc => ?_)
      · refine Sep.ldI hs 0 rfl rfl ?_
        rw [hc, Bool.true_and] at hq
        rw [mRet_ap, ← hn]; exact hq
      · rw [hc, Bool.false_and] at hq; exact hq
    rw [mBind_ap]
    refine hb hs ?_
    (refine Sep.new hs fun nb h hs => ?_; try simp only [List.toList_toArray] at hs)
    rw [show [Value.bool false, .bool false, .bool false, .bool false, .bool false, .bool false, .bool false, .bool false] = enc8 0 from rfl] at hs
    refine mIf_intro (fun hc => ?_) (fun hc => ?_)
    · refine Sep.ldI hs 1 rfl rfl ?_
      have hr := inn_iff.1 hc
      refine hs.idx 3 rfl (by omega) (by omega) fun aa hat => ?_
      have hlt : f.i.toNat < l.length := by omega
      have hget : l[f.i.toNat]? = some l[f.i.toNat] := List.getElem?_eq_getElem hlt
      refine (Addr.add_zero' aa) ▸ hs.rldB 3 (j := 0) rfl (fun _ => rfl) hat hget rfl ?_
      refine hs.rldB 3 (j := 1) rfl (fun _ => rfl) hat hget rfl ?_
      refine hs.rldB 3 (j := 2) rfl (fun _ => rfl) hat hget rfl ?_
      refine hs.rldB 3 (j := 3) rfl (fun _ => rfl) hat hget rfl ?_
      refine hs.rldB 3 (j := 4) rfl (fun _ => rfl) hat hget rfl ?_
      refine hs.rldB 3 (j := 5) rfl (fun _ => rfl) hat hget rfl ?_
      refine hs.rldB 3 (j := 6) rfl (fun _ => rfl) hat hget rfl ?_
      refine hs.rldB 3 (j := 7) rfl (fun _ => rfl) hat hget rfl ?_
      simp only [add_mk, Nat.zero_add]
      (refine Sep.st hs 0 rfl rfl rfl fun h hs => ?_; simp only [List.set_cons_zero, List.set_cons_succ] at hs); (refine Sep.st hs 0 rfl rfl rfl fun h hs => ?_; simp only [List.set_cons_zero, List.set_cons_succ] at hs); (refine Sep.st hs 0 rfl rfl rfl fun h hs => ?_; simp only [List.set_cons_zero, List.set_cons_succ] at hs); (refine Sep.st hs 0 rfl rfl rfl fun h hs => ?_; simp only [List.set_cons_zero, List.set_cons_succ] at hs); (refine Sep.st hs 0 rfl rfl rfl fun h hs => ?_; simp only [List.set_cons_zero, List.set_cons_succ] at hs); (refine Sep.st hs 0 rfl rfl rfl fun h hs => ?_; simp only [List.set_cons_zero, List.set_cons_succ] at hs); (refine Sep.st hs 0 rfl rfl rfl fun h hs => ?_; simp only [List.set_cons_zero, List.set_cons_succ] at hs); (refine Sep.st hs 0 rfl rfl rfl fun h hs => ?_; simp only [List.set_cons_zero, List.set_cons_succ] at hs)
      have hr0 : rowT l f l[f.i.toNat] 0 = l := rowT_zero (fun _ => hget)
      refine k17 hn hn4 hfok (by omega) (fun _ => hget) (fun hcc => by rw [hc] at hcc; cases hcc) ih 8 0 rfl h ?_
      rw [hr0]; exact hs
    · have hr0 : rowT l f 0 0 = l := rowT_zero (fun hcc => by rw [hc] at hcc; cases hcc)
      refine k17 hn hn4 hfok (by omega) (fun hcc => by rw [hc] at hcc; cases hcc) (fun _ => rfl) ih 8 0 rfl h ?_
      rw [hr0]; exact hs

theorem FlagsPlay_ok {h : Hp} {n : Int} {ls : Sl} {acts : List FAct} (hn : -9223372036854775808 ≤ n ∧ n ≤ 9223372036854775807) (hl : RdE h.size h FAct.enc 3 ls acts) (hok : ∀ x ∈ acts, x.ok) :
    N_signalboxlaw11_FlagsPlay n ls h (fun v h' => v = .bool true ∧ Under h.size h h') := by
  apply S_signalboxlaw11_FlagsPlay
  unfold B_signalboxlaw11_FlagsPlay
  rw [mBind_ap]
  refine (gfixed_ok h).mono ?_
  rintro v h1 ⟨rfl, hu⟩
  have hs := (Sep.init h).more hu
  simp only [unB_bool, Bool.not_true, mIf_false]
  have hln := hl.n
  refine mIf_dec (fun hc => ⟨rfl, hs.under⟩) (fun hc => ?_)
  rw [mBind_ap]
  refine (New_s hs n).mono ?_
  rintro v h2 ⟨b, rfl, hs⟩
  simp only [unP_pointer]
  rw [cnt_eq]
  have hc4 : cnt n ≤ 4 := by unfold cnt; omega
  refine hs.make enc8 8 (0 : BitVec 8) rfl (by omega) (by omega) (by omega) fun up h3 hup hs => ?_
  rw [Int.toNat_natCast] at hs
  refine kLoop hc4 hl hok (by omega) acts.length 0 (by omega) h3 _ (by simp) hs.swap
end play
end Go.Proofs.Ytkmenmagclojmaa
