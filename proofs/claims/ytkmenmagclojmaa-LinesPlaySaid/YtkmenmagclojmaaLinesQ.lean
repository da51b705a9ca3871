/- Lines: the law LinesPlay. Conditions: none. -/
import Derived.Test.YtkmenmagclojmaaLinesL
import Derived.Test.YtkmenmagclojmaaSbS
import Derived.Test.YtkmenmagclojmaaLinesA
namespace Go.Proofs.Ytkmenmagclojmaa
open Go Go.Sb

def encB (x : Bool) : List Value := [.bool x]
abbrev LFin (h0 : Hp) : Value → Hp → Prop := fun v h' => v = .bool true ∧ Under h0.size h0 h'
section play
variable {h0 : Hp} {b i n : Nat} {ms ts ls : Sl} {acts : List LAct} {l : List (Bool × Bool)} {f : LAct}
def LInv (l : List (Bool × Bool)) : Prop := ∀ x ∈ l, x.2 = true → x.1 = true
abbrev rowM (s : Sl) (l : List (Bool × Bool)) : As := aRow (fun z => [.bool z]) 1 s (l.map (·.1))
abbrev rowL (s : Sl) (l : List (Bool × Bool)) : As := aRow (fun z => [.bool z]) 1 s (l.map (·.2))
def LLoop (h0 : Hp) (b n : Nat) (ms ts ls : Sl) (i : Nat) : Prop := ∀ (h : Hp) (l : List (Bool × Bool)), l.length = n → LInv l → Sep h0 h [aL b l, rowM ms l, rowL ts l] →
  K_signalboxlaw14_LinesPlay_9 (some ⟨b, 0, none⟩) n ms ts ls (ls.n : Int) (i : Int) h (LFin h0)
theorem lget_lput (x : Bool × Bool) (i : Int) (hi : lin l i = true) : lget (lput l i x) i = x ∧ lin (lput l i x) i = true := by
  have h := lin_iff.1 hi
  have hk : i.toNat < l.length := by omega
  unfold lput lget
  rw [hi]
  refine ⟨by simp [hk], lin_iff.2 (by simp; omega)⟩
theorem map_lput {X : Type} {i' : Int} (g : Bool × Bool → X) (x : Bool × Bool) (hi : lin l i' = true) : (lput l i' x).map g = (l.map g).set i'.toNat (g x) := by
  unfold lput; rw [hi]; simp [List.map_set]
theorem mget {X : Type} (g : Bool × Bool → X) {i : Int} (hi : lin l i = true) (hk : i.toNat < (l.map g).length) : (l.map g)[i.toNat]'hk = g (lget l i) := by
  have h2 := lget_at hi
  have := (List.getElem?_eq_some_iff.1 h2).2
  simp [this]
theorem lput_len (x : Bool × Bool) (i : Int) : (lput l i x).length = l.length := by unfold lput; split <;> simp
theorem lput_inv (hI : LInv l) (x : Bool × Bool) (i : Int) (hx : x.2 = true → x.1 = true) : LInv (lput l i x) := by
  unfold lput
  split
  · intro y hy
    rcases List.mem_or_eq_of_mem_set hy with hy | rfl
    · exact hI y hy
    · exact hx
  · exact hI
theorem map_same {X : Type} (g : Bool × Bool → X) (x : Bool × Bool) (i : Int) (hg : lin l i = true → g x = g (lget l i)) : (lput l i x).map g = l.map g := by
  unfold lput
  split
  · rename_i hi
    have h2 := lget_at hi
    have hr := lin_iff.1 hi
    rw [List.map_set, hg hi]
    apply List.ext_getElem?
    intro j
    rw [List.getElem?_set]
    split
    · rename_i e; subst e; rw [List.getElem?_map, h2]; simp; omega
    · rfl
  · rfl
/-- one's own row, asked of a line that may not be -/
theorem ask {a : Nat} {h : Hp} {R : List As} {s : Sl} {g : Bool × Bool → Bool} {f : LAct} {Q : Bool → Hp → Prop} (p : Bool → Bool) (k k' : Nat) (hs : Sep h0 h R) (hk : R[k]? = some (aBlk a f.enc)) (hk' : R[k']? = some (aRow (fun z => [.bool z]) 1 s (l.map g))) (hq : Q (lin l f.i && p (g (lget l f.i))) h) :
    (mIf (lin l f.i) (mLdI .i64 ⟨a, 1, none⟩ fun (x83 : Int) => mIdx s x83 1 fun (x84 : Addr) => mLdB x84 fun (x85 : Bool) => mRet (p x85)) (mRet false)) h Q := by
  refine mIf_intro (fun hi => ?_) (fun hi => ?_)
  · have hr := lin_iff.1 hi
    rw [hi, Bool.true_and] at hq
    refine hs.ldI k hk rfl ?_
    refine hs.idx k' hk' (by omega) (by simp; omega) fun aa hat => ?_
    refine hs.bld k' hk' hat (by simp; omega) ?_
    rw [mget g hi]; exact hq
  · rw [hi] at hq; exact hq
theorem k33 (hn : l.length = n) (hI : LInv l) (hi : i < 200) (hloop : LLoop h0 b n ms ts ls (i + 1)) {h : Hp} {a : Nat} (hs : Sep h0 h [aBlk a f.enc, aL b l, rowM ms l, rowL ts l]) :
    K_signalboxlaw14_LinesPlay_33 (some ⟨b, 0, none⟩) n ms ts ⟨a, 0, none⟩ (lin l f.i) ls (ls.n : Int) (i : Int) h (LFin h0) := by
  apply S_signalboxlaw14_LinesPlay_33
  unfold B_signalboxlaw14_LinesPlay_33
  simp only [add_mk, Nat.zero_add]
  refine Sep.ldI hs 0 rfl rfl ?_
  rw [mBind_ap]
  refine (lMasked_s hs.drop f.i).mono ?_
  rintro v h ⟨rfl, rfl⟩
  simp only [unB_bool, mBind_ap]
  refine ask (fun x => x) (g := (·.1)) 0 2 hs rfl rfl ?_
  simp only [beq_self_eq_true, Bool.not_true, mIf_false]
  refine Sep.ldI hs 0 rfl rfl ?_
  rw [mBind_ap]
  refine (lLatched_s hs.drop f.i).mono ?_
  rintro v h ⟨rfl, rfl⟩
  simp only [unB_bool, mBind_ap]
  refine ask (fun x => x) (g := (·.2)) 0 3 hs rfl rfl ?_
  simp only [beq_self_eq_true, Bool.not_true, mIf_false, mRet_ap]
  rw [wrap64 _ (by omega), show (i : Int) + 1 = ((i + 1 : Nat) : Int) by omega]
  exact hloop h l hn hI hs.drop
theorem k15 (hn : l.length = n) (hI : LInv l) (hok : f.ok) (hi : i < 200) (hloop : LLoop h0 b n ms ts ls (i + 1)) {h : Hp} {a : Nat} (hs : Sep h0 h [aBlk a f.enc, aL b l, rowM ms l, rowL ts l]) :
    K_signalboxlaw14_LinesPlay_15 (some ⟨b, 0, none⟩) n ms ts ⟨a, 0, none⟩ (lin l f.i) (lerr l f.i) ls (ls.n : Int) (i : Int) h (LFin h0) := by
  apply S_signalboxlaw14_LinesPlay_15
  unfold B_signalboxlaw14_LinesPlay_15
  simp only [add_mk, Nat.zero_add]
  obtain ⟨hk, -⟩ := hok
  have ht : Int.tmod f.kind 3 = f.kind % 3 := Int.tmod_eq_emod_of_nonneg hk.1
  have next : ∀ {h : Hp} {x : Bool × Bool}, (x.2 = true → x.1 = true) → Sep h0 h [aBlk a f.enc, aL b (lput l f.i x), rowM ms (lput l f.i x), rowL ts (lput l f.i x)] → K_signalboxlaw14_LinesPlay_33 (some ⟨b, 0, none⟩) n ms ts ⟨a, 0, none⟩ (lin l f.i) ls (ls.n : Int) (i : Int) h (LFin h0) := by
    intro h x hx hs
    have : lin l f.i = lin (lput l f.i x) f.i := by unfold lin; rw [lput_len]
    rw [this]
    exact k33 (by rw [lput_len, hn]) (lput_inv hI _ _ hx) hi hloop hs
  have same : ∀ {h : Hp} {x : Bool × Bool}, lin l f.i = false → lput l f.i x = l := by intro h x hx; unfold lput; rw [hx]; rfl
  have hinv : lin l f.i = true → (lget l f.i).2 = true → (lget l f.i).1 = true := fun hin => hI _ (List.mem_of_getElem? (lget_at hin))
  have hself : ∀ x, lin l f.i = true → x = lget l f.i → lput l f.i x = l := by
    intro x hin hx
    have h2 := lget_at hin
    unfold lput; rw [hin, hx]
    apply List.ext_getElem?
    intro j
    simp only [if_true]
    rw [List.getElem?_set]
    split
    · rename_i e; subst e; rw [h2]; have := lin_iff.1 hin; simp; omega
    · rfl
  refine Sep.ldI hs 0 rfl rfl ?_
  refine ⟨by decide, ?_⟩
  refine mIf_intro (fun hc => ?_) (fun hc => ?_)
  · refine Sep.ldI hs 0 rfl rfl ?_
    rw [mBind_ap]
    refine (lRaise_s (hs.front 1 rfl) f.i).mono ?_
    rintro v h ⟨rfl, hs⟩
    have hs := hs.swap
    simp only [List.eraseIdx_cons_succ, List.eraseIdx_cons_zero] at hs
    simp only [un2_tuple, unB_bool, unI_int, bne_self_eq_false, mIf_false, mBind_ap]
    refine ask (fun x => !x) (g := (·.1)) 0 2 hs rfl rfl ?_
    simp only [mRet_ap, beq_self_eq_true, Bool.not_true, mIf_false, mBind_ap]
    refine ask (fun x => x) (g := (·.1)) 0 2 hs rfl rfl ?_
    have e1 := map_same (l := l) (·.1) ((lget l f.i).1, (lget l f.i).1) f.i (fun _ => rfl)
    refine mIf_intro (fun hb => ?_) (fun hb => ?_)
    · simp only [Bool.and_eq_true] at hb
      have hr := lin_iff.1 hb.1
      refine Sep.ldI hs 0 rfl rfl ?_; refine Sep.idx hs 3 rfl (by first | omega | (simp only [List.length_set, List.length_map, List.length_replicate, List.length_append, List.length_cons, List.length_nil]; omega) | (simp; omega)) (by first | omega | (simp only [List.length_set, List.length_map, List.length_replicate, List.length_append, List.length_cons, List.length_nil]; omega) | (simp; omega)) fun a ha => ?_; (refine Sep.bst hs 3 rfl ha (by first | omega | (simp only [List.length_set, List.length_map, List.length_replicate, List.length_append, List.length_cons, List.length_nil]; omega) | (simp; omega)) fun h hs => ?_; simp only [List.set_cons_zero, List.set_cons_succ] at hs)
      refine next (x := ((lget l f.i).1, (lget l f.i).1)) (fun hx => hx) ?_
      rw [rowM, rowL, e1, map_lput _ _ hb.1]
      rw [hb.2] at hs ⊢
      exact hs
    · refine next (x := ((lget l f.i).1, (lget l f.i).1)) (fun hx => hx) ?_
      have e2 := map_same (l := l) (·.2) ((lget l f.i).1, (lget l f.i).1) f.i (fun hin => by
        rw [hin, Bool.true_and] at hb
        have := hinv hin
        rw [hb] at this ⊢
        cases h2 : (lget l f.i).2
        · rfl
        · exact absurd (this h2) (by simp))
      rw [rowM, rowL, e1, e2]
      exact hs
  refine mIf_intro (fun hc1 => ?_) (fun hc1 => ?_)
  · refine Sep.ldI hs 0 rfl rfl ?_
    rw [mBind_ap]
    refine (lMask_s (hs.front 1 rfl) f.i).mono ?_
    rintro v h ⟨rfl, hs⟩
    have hs := hs.swap
    simp only [List.eraseIdx_cons_succ, List.eraseIdx_cons_zero] at hs
    simp only [unI_int, bne_self_eq_false, mIf_false]
    refine mIf_intro (fun hin => ?_) (fun hin => ?_)
    · have hr := lin_iff.1 hin
      refine Sep.ldI hs 0 rfl rfl ?_; refine Sep.idx hs 2 rfl (by first | omega | (simp only [List.length_set, List.length_map, List.length_replicate, List.length_append, List.length_cons, List.length_nil]; omega) | (simp; omega)) (by first | omega | (simp only [List.length_set, List.length_map, List.length_replicate, List.length_append, List.length_cons, List.length_nil]; omega) | (simp; omega)) fun a ha => ?_; (refine Sep.bst hs 2 rfl ha (by first | omega | (simp only [List.length_set, List.length_map, List.length_replicate, List.length_append, List.length_cons, List.length_nil]; omega) | (simp; omega)) fun h hs => ?_; simp only [List.set_cons_zero, List.set_cons_succ] at hs)
      refine next (x := (true, (lget l f.i).2)) (fun _ => rfl) ?_
      rw [rowM, rowL, map_same (l := l) (·.2) (true, (lget l f.i).2) f.i (fun _ => rfl), map_lput _ _ hin]
      exact hs
    · rw [same (h := h) hin] at hs
      exact k33 (f := f) hn hI hi hloop hs
  refine mIf_intro (fun hc2 => ?_) (fun hc2 => ?_)
  · refine Sep.ldI hs 0 rfl rfl ?_
    rw [mBind_ap]
    refine (lUnmask_s (hs.front 1 rfl) f.i).mono ?_
    rintro v h ⟨rfl, hs⟩
    have hs := hs.swap
    simp only [List.eraseIdx_cons_succ, List.eraseIdx_cons_zero] at hs
    simp only [un2_tuple, unB_bool, unI_int, bne_self_eq_false, mIf_false, mBind_ap]
    refine ask (fun x => x) (g := (·.2)) 0 3 hs rfl rfl ?_
    simp only [mRet_ap, beq_self_eq_true, Bool.not_true, mIf_false]
    refine mIf_intro (fun hin => ?_) (fun hin => ?_)
    · have hr := lin_iff.1 hin
      have fin : ∀ h, Sep h0 h [aBlk a f.enc, aL b (lput l f.i (false, false)), aRow (fun z => [.bool z]) 1 ms ((l.map (·.1)).set f.i.toNat false), aRow (fun z => [.bool z]) 1 ts ((l.map (·.2)).set f.i.toNat false)] → K_signalboxlaw14_LinesPlay_33 (some ⟨b, 0, none⟩) n ms ts ⟨a, 0, none⟩ (lin l f.i) ls (ls.n : Int) (i : Int) h (LFin h0) := by
        intro h hs
        refine next (x := (false, false)) (fun hx => hx) ?_
        rw [rowM, rowL, map_lput _ _ hin, map_lput _ _ hin]
        exact hs
      simp only [mAnd_ap]
      refine ⟨?_, ?_⟩
      · refine Sep.ldI hs 0 rfl rfl ?_; refine Sep.idx hs 2 rfl (by first | omega | (simp only [List.length_set, List.length_map, List.length_replicate, List.length_append, List.length_cons, List.length_nil]; omega) | (simp; omega)) (by first | omega | (simp only [List.length_set, List.length_map, List.length_replicate, List.length_append, List.length_cons, List.length_nil]; omega) | (simp; omega)) fun a ha => ?_
        rw [mAnd_ap]
        refine ⟨?_, ?_⟩
        · refine Sep.ldI hs 0 rfl rfl ?_; (refine Sep.bst hs 2 rfl ha (by first | omega | (simp only [List.length_set, List.length_map, List.length_replicate, List.length_append, List.length_cons, List.length_nil]; omega) | (simp; omega)) fun h hs => ?_; simp only [List.set_cons_zero, List.set_cons_succ] at hs); refine Sep.idx hs 3 rfl (by first | omega | (simp only [List.length_set, List.length_map, List.length_replicate, List.length_append, List.length_cons, List.length_nil]; omega) | (simp; omega)) (by first | omega | (simp only [List.length_set, List.length_map, List.length_replicate, List.length_append, List.length_cons, List.length_nil]; omega) | (simp; omega)) fun a ha => ?_; (refine Sep.bst hs 3 rfl ha (by first | omega | (simp only [List.length_set, List.length_map, List.length_replicate, List.length_append, List.length_cons, List.length_nil]; omega) | (simp; omega)) fun h hs => ?_; simp only [List.set_cons_zero, List.set_cons_succ] at hs)
          exact fin _ hs
        · (refine Sep.bst hs 2 rfl ha (by first | omega | (simp only [List.length_set, List.length_map, List.length_replicate, List.length_append, List.length_cons, List.length_nil]; omega) | (simp; omega)) fun h hs => ?_; simp only [List.set_cons_zero, List.set_cons_succ] at hs); refine Sep.ldI hs 0 rfl rfl ?_; refine Sep.idx hs 3 rfl (by first | omega | (simp only [List.length_set, List.length_map, List.length_replicate, List.length_append, List.length_cons, List.length_nil]; omega) | (simp; omega)) (by first | omega | (simp only [List.length_set, List.length_map, List.length_replicate, List.length_append, List.length_cons, List.length_nil]; omega) | (simp; omega)) fun a ha => ?_; (refine Sep.bst hs 3 rfl ha (by first | omega | (simp only [List.length_set, List.length_map, List.length_replicate, List.length_append, List.length_cons, List.length_nil]; omega) | (simp; omega)) fun h hs => ?_; simp only [List.set_cons_zero, List.set_cons_succ] at hs)
          exact fin _ hs
      · refine Sep.ldI hs 0 rfl rfl ?_; refine Sep.ldI hs 0 rfl rfl ?_; refine Sep.idx hs 2 rfl (by first | omega | (simp only [List.length_set, List.length_map, List.length_replicate, List.length_append, List.length_cons, List.length_nil]; omega) | (simp; omega)) (by first | omega | (simp only [List.length_set, List.length_map, List.length_replicate, List.length_append, List.length_cons, List.length_nil]; omega) | (simp; omega)) fun a ha => ?_; (refine Sep.bst hs 2 rfl ha (by first | omega | (simp only [List.length_set, List.length_map, List.length_replicate, List.length_append, List.length_cons, List.length_nil]; omega) | (simp; omega)) fun h hs => ?_; simp only [List.set_cons_zero, List.set_cons_succ] at hs); refine Sep.idx hs 3 rfl (by first | omega | (simp only [List.length_set, List.length_map, List.length_replicate, List.length_append, List.length_cons, List.length_nil]; omega) | (simp; omega)) (by first | omega | (simp only [List.length_set, List.length_map, List.length_replicate, List.length_append, List.length_cons, List.length_nil]; omega) | (simp; omega)) fun a ha => ?_; (refine Sep.bst hs 3 rfl ha (by first | omega | (simp only [List.length_set, List.length_map, List.length_replicate, List.length_append, List.length_cons, List.length_nil]; omega) | (simp; omega)) fun h hs => ?_; simp only [List.set_cons_zero, List.set_cons_succ] at hs)
        exact fin _ hs
    · rw [same (h := h) hin] at hs
      exact k33 (f := f) hn hI hi hloop hs
  · exact k33 hn hI hi hloop hs
theorem lLoop (hn8 : n ≤ 8) (hl : RdE h0.size h0 LAct.enc 2 ls acts) (hok : ∀ x ∈ acts, x.ok) (hlen : acts.length ≤ 200) : ∀ (d i : Nat), i + d = acts.length → LLoop h0 b n ms ts ls i
  | 0, i, hid, h, l, hn, hI, hs => by
    apply S_signalboxlaw14_LinesPlay_9
    unfold B_signalboxlaw14_LinesPlay_9
    have := hl.n
    rw [decide_eq_false (by omega), mIf_false, mBind_ap]
    refine (lNil h 0).1.mono ?_
    rintro v h1 ⟨rfl, rfl⟩
    simp only [un2_tuple, unI_int, unB_bool, mBind_ap]
    refine (lLen_s hs).mono ?_
    rintro v h1 ⟨rfl, rfl⟩
    simp only [unI_int, mBind_ap, hn, beq_self_eq_true, mIf_true]
    refine (lLen_nil h1).mono ?_
    rintro v h2 ⟨rfl, rfl⟩
    simp only [unI_int, mBind_ap, mRet_ap, beq_self_eq_true, Bool.and_self, mIf_true]
    refine (lNil h2 0).2.1.mono ?_
    rintro v h3 ⟨rfl, rfl⟩
    simp only [unI_int, mBind_ap, mRet_ap, beq_self_eq_true, mIf_true]
    refine (lNil h3 0).2.2.1.mono ?_
    rintro v h4 ⟨rfl, rfl⟩
    simp only [unB_bool, mBind_ap, mRet_ap, Bool.not_false, mIf_true]
    refine (lNil h4 0).2.2.2.mono ?_
    rintro v h5 ⟨rfl, rfl⟩
    exact ⟨rfl, hs.under⟩
  | d + 1, i, hid, h, l, hn, hI, hs => by
    have ih : LLoop h0 b n ms ts ls (i + 1) := lLoop hn8 hl hok hlen d (i + 1) (by omega)
    apply S_signalboxlaw14_LinesPlay_9
    unfold B_signalboxlaw14_LinesPlay_9
    have hln := hl.n
    rw [decide_eq_true (by omega), mIf_true]
    refine hs.argE hl (by omega) (by omega) fun a ha => ?_
    obtain ⟨f, hf⟩ : ∃ f, acts[(i : Int).toNat]? = some f := ⟨acts[(i : Int).toNat], List.getElem?_eq_getElem (by omega)⟩
    have hfe : acts[(i : Int).toNat]'(by omega) = f := (List.getElem?_eq_some_iff.1 hf).2
    rw [hfe] at ha
    have hfok := hok f (List.mem_of_getElem? hf)
    refine mLdI_of (by have := ha 0 _ rfl; rwa [Addr.add_zero'] at this) ?_
    refine mLdI_of (ha 1 _ rfl) ?_
    (refine Sep.new hs fun nb h hs => ?_; try simp only [List.toList_toArray] at hs)
    simp only [add_mk, Nat.zero_add]
    (refine Sep.st hs 0 rfl rfl rfl fun h hs => ?_; simp only [List.set_cons_zero, List.set_cons_succ] at hs); (refine Sep.st hs 0 rfl rfl rfl fun h hs => ?_; simp only [List.set_cons_zero, List.set_cons_succ] at hs)
    rw [show [Value.int .u8 f.kind, .int .i64 f.i] = f.enc from rfl] at hs
    refine Sep.ldI hs 0 rfl rfl ?_
    rw [mBind_ap]
    have hb : ∀ {a : Nat} {Q : Bool → Hp → Prop}, Sep h0 h [aBlk a f.enc, aL b l, rowM ms l, rowL ts l] → Q (lin l f.i) h → (mIf (decide (f.i ≥ 0)) (mLdI .i64 ⟨a, 1, none⟩ fun (x54 : Int) => mRet (decide (x54 < (n : Int)))) (mRet false)) h Q := by
      intro a Q hs hq
      unfold lin at hq
      refine mIf_intro (fun hc => ?_) (fun hc => ?_)
      · refine Sep.ldI hs 0 rfl rfl ?_
        rw [hc, Bool.true_and] at hq
        rw [mRet_ap, ← hn]; exact hq
      · rw [hc, Bool.false_and] at hq; exact hq
    refine hb hs ?_
    have key := k15 hn hI hfok (by omega : i < 200) ih hs
    unfold lerr at key
    cases hin : lin l f.i
    · rw [hin] at key
      exact key
    · rw [hin] at key
      exact key
theorem LinesPlay_ok {h : Hp} {n : Int} {ls : Sl} {acts : List LAct} (_ : -9223372036854775808 ≤ n ∧ n ≤ 9223372036854775807) (hl : RdE h.size h LAct.enc 2 ls acts) (hok : ∀ x ∈ acts, x.ok) :
    N_signalboxlaw14_LinesPlay n ls h (fun v h' => v = .bool true ∧ Under h.size h h') := by
  apply S_signalboxlaw14_LinesPlay
  unfold B_signalboxlaw14_LinesPlay
  rw [mBind_ap]
  refine (lfixed_s (Sep.init h)).mono ?_
  rintro v h1 ⟨rfl, hs⟩
  simp only [unB_bool, Bool.not_true, mIf_false]
  have hln := hl.n
  refine mIf_dec (fun hc => ⟨rfl, hs.under⟩) (fun hc => ?_)
  rw [mBind_ap]
  refine (lNew_s hs n).mono ?_
  rintro v h2 ⟨b, rfl, hs⟩
  simp only [unP_pointer]
  rw [lcnt_eq]
  have hc8 : lcnt n ≤ 8 := by unfold lcnt; omega
  have hI : LInv (List.replicate (lcnt n) (false, false)) := by
    intro x hx; rw [List.eq_of_mem_replicate hx]; simp
  rw [mAnd_ap]
  refine ⟨?_, ?_⟩
  · refine hs.make (fun z => [.bool z]) 1 false rfl (by omega) (by omega) (by omega) fun ms h3 hup hs => ?_
    refine hs.make (fun z => [.bool z]) 1 false rfl (by omega) (by omega) (by omega) fun ts h4 hup2 hs => ?_
    rw [Int.toNat_natCast] at hs
    refine lLoop hc8 hl hok (by omega) acts.length 0 (by omega) h4 _ (by simp) hI ?_
    rw [rowM, rowL, List.map_replicate, List.map_replicate]
    exact hs.perm (by
      refine (List.Perm.swap _ _ _).trans ?_
      refine ((List.Perm.swap _ _ _).cons _).trans ?_
      exact (List.Perm.swap _ _ _))
  · refine hs.make (fun z => [.bool z]) 1 false rfl (by omega) (by omega) (by omega) fun ts h3 hup hs => ?_
    refine hs.make (fun z => [.bool z]) 1 false rfl (by omega) (by omega) (by omega) fun ms h4 hup2 hs => ?_
    rw [Int.toNat_natCast] at hs
    refine lLoop hc8 hl hok (by omega) acts.length 0 (by omega) h4 _ (by simp) hI ?_
    rw [rowM, rowL, List.map_replicate, List.map_replicate]
    exact hs.perm (by
      refine ((List.Perm.swap _ _ _).cons _).trans ?_
      exact (List.Perm.swap _ _ _))
end play
end Go.Proofs.Ytkmenmagclojmaa
