/- Rings: the law RingPlays. Conditions: none. -/
import Derived.Test.YtkmenmagclojmaaRingQ
import Derived.Test.YtkmenmagclojmaaSbS
namespace Go.Proofs.Ytkmenmagclojmaa
open Go Go.Sb

abbrev RFin (h0 : Hp) : Value → Hp → Prop := fun v h' => v = .bool true ∧ Under h0.size h0 h'
theorem aRing_len {X : Type} {enc : X → List Value} {h0 h : Hp} {R : List As} {b room : Nat} {q : List X} (hs : Sep h0 h (aRing enc b room q :: R)) : q.length ≤ room ∧ room ≤ 4096 := by
  obtain ⟨s, cells, fr, ⟨hp, hm, hr⟩, hs⟩ := aRing_iff.1 hs
  exact ⟨by rw [← hp]; exact hr.len, hm⟩
section play
variable {h0 : Hp} {b i room : Nat} {ls tk : Sl} {zs : List Int} {bs : List Bool}
def RLoop (h0 : Hp) (b room : Nat) (ls tk : Sl) (i : Nat) : Prop := ∀ (h : Hp) (row : Sl) (q : List Int), Sep h0 h [aRing encInt b room q, aRow encInt 1 row q] →
  K_signalboxlaw03_RingPlays_12 (room : Int) tk (some ⟨b, 0, none⟩) row ls (ls.n : Int) (i : Int) h (RFin h0)
theorem r32 (hi : i < 200) (hloop : RLoop h0 b room ls tk (i + 1)) {row out : Sl} {q : List Int} (hq : q.length ≤ 4096) : ∀ (d k : Nat) (h : Hp), k + d = q.length → Sep h0 h [aRing encInt b room q, aRow encInt 1 out q, aRow encInt 1 row q] →
    K_signalboxlaw03_RingPlays_32 (room : Int) tk (some ⟨b, 0, none⟩) row out ls (ls.n : Int) (i : Int) (out.n : Int) (k : Int) h (RFin h0)
  | 0, k, h, hk, hs => by
    have hn := hs.rowLen 1 rfl
    apply S_signalboxlaw03_RingPlays_32
    unfold B_signalboxlaw03_RingPlays_32
    rw [decide_eq_false (by omega), mIf_false]
    rw [wrap64 _ (by omega), show (i : Int) + 1 = ((i + 1 : Nat) : Int) by omega]
    exact hloop h row q hs.swap.drop
  | d + 1, k, h, hk, hs => by
    have ih := r32 hi hloop hq d (k + 1) h (by omega) hs
    have hn := hs.rowLen 1 rfl
    apply S_signalboxlaw03_RingPlays_32
    unfold B_signalboxlaw03_RingPlays_32
    rw [decide_eq_true (by omega), mIf_true]
    refine hs.idx 1 rfl (by omega) (by omega) fun a ha => ?_
    refine hs.rldI0 1 rfl (fun _ => rfl) ha (List.getElem?_eq_getElem (by omega)) rfl ?_
    refine hs.idx 2 rfl (by omega) (by omega) fun a2 ha2 => ?_
    refine hs.rldI0 2 rfl (fun _ => rfl) ha2 (List.getElem?_eq_getElem (by omega)) rfl ?_
    rw [bne_self_eq_false, mIf_false, wrap64 _ (by omega), show (k : Int) + 1 = ((k + 1 : Nat) : Int) by omega]
    exact ih
theorem r27 (hi : i < 200) (hloop : RLoop h0 b room ls tk (i + 1)) {row : Sl} {q : List Int} {h : Hp} (hs : Sep h0 h [aRing encInt b room q, aRow encInt 1 row q]) :
    K_signalboxlaw03_RingPlays_27 (room : Int) tk (some ⟨b, 0, none⟩) row ls (ls.n : Int) (i : Int) h (RFin h0) := by
  have hb := aRing_len hs
  apply S_signalboxlaw03_RingPlays_27
  unfold B_signalboxlaw03_RingPlays_27
  rw [mBind_ap]
  refine (int_All hs).mono ?_
  rintro v h ⟨out, rfl, hs⟩
  simp only [unL_slice, mBind_ap]
  have hn1 := hs.rowLen 1 rfl
  have hn2 := hs.rowLen 2 rfl
  refine (int_First hs).mono ?_
  rintro v h' ⟨rfl, rfl⟩
  have e1 : ((out.n : Int) != (row.n : Int)) = false := by rw [hn1, hn2]; simp
  have last := r32 (i := i) (ls := ls) (tk := tk) hi hloop (by omega) q.length 0 h' (by omega) hs
  cases q with
  | nil =>
    simp only [intF, un2_tuple, unI_int, unB_bool]
    rw [e1]
    simp only [mIf_false, mBind_ap]
    refine (int_Len hs).mono ?_
    rintro v h'' ⟨rfl, rfl⟩
    simp only [unI_int, mRet_ap]
    refine mIf_neg (by rw [hn2]; simp) ?_
    rw [mBind_ap]
    refine (int_Room hs).mono ?_
    rintro v h3 ⟨rfl, rfl⟩
    simp only [unI_int, mRet_ap, bne_self_eq_false, Bool.false_or, mBind_ap]
    have e2 : decide ((row.n : Int) > 0) = false := by rw [hn2]; simp
    rw [e2]
    simp only [beq_self_eq_true, Bool.not_true, mIf_false, mRet_ap]
    exact last
  | cons x q =>
    simp only [intF, un2_tuple, unI_int, unB_bool]
    rw [e1]
    simp only [mIf_false, mBind_ap]
    refine (int_Len hs).mono ?_
    rintro v h'' ⟨rfl, rfl⟩
    simp only [unI_int, mRet_ap]
    refine mIf_neg (by rw [hn2]; simp) ?_
    rw [mBind_ap]
    refine (int_Room hs).mono ?_
    rintro v h3 ⟨rfl, rfl⟩
    simp only [unI_int, mRet_ap, bne_self_eq_false, Bool.false_or, mBind_ap]
    have e2 : decide ((row.n : Int) > 0) = true := by rw [hn2]; simp
    rw [e2]
    simp only [beq_self_eq_true, Bool.not_true, mIf_false, mIf_true, mBind_ap]
    refine hs.idx 2 rfl (by omega) (by simp) fun a ha => ?_
    refine hs.rldI0 2 rfl (fun _ => rfl) ha (x := x) rfl rfl ?_
    simp only [mRet_ap, bne_self_eq_false, mIf_false]
    exact last
theorem rLoop (hl : RdI h0.size h0 .i64 ls zs) (ht : RdB h0.size h0 tk bs) (hlen : zs.length ≤ 200) : ∀ (d i : Nat), i + d = zs.length → RLoop h0 b room ls tk i
  | 0, i, hid, h, row, q, hs => by
    apply S_signalboxlaw03_RingPlays_12
    unfold B_signalboxlaw03_RingPlays_12
    have := hl.n
    rw [decide_eq_false (by omega), mIf_false]
    exact ⟨rfl, hs.under⟩
  | d + 1, i, hid, h, row, q, hs => by
    have ih : RLoop h0 b room ls tk (i + 1) := rLoop hl ht hlen d (i + 1) (by omega)
    have hi : i < 200 := by omega
    have hb := aRing_len hs
    apply S_signalboxlaw03_RingPlays_12
    unfold B_signalboxlaw03_RingPlays_12
    have hln := hl.n
    have htn := ht.n
    have hrn := hs.rowLen 1 rfl
    rw [decide_eq_true (by omega), mIf_true]
    refine hs.argI hl (by omega) (by omega) ?_
    generalize zs[(i : Int).toNat] = z
    have ask : ∀ (K : Bool → M Value), (∀ c, K c h (RFin h0)) → (mBind (mIf (decide ((i : Int) < (tk.n : Int))) (mIdx tk (i : Int) 1 fun (x86 : Addr) => mLdB x86 fun (x87 : Bool) => mRet x87) (mRet false)) K) h (RFin h0) := by
      intro K hK
      rw [mBind_ap]
      refine mIf_dec (fun hc => ?_) (fun hc => hK false)
      exact hs.argB ht (by omega) (by omega) (hK _)
    refine ask _ fun c => ?_
    cases c
    · simp only [mIf_false, mBind_ap]
      refine (int_Put hs z).mono ?_
      rintro v h ⟨rfl, hs⟩
      simp only [unI_int]
      by_cases hf : q.length = room
      · rw [if_pos hf] at hs ⊢
        refine mIf_neg (by simp; omega) ?_
        rw [mRet_ap]
        refine mIf_neg rfl ?_
        refine mIf_neg rfl ?_
        exact r27 hi ih hs
      · rw [if_neg hf] at hs ⊢
        refine mIf_neg (by simp; omega) ?_
        rw [mRet_ap]
        refine mIf_neg rfl ?_
        refine mIf_pos rfl ?_
        (refine Sep.new hs fun nb h hs => ?_; try simp only [List.toList_toArray] at hs)
        refine hs.app1 2 0 z rfl rfl (fun _ => rfl) (by simp [Value.oneCell']) rfl (by omega) (by omega) fun row' h hn hs => ?_
        simp only [List.set_cons_zero, List.set_cons_succ] at hs
        exact r27 hi ih hs.drop
    · simp only [mIf_true, mBind_ap]
      refine (int_Take hs).mono ?_
      rintro v h ⟨rfl, hs⟩
      cases q with
      | nil =>
        simp only [intTk, un2_tuple, unI_int]
        refine mIf_pos (by rw [hrn]; rfl) ?_
        refine mIf_neg rfl ?_
        exact r27 hi ih hs
      | cons x q =>
        simp only [intTk, un2_tuple, unI_int]
        refine mIf_neg (by rw [hrn]; simp; omega) ?_
        rw [mBind_ap]
        refine mIf_neg rfl ?_
        refine hs.idx 1 rfl (by omega) (by simp) fun a ha => ?_
        refine hs.rldI0 1 rfl (fun _ => rfl) ha (x := x) rfl rfl ?_
        simp only [mRet_ap, bne_self_eq_false, mIf_false]
        simp only [List.length_cons] at hrn
        refine hs.slc 1 rfl (fun _ => rfl) (by omega) (by omega) (by rw [hrn, List.length_cons]; omega) rfl fun row' hn hs => ?_
        simp only [List.set_cons_zero, List.set_cons_succ] at hs
        refine r27 (q := q) hi ih ?_
        have e : List.drop (Int.toNat 1) (List.take (Int.toNat (row.n : Int)) (x :: q)) = q := by
          rw [Int.toNat_natCast, hrn, List.take_of_length_le (by simp)]; rfl
        rw [e] at hs
        exact hs
theorem RingPlays_ok {h : Hp} {room : Int} {ls tk : Sl} {zs : List Int} {bs : List Bool} (_ : -9223372036854775808 ≤ room ∧ room ≤ 9223372036854775807) (hl : RdI h.size h .i64 ls zs) (ht : RdB h.size h tk bs) :
    N_signalboxlaw03_RingPlays room ls tk h (fun v h' => v = .bool true ∧ Under h.size h h') := by
  apply S_signalboxlaw03_RingPlays
  unfold B_signalboxlaw03_RingPlays
  rw [mBind_ap]
  refine (rfixed_s (Sep.init h)).mono ?_
  rintro v h1 ⟨rfl, hs⟩
  simp only [unB_bool, Bool.not_true, mIf_false]
  have hln := hl.n
  refine mIf_dec (fun hc => ⟨rfl, hs.under⟩) (fun hc => ?_)
  rw [mBind_ap]
  cases hb : ringBad room
  · refine (int_New hs room hb).mono ?_
    rintro v h2 ⟨b, rfl, hs⟩
    simp only [unP_pointer]
    refine mIf_neg hb ?_
    unfold ringBad at hb
    simp at hb
    have hs := (hs.nilRow encInt 1).swap
    have := rLoop (b := b) (room := room.toNat) hl ht (by omega) zs.length 0 (by omega) h2 ⟨none, 0, 0⟩ [] hs
    rw [Int.toNat_of_nonneg (by omega)] at this
    exact this
  · refine (int_New_bad h1 room hb).mono ?_
    rintro v h2 ⟨rfl, rfl⟩
    simp only [unP_pointer]
    refine mIf_pos hb ?_
    rw [mBind_ap]
    refine (int_Take_nil h2).mono ?_
    rintro v h3 ⟨rfl, rfl⟩
    simp only [un2_tuple, unI_int, mBind_ap]
    refine (int_First_nil h3).mono ?_
    rintro v h4 ⟨rfl, rfl⟩
    simp only [un2_tuple, unI_int, unB_bool, mBind_ap, Option.isNone_none, mIf_true]
    refine (int_Put_nil h4 1).mono ?_
    rintro v h5 ⟨rfl, rfl⟩
    simp only [unI_int, mRet_ap]
    refine mIf_pos (by decide) ?_
    rw [mBind_ap]
    refine (int_Len_nil h5).mono ?_
    rintro v h6 ⟨rfl, rfl⟩
    simp only [unI_int, mBind_ap]
    refine (int_Room_nil h6).mono ?_
    rintro v h7 ⟨rfl, rfl⟩
    simp only [unI_int, mBind_ap]
    refine (int_All_nil h7).mono ?_
    rintro v h8 ⟨rfl, rfl⟩
    simp only [unL_slice, mRet_ap]
    exact ⟨rfl, hs.under⟩
end play
end Go.Proofs.Ytkmenmagclojmaa
