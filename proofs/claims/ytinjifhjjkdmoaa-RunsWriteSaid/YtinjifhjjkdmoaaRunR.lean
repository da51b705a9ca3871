/- Rows in fewer bytes: reading and size, and the law's fixed facts. Conditions: none. -/
import Derived.Test.YtinjifhjjkdmoaaRunQ
import Derived.Test.YtinjifhjjkdmoaaSbW
namespace Go.Proofs.Ytinjifhjjkdmoaa
open Go Go.Sb
set_option linter.unusedSimpArgs false
set_option linter.unusedVariables false
section
variable {h0 h : Hp} {R : List As} {B : Nat} {s x : Sl} {c : Int} {l zs : List Int}
theorem walk_lit {g : Nat} {f cc : Array Value} {S : List Int → As} (hsee : See h0 g f cc S) {w row : List Int} (h3 : 1 ≤ l.length) (h1 : l.length ≤ 128) (hr : RdI h0.size h0 .u8 s (((l.length : Int) - 1) :: (l ++ w))) (hcap : s.n ≤ s.c) (hn : w.length ≤ 10000000) (hsum : row.length + l.length ≤ 1048576) (hs : Sep h0 h (S row :: R)) (Q : Value → Hp → Prop)
    (next : ∀ (x : Sl) (h : Hp), RdI h0.size h0 .u8 x w → x.n ≤ x.c → Sep h0 h (S (row ++ l) :: R) → K_runs_walk_2 x g f cc ((row.length + l.length : Nat) : Int) h Q) : K_runs_walk_2 s g f cc (row.length : Int) h Q := by
  have hsn : s.n = l.length + w.length + 1 := by have := hr.n; simpa using this
  apply S_runs_walk_2
  unfold B_runs_walk_2
  refine mIf_pos (by simp; omega) ?_
  rw [mBind_ap]
  refine (next_s hr hs).mono ?_
  rintro v h ⟨rfl, hs⟩
  rw [if_neg (by omega), if_neg (by omega), show ((l.length : Int) - 1 + 2) = (l.length : Int) + 1 by omega, show ((l.length : Int) - 1 + 1) = (l.length : Int) by omega]
  simp only [unT_tuple, unC_cons, unA_agg, unI_int, unB_bool, unE_nil]
  ((refine Sep.new hs fun nb h hs => ?_; try simp only [List.toList_toArray] at hs); (refine Sep.st hs 0 rfl rfl rfl fun h hs => ?_; simp only [List.set_cons_zero, List.set_cons_succ] at hs); (refine Sep.st hs 0 rfl rfl rfl fun h hs => ?_; simp only [List.set_cons_zero, List.set_cons_succ] at hs); simp only [add_mk, Nat.zero_add])
  refine mIf_neg (by simp; omega) ?_
  (refine Sep.ldI hs 0 rfl rfl ?_)
  rw [wrap64 _ (by omega)]
  refine mIf_neg (by simp; omega) ?_
  have hlen : (((l.length : Int) - 1) :: (l ++ w)).length = l.length + w.length + 1 := by simp
  have go : ∀ (x : Sl) (h : Hp) (pb : Nat), RdI h0.size h0 .u8 x (((((l.length : Int) - 1) :: (l ++ w)).take ((l.length : Int) + 1).toNat).drop ((0 : Int)).toNat) → x.n ≤ x.c → Sep h0 h (aBlk pb [.int .i64 ((l.length : Int) + 1), .int .i64 (l.length : Int)] :: S row :: R) →
      (mBind (Nf Try.prog g (f ++ #[.slice x.p x.n x.c, .agg #[.int .i64 ((l.length : Int) + 1), .int .i64 (l.length : Int)]] ++ cc)) fun _ =>
        mLdI .i64 ⟨pb, 0, none⟩ fun (x33 : Int) => mSlc s 1 x33 (s.n : Int) (s.c : Int) fun (x34 : Sl) => K_runs_walk_2 x34 g f cc ((row.length : Int) + l.length)) h Q := by
    intro x h pb hx hxc hs
    have e1 : ((((l.length : Int) - 1) :: (l ++ w)).take ((l.length : Int) + 1).toNat).drop ((0 : Int)).toNat = ((l.length : Int) - 1) :: l := by
      rw [show ((l.length : Int) + 1).toNat = l.length + 1 by omega, show (0 : Int).toNat = 0 from rfl, List.drop_zero, List.take_succ_cons, List.take_left' rfl]
    rw [e1] at hx
    rw [mBind_ap]
    refine (hsee.lit _ h x l row h3 h1 hxc hx hsum hs.swap).mono ?_
    intro v h hs
    have hs := hs.swap
    (refine Sep.ldI hs 0 rfl rfl ?_)
    refine hr.slc hcap (by omega) (by omega) (by omega) rfl fun y hy hyc => ?_
    rw [show ((s.n : Int)).toNat = (((l.length : Int) - 1) :: (l ++ w)).length by omega, List.take_length, show ((l.length : Int) + 1).toNat = l.length + 1 by omega, List.drop_succ_cons, List.drop_left' rfl] at hy
    exact next y h hy hyc hs.drop
  refine mAnd_intro ?_ ?_
  · (refine Sep.ldI hs 0 rfl rfl ?_)
    refine hr.slc hcap (by omega) (by omega) (by omega) rfl fun x hx hxc => ?_
    (refine Sep.ldI hs 0 rfl rfl ?_; refine Sep.ldI hs 0 rfl rfl ?_; simp only [mBind_ap])
    exact go x _ _ hx hxc hs
  · (refine Sep.ldI hs 0 rfl rfl ?_; refine Sep.ldI hs 0 rfl rfl ?_; refine Sep.ldI hs 0 rfl rfl ?_)
    refine hr.slc hcap (by omega) (by omega) (by omega) rfl fun x hx hxc => ?_
    exact go x _ _ hx hxc hs
theorem walk_nil {g : Nat} {f cc : Array Value} {S : List Int → As} {row : List Int} {k : Int} (hr : RdI h0.size h0 .u8 s []) (hs : Sep h0 h (S row :: R)) : K_runs_walk_2 s g f cc k h (fun v h' => v = .int .i64 0 ∧ Sep h0 h' (S row :: R)) := by
  have hsn : s.n = 0 := hr.n
  apply S_runs_walk_2
  unfold B_runs_walk_2
  refine mIf_neg (by rw [hsn]; rfl) ?_
  exact ⟨rfl, hs⟩
theorem walk2 {g : Nat} {f cc : Array Value} {S : List Int → As} (hsee : See h0 g f cc S) {w x : List Int} (hp : Parts w x) : ∀ (s : Sl) (h : Hp) (row : List Int), RdI h0.size h0 .u8 s w → s.n ≤ s.c → w.length ≤ 10000000 → row.length + x.length ≤ 1048576 → Sep h0 h (S row :: R) →
    K_runs_walk_2 s g f cc (row.length : Int) h (fun v h' => v = .int .i64 0 ∧ Sep h0 h' (S (row ++ x) :: R)) := by
  induction hp with
  | nil =>
    intro s h row hr hcap hn hsum hs
    rw [List.append_nil]
    exact walk_nil hr hs
  | run a c w x h3 h1 _ ih =>
    intro s h row hr hcap hn hsum hs
    simp only [List.length_cons, List.length_append, List.length_replicate] at hn hsum
    refine walk_run hsee h3 h1 hr hcap (by omega) (by omega) hs _ (fun _ y h hy hyc hs => ?_) (fun hlt => by omega)
    have := ih y h (row ++ List.replicate a c) hy hyc (by omega) (by simp; omega) hs
    rw [List.append_assoc, List.length_append, List.length_replicate] at this
    exact this
  | lit l w x h3 h1 _ ih =>
    intro s h row hr hcap hn hsum hs
    simp only [List.length_cons, List.length_append] at hn hsum
    refine walk_lit hsee h3 h1 hr hcap (by omega) (by omega) hs _ (fun y h hy hyc hs => ?_)
    have := ih y h (row ++ l) hy hyc (by omega) (by simp; omega) hs
    rw [List.append_assoc, List.length_append] at this
    exact this
/-! the two that see -/
def SRead (b : Nat) (row : List Int) : As := aEx fun o : Sl => aStar (aBlk b [.slice o.p o.n o.c]) (aRow encU 1 o row)
theorem SRead_iff {b : Nat} {row : List Int} : Sep h0 h (SRead b row :: R) ↔ ∃ o : Sl, Sep h0 h (aBlk b [.slice o.p o.n o.c] :: aRow encU 1 o row :: R) := by
  unfold SRead; rw [Sep.ex]; simp only [Sep.star]
def SSize (b : Nat) (row : List Int) : As := aBlk b [.int .i64 (row.length : Int)]
theorem see_size {b : Nat} : See h0 86 #[] #[.pointer (some ⟨b, 0, none⟩)] (SSize b) := by
  have key : ∀ (R : List As) (h : Hp) (x : Sl) (row piece : List Int) (t : Int), row.length + piece.length ≤ 1048576 → Sep h0 h (SSize b row :: R) → N_runs_Size_1 x t (piece.length : Int) (some ⟨b, 0, none⟩) h (fun _ h' => Sep h0 h' (SSize b (row ++ piece) :: R)) := by
    intro R h x row piece t hl hs
    unfold SSize at hs ⊢
    apply S_runs_Size_1
    unfold B_runs_Size_1
    ((refine Sep.new hs fun nb h hs => ?_; try simp only [List.toList_toArray] at hs); simp only [add_mk, Nat.zero_add, mNil_some]; refine Sep.ldI hs 1 rfl rfl ?_; refine Sep.ldI hs 0 rfl rfl ?_; (refine Sep.st hs 1 rfl rfl rfl fun h hs => ?_; simp only [List.set_cons_zero, List.set_cons_succ] at hs))
    rw [wrap64 _ (by omega)] at hs
    have : ((row.length : Int) + piece.length) = ((row ++ piece).length : Int) := by simp
    rw [this] at hs
    exact hs.drop
  constructor
  · intro R h x a c row h3 h1 hxc hx hl hs
    have := key R h x row (List.replicate a c) 2 (by simpa using hl) hs
    rw [List.length_replicate] at this
    exact this
  · intro R h x l row h3 h1 hxc hx hl hs
    exact key R h x row l _ hl hs
theorem see_read {b : Nat} : See h0 84 #[] #[.pointer (some ⟨b, 0, none⟩)] (SRead b) := by
  constructor
  · intro R h x a c row h3 h1 hxc hx hl hs
    have hxn : x.n = 2 := hx.n
    show N_runs_Read_1 x 2 (a : Int) (some ⟨b, 0, none⟩) h _
    obtain ⟨o, hs⟩ := SRead_iff.1 hs
    apply S_runs_Read_1
    unfold B_runs_Read_1
    refine Sep.new hs fun pb h hs => ?_
    refine hs.argIn (j := 0) hx (by simp) ?_
    rw [List.getElem_cons_zero]
    refine mIf_pos (by simp; omega) ?_
    refine hx.slc hxc (by omega) (by omega) (by simp; omega) rfl fun y hy hyc => ?_
    have hy : RdI h0.size h0 .u8 y [c] := by
      rw [show ((x.n : Int)).toNat = 2 by omega] at hy
      exact hy
    have hrp : ∀ {h L}, Sep h0 h L → N_bytes_Repeat y (a : Int) h (fun v h' => ∃ o : Sl, v = .slice o.p o.n o.c ∧ Sep h0 h' (aRow encU 1 o (List.replicate a c) :: L)) := fun hs => repeat_s hy (by omega) (by omega) hs
    have hwf : ∀ z ∈ List.replicate a c, IntKind.u8.min ≤ z ∧ z ≤ IntKind.u8.max := fun z hz => by rw [List.eq_of_mem_replicate hz]; exact hy.wf c (by simp)
    have fin : ∀ (rp : Sl) (h : Hp), Sep h0 h (aRow encU 1 rp (List.replicate a c) :: aBlk pb [.int .i64 2, .int .i64 (a : Int)] :: aBlk b [.slice o.p o.n o.c] :: aRow encU 1 o row :: R) →
        (mApp 5 1 1 #[.int .u8 (0 : Int)] o rp fun (x15 : Sl) => mNil (some ⟨b, 0, none⟩) fun (a12 : Addr) => mSt a12 (.slice x15.p x15.n x15.c) <| mRet (Value.tuple #[])) h (fun _ h' => Sep h0 h' (SRead b (row ++ List.replicate a c) :: R)) := by
      intro rp h hs
      refine hs.appI 3 rfl (hs.rowI 0 rfl hwf) rfl (by omega) (by simp; omega) fun o' h hn hs => ?_
      simp only [List.set_cons_succ, List.set_cons_zero] at hs
      (simp only [mNil_some]; (refine Sep.st hs 2 rfl rfl rfl fun h hs => ?_; simp only [List.set_cons_zero, List.set_cons_succ] at hs))
      exact SRead_iff.2 ⟨o', hs.drop.drop⟩
    refine mAnd_intro ?_ ?_
    · (simp only [add_mk, Nat.zero_add, mNil_some]; refine Sep.ldL hs 1 rfl rfl ?_; refine Sep.ldI hs 0 rfl rfl ?_; simp only [mBind_ap])
      refine (hrp hs).mono ?_
      rintro v h ⟨rp, rfl, hs⟩
      (simp only [unL_slice])
      exact fin rp h hs
    · (refine Sep.ldI hs 0 rfl rfl ?_; simp only [mNil_some])
      refine mAnd_intro ?_ ?_
      · (refine Sep.ldL hs 1 rfl rfl ?_; simp only [mBind_ap])
        refine (hrp hs).mono ?_
        rintro v h ⟨rp, rfl, hs⟩
        (simp only [unL_slice])
        exact fin rp h hs
      · rw [mBind_ap]
        refine (hrp hs).mono ?_
        rintro v h ⟨rp, rfl, hs⟩
        (simp only [unL_slice]; refine Sep.ldL hs 2 rfl rfl ?_)
        exact fin rp h hs
  · intro R h x l row h3 h1 hxc hx hl hs
    have hxn : x.n = l.length + 1 := hx.n
    show N_runs_Read_1 x ((l.length : Int) + 1) (l.length : Int) (some ⟨b, 0, none⟩) h _
    obtain ⟨o, hs⟩ := SRead_iff.1 hs
    apply S_runs_Read_1
    unfold B_runs_Read_1
    refine Sep.new hs fun pb h hs => ?_
    refine hs.argIn (j := 0) hx (by simp) ?_
    rw [List.getElem_cons_zero]
    refine mIf_neg (by simp; omega) ?_
    refine hx.slc hxc (by omega) (by omega) (by simp; omega) rfl fun y hy hyc => ?_
    have hy : RdI h0.size h0 .u8 y l := by
      rw [show ((x.n : Int)).toNat = (((l.length : Int) - 1) :: l).length by simp; omega, List.take_length] at hy
      exact hy
    (simp only [mNil_some]; refine Sep.ldL hs 1 rfl rfl ?_)
    refine hs.appI 2 rfl (hy.under hs.under) rfl (by omega) (by simp; omega) fun o' h hn hs => ?_
    simp only [List.set_cons_succ, List.set_cons_zero] at hs
    ((refine Sep.st hs 1 rfl rfl rfl fun h hs => ?_; simp only [List.set_cons_zero, List.set_cons_succ] at hs))
    exact SRead_iff.2 ⟨o', hs.drop⟩
theorem Read_s {w x : List Int} (hp : Parts w x) (hr : RdI h.size h .u8 s w) (hcap : s.n ≤ s.c) (hn : w.length ≤ 10000000) (hx : x.length ≤ 1048576) : N_runs_Read s h (fun v h' => ∃ o : Sl, v = .tuple #[.slice o.p o.n o.c, .int .i64 0] ∧ Sep h h' [aRow encU 1 o x]) := by
  have hs := Sep.init h
  apply S_runs_Read
  unfold B_runs_Read
  have hs := hs.nilRow encU 1
  refine Sep.new hs fun b h hs => ?_
  rw [mBind_ap]
  apply S_runs_walk
  unfold B_runs_walk
  refine (walk2 see_read hp s h [] hr hcap hn (by simpa using hx) (SRead_iff.2 ⟨⟨none, 0, 0⟩, hs⟩)).mono ?_
  rintro v h' ⟨rfl, hs⟩
  obtain ⟨o, hs⟩ := SRead_iff.1 hs
  simp only [unI_int]
  refine mIf_neg rfl ?_
  refine Sep.ldL hs 0 rfl rfl ?_
  exact ⟨o, rfl, hs.drop⟩
theorem Size_s {w x : List Int} (hp : Parts w x) (hr : RdI h.size h .u8 s w) (hcap : s.n ≤ s.c) (hn : w.length ≤ 10000000) (hx : x.length ≤ 1048576) : N_runs_Size s h (fun v h' => v = .tuple #[.int .i64 (x.length : Int), .int .i64 0] ∧ Sep h h' []) := by
  have hs := Sep.init h
  apply S_runs_Size
  unfold B_runs_Size
  ((refine Sep.new hs fun nb h hs => ?_; try simp only [List.toList_toArray] at hs); (refine Sep.st hs 0 rfl rfl rfl fun h hs => ?_; simp only [List.set_cons_zero, List.set_cons_succ] at hs); simp only [mBind_ap])
  apply S_runs_walk
  unfold B_runs_walk
  refine (walk2 (see_size (b := nb)) hp s _ [] hr hcap hn (by simpa using hx) hs).mono ?_
  rintro v h' ⟨rfl, hs⟩
  unfold SSize at hs
  simp only [unI_int]
  refine mIf_neg rfl ?_
  refine Sep.ldI hs 0 rfl rfl ?_
  exact ⟨rfl, hs.drop⟩
theorem worst_s {n : Int} (hn : -9223372036854775808 ≤ n ∧ n ≤ 9223372036854775807) : N_runs_Worst n h (fun v h' => v = .int .i64 (min (max n 0) 1099511627776 + (min (max n 0) 1099511627776 + 127) / 128) ∧ h' = h) := by
  apply S_runs_Worst
  unfold B_runs_Worst
  refine ⟨by omega, ?_⟩
  have e : (if (1099511627776 : Int) < (if (0 : Int) > n then (0 : Int) else n) then (1099511627776 : Int) else (if (0 : Int) > n then (0 : Int) else n)) = min (max n 0) 1099511627776 := by
    split <;> split <;> omega
  rw [e]
  have h1 : 0 ≤ min (max n 0) 1099511627776 ∧ min (max n 0) 1099511627776 ≤ 1099511627776 := by omega
  generalize min (max n 0) 1099511627776 = m at *
  refine ⟨?_, rfl⟩
  rw [wrap64 (m + 128) (by omega), wrap64 (m + 128 - 1) (by omega), Int.tdiv_eq_ediv_of_nonneg (by omega), wrap64 ((m + 128 - 1) / 128) (by omega), wrap64 _ (by omega)]
  congr 1
  omega
end
end Go.Proofs.Ytinjifhjjkdmoaa
