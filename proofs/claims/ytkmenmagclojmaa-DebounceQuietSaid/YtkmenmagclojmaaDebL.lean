/- Debounce: what each call answers, over what is owned. Conditions: none. -/
import Derived.Test.YtkmenmagclojmaaDebM
import Derived.Test.YtkmenmagclojmaaSbS
namespace Go.Proofs.Ytkmenmagclojmaa
open Go Go.Sb

structure Flt where
  hold : Int
  run : Int
  out : Bool
def Flt.enc (x : Flt) : List Value := [.int .i64 x.hold, .int .i64 x.run, .bool x.out]
structure Flt.ok (x : Flt) : Prop where
  h : 1 ≤ x.hold ∧ x.hold ≤ 1024
  r : 0 ≤ x.run ∧ x.run < x.hold
def Flt.hear (f : Flt) (x : Bool) : Flt := if x = f.out then { f with run := 0 } else if f.run + 1 = f.hold then { f with out := x, run := 0 } else { f with run := f.run + 1 }
def Flt.turned (f : Flt) (x : Bool) : Bool := !(x == f.out) && (f.run + 1 == f.hold)
theorem Flt.ok.hear {f : Flt} (hf : f.ok) (x : Bool) : (f.hear x).ok := by
  obtain ⟨h, r⟩ := hf
  unfold Flt.hear
  split
  · exact ⟨h, by simp only; omega⟩
  · split
    · exact ⟨h, by simp only; omega⟩
    · exact ⟨h, by simp only; omega⟩
def fltBad (n : Int) : Bool := (decide (n < (1 : Int))) || (decide (n > (1024 : Int)))
section
variable {h0 h : Hp} {R : List As} {b : Nat} {f : Flt}
theorem fNew_s (hs : Sep h0 h R) (n : Int) (hb : fltBad n = false) : N_debounce_New n h (fun v h' => ∃ b, v = .pointer (some ⟨b, 0, none⟩) ∧ Sep h0 h' (aBlk b (⟨n, 0, false⟩ : Flt).enc :: R)) := by
  apply S_debounce_New
  unfold B_debounce_New
  refine mIf_neg hb ?_
  (refine Sep.new hs fun nb h hs => ?_; try simp only [List.toList_toArray] at hs)
  exact ⟨nb, rfl, hs⟩
theorem fNew_bad (h : Hp) (n : Int) (hb : fltBad n = true) : N_debounce_New n h (fun v h' => v = .pointer none ∧ h' = h) := by
  apply S_debounce_New
  unfold B_debounce_New
  exact mIf_pos hb ⟨rfl, rfl⟩
theorem flt_ok0 (n : Int) (hb : fltBad n = false) : (⟨n, 0, false⟩ : Flt).ok := by
  unfold fltBad at hb
  simp at hb
  exact ⟨by simp only; omega, by simp only; omega⟩
theorem Hear_s (hs : Sep h0 h (aBlk b f.enc :: R)) (hf : f.ok) (x : Bool) : N_debounce_Filter_Hear (some ⟨b, 0, none⟩) x h (fun v h' => v = .tuple #[.bool (f.hear x).out, .bool (f.turned x)] ∧ Sep h0 h' (aBlk b (f.hear x).enc :: R)) := by
  obtain ⟨fh, fr, fo⟩ := f
  obtain ⟨hh, hr⟩ := hf
  simp only at hh hr
  apply S_debounce_Filter_Hear
  unfold B_debounce_Filter_Hear
  simp only [Option.isNone_some, mIf_false, mNil_some, add_mk, Nat.zero_add]
  refine Sep.ldB hs 0 rfl rfl ?_
  have k6 : ∀ (r : Int) (h : Hp), Sep h0 h (aBlk b (⟨fh, r, fo⟩ : Flt).enc :: R) → K_debounce_Filter_Hear_6 (some ⟨b, 0, none⟩) x h (fun v h' => v = .tuple #[.bool (if r = fh then x else fo), .bool (r == fh)] ∧ Sep h0 h' (aBlk b (if r = fh then (⟨fh, 0, x⟩ : Flt) else ⟨fh, r, fo⟩).enc :: R)) := by
    intro r h hs
    apply S_debounce_Filter_Hear_6
    unfold B_debounce_Filter_Hear_6
    simp only [mNil_some, add_mk, Nat.zero_add]
    refine Sep.ldI hs 0 rfl rfl ?_; refine Sep.ldI hs 0 rfl rfl ?_
    refine mIf_intro (fun hc => ?_) (fun hc => ?_)
    · have hc' : r = fh := by simpa using hc
      rw [if_pos hc', if_pos hc']
      (refine Sep.st hs 0 rfl rfl rfl fun h hs => ?_; simp only [List.set_cons_zero, List.set_cons_succ] at hs); (refine Sep.st hs 0 rfl rfl rfl fun h hs => ?_; simp only [List.set_cons_zero, List.set_cons_succ] at hs); refine Sep.ldB hs 0 rfl rfl ?_
      exact ⟨rfl, hs⟩
    · have hc' : ¬ r = fh := by simpa using hc
      rw [if_neg hc', if_neg hc']
      refine Sep.ldB hs 0 rfl rfl ?_
      exact ⟨rfl, hs⟩
  refine mIf_intro (fun hc => ?_) (fun hc => ?_)
  · have hc : x = fo := by simpa using hc
    (refine Sep.st hs 0 rfl rfl rfl fun h hs => ?_; simp only [List.set_cons_zero, List.set_cons_succ] at hs)
    refine Cut.mono (k6 0 h hs) ?_
    rintro v h' ⟨rfl, hs⟩
    have e1 : ¬ (0 : Int) = fh := by omega
    rw [if_neg e1] at hs ⊢
    unfold Flt.hear Flt.turned
    simp only [if_pos hc]
    refine ⟨?_, hs⟩
    have : ((0 : Int) == fh) = false := by simpa using e1
    rw [this, hc]
    simp
  · have hc : ¬ x = fo := by simpa using hc
    refine Sep.ldI hs 0 rfl rfl ?_
    (refine Sep.st hs 0 rfl rfl rfl fun h hs => ?_; simp only [List.set_cons_zero, List.set_cons_succ] at hs)
    rw [wrap64 _ (by omega)] at hs
    refine Cut.mono (k6 (fr + 1) h hs) ?_
    rintro v h' ⟨rfl, hs⟩
    unfold Flt.hear Flt.turned
    simp only [if_neg hc]
    have hx : (x == fo) = false := by simpa using hc
    rw [hx, Bool.not_false, Bool.true_and]
    by_cases e : fr + 1 = fh
    · simp only [if_pos e] at hs ⊢
      exact ⟨by simp, hs⟩
    · simp only [if_neg e] at hs ⊢
      exact ⟨by simp, hs⟩
theorem Hear_nil (h : Hp) (x : Bool) : N_debounce_Filter_Hear none x h (fun v h' => v = .tuple #[.bool false, .bool false] ∧ h' = h) := by
  apply S_debounce_Filter_Hear
  unfold B_debounce_Filter_Hear
  simp
theorem Out_s (hs : Sep h0 h (aBlk b f.enc :: R)) : N_debounce_Filter_Out (some ⟨b, 0, none⟩) h (fun v h' => v = .bool f.out ∧ h' = h) := by
  apply S_debounce_Filter_Out
  unfold B_debounce_Filter_Out
  simp only [Option.isNone_some, Bool.not_false, mIf_true, mNil_some, add_mk, Nat.zero_add, mBind_ap]
  refine Sep.ldB hs 0 rfl rfl ?_
  exact ⟨rfl, rfl⟩
theorem Out_nil (h : Hp) : N_debounce_Filter_Out none h (fun v h' => v = .bool false ∧ h' = h) := by
  apply S_debounce_Filter_Out
  unfold B_debounce_Filter_Out
  simp
theorem Run_s (hs : Sep h0 h (aBlk b f.enc :: R)) : N_debounce_Filter_Run (some ⟨b, 0, none⟩) h (fun v h' => v = .int .i64 f.run ∧ h' = h) := by
  apply S_debounce_Filter_Run
  unfold B_debounce_Filter_Run
  simp only [Option.isNone_some, mIf_false, mNil_some, add_mk, Nat.zero_add]
  refine Sep.ldI hs 0 rfl rfl ?_
  exact ⟨rfl, rfl⟩
theorem Run_nil (h : Hp) : N_debounce_Filter_Run none h (fun v h' => v = .int .i64 0 ∧ h' = h) := by
  apply S_debounce_Filter_Run
  unfold B_debounce_Filter_Run
  simp
end
/-- what is told, input by input; the filter behind them -/
def heard : Flt → List Bool → List (Bool × Bool)
  | _, [] => []
  | f, x :: l => ((f.hear x).out, f.turned x) :: heard (f.hear x) l
def after : Flt → List Bool → Flt
  | f, [] => f
  | f, x :: l => after (f.hear x) l
theorem heard_len : ∀ (f : Flt) (l : List Bool), (heard f l).length = l.length
  | _, [] => rfl
  | f, x :: l => by simp [heard, heard_len]
theorem heard_app : ∀ (f : Flt) (l m : List Bool), heard f (l ++ m) = heard f l ++ heard (after f l) m
  | _, [], _ => rfl
  | f, x :: l, m => by simp [heard, after, heard_app]
theorem after_app : ∀ (f : Flt) (l m : List Bool), after f (l ++ m) = after (after f l) m
  | _, [], _ => rfl
  | f, x :: l, m => by simp [after, after_app]
theorem after_ok : ∀ {f : Flt} (_ : f.ok) (l : List Bool), (after f l).ok
  | _, hf, [] => hf
  | _, hf, x :: l => after_ok (hf.hear x) l
def edgesFrom : Nat → List (Bool × Bool) → List (Int × Bool)
  | _, [] => []
  | i, (o, t) :: l => if t then ((i : Int), o) :: edgesFrom (i + 1) l else edgesFrom (i + 1) l
theorem edges_app : ∀ (i : Nat) (l m : List (Bool × Bool)), edgesFrom i (l ++ m) = edgesFrom i l ++ edgesFrom (i + l.length) m
  | _, [], _ => by simp [edgesFrom]
  | i, (o, t) :: l, m => by
    simp only [List.cons_append, edgesFrom, edges_app (i + 1) l m, List.length_cons]
    rw [show i + 1 + l.length = i + (l.length + 1) by omega]
    split <;> simp
theorem edges_len : ∀ (i : Nat) (l : List (Bool × Bool)), (edgesFrom i l).length ≤ l.length
  | _, [] => by simp [edgesFrom]
  | i, (o, t) :: l => by
    have := edges_len (i + 1) l
    simp only [edgesFrom]
    split <;> simp <;> omega
abbrev encE (x : Int × Bool) : List Value := [.int .i64 x.1, .bool x.2]
abbrev encO (x : Bool) : List Value := [.bool x]
section
variable {h0 h : Hp} {R : List As} {b : Nat} {f : Flt}
theorem each_s {g : Nat} {tf tc : Array Value} {ins : Sl} {bs : List Bool} {A : List (Bool × Bool) → As} (hr : RdB h0.size h0 ins bs) (hlen : bs.length ≤ 1000) (hold : Int)
    (hg : ∀ (h : Hp) (B : As) (ts : List (Bool × Bool)) (o t : Bool), ts.length < 1000 → Sep h0 h [B, A ts] → Nf Try.prog g (tf ++ #[.int .i64 (ts.length : Int), .bool o, .bool t] ++ tc) h (fun _ h' => Sep h0 h' [B, A (ts ++ [(o, t)])]))
    (hs : Sep h0 h [A []]) : N_debounce_each ins hold g tf tc h (fun _ h' => Sep h0 h' [A (if fltBad hold then [] else heard ⟨hold, 0, false⟩ bs)]) := by
  apply S_debounce_each
  unfold B_debounce_each
  rw [mBind_ap]
  have hn := hr.n
  cases hb : fltBad hold
  · refine (fNew_s hs hold hb).mono ?_
    rintro v h ⟨b, rfl, hs⟩
    simp only [unP_pointer, Option.isNone_some, mIf_false]
    have f0 := flt_ok0 hold hb
    generalize hfl : (⟨hold, 0, false⟩ : Flt) = fl at *
    have loop : ∀ (d i : Nat) (h : Hp), i + d = bs.length → Sep h0 h [aBlk b (after fl (bs.take i)).enc, A (heard fl (bs.take i))] → K_debounce_each_3 g tf tc (some ⟨b, 0, none⟩) ins (ins.n : Int) (i : Int) h (fun _ h' => Sep h0 h' [A (heard fl bs)]) := by
      intro d
      induction d with
      | zero =>
        intro i h hid hs
        apply S_debounce_each_3
        unfold B_debounce_each_3
        rw [decide_eq_false (by omega), mIf_false]
        rw [List.take_of_length_le (by omega)] at hs
        exact hs.drop
      | succ d ih =>
        intro i h hid hs
        apply S_debounce_each_3
        unfold B_debounce_each_3
        rw [decide_eq_true (by omega), mIf_true]
        refine hs.argB hr (by omega) (by omega) ?_
        have hi : i < bs.length := by omega
        rw [show bs[(i : Int).toNat]'(by omega) = bs[i] from rfl, mBind_ap]
        have haf := after_ok f0 (bs.take i)
        refine (Hear_s hs haf bs[i]).mono ?_
        rintro v h ⟨rfl, hs⟩
        simp only [un2_tuple, unB_bool, mBind_ap]
        have hl : (heard fl (bs.take i)).length = i := by rw [heard_len, List.length_take]; omega
        have := hg h _ (heard fl (bs.take i)) ((after fl (bs.take i)).hear bs[i]).out ((after fl (bs.take i)).turned bs[i]) (by omega) hs
        rw [hl] at this
        refine Nf.mono this ?_
        intro v h hs
        rw [wrap64 _ (by omega), show (i : Int) + 1 = ((i + 1 : Nat) : Int) by omega]
        refine ih (i + 1) h (by omega) ?_
        rw [List.take_succ_eq_append_getElem hi, heard_app, after_app]
        exact hs
    exact loop bs.length 0 h (by omega) (by simpa [heard, after] using hs)
  · refine (fNew_bad h hold hb).mono ?_
    rintro v h' ⟨rfl, rfl⟩
    simp only [unP_pointer, Option.isNone_none, mIf_true]
    exact hs
/-- a slice behind a block -/
def aBox {X : Type} (enc : X → List Value) (sz b : Nat) (l : List X) : As := aEx fun s : Sl => aStar (aBlk b [.slice s.p s.n s.c]) (aRow enc sz s l)
theorem aBox_iff {X : Type} {enc : X → List Value} {sz : Nat} {l : List X} : Sep h0 h (aBox enc sz b l :: R) ↔ ∃ s : Sl, Sep h0 h (aBlk b [.slice s.p s.n s.c] :: aRow enc sz s l :: R) := by
  unfold aBox; rw [Sep.ex]; simp only [Sep.star]
theorem outs1_s {l : List Bool} (hs : Sep h0 h (aBox encO 1 b l :: R)) (hl : l.length < 1000) (i : Int) (o t : Bool) : N_debounce_Outs_1 i o t (some ⟨b, 0, none⟩) h (fun _ h' => Sep h0 h' (aBox encO 1 b (l ++ [o]) :: R)) := by
  obtain ⟨s, hs⟩ := aBox_iff.1 hs
  apply S_debounce_Outs_1
  unfold B_debounce_Outs_1
  simp only [mNil_some]
  refine Sep.ldL hs 0 rfl rfl ?_; (refine Sep.new hs fun nb h hs => ?_; try simp only [List.toList_toArray] at hs)
  refine hs.app1 2 0 o rfl rfl (fun _ => rfl) (by simp [Value.oneCell']) rfl (by omega) (by omega) fun s' h hn hs => ?_
  simp only [List.set_cons_zero, List.set_cons_succ] at hs
  (refine Sep.st hs 1 rfl rfl rfl fun h hs => ?_; simp only [List.set_cons_zero, List.set_cons_succ] at hs)
  exact aBox_iff.2 ⟨s', hs.drop⟩
theorem edges1_s {l : List (Int × Bool)} (hs : Sep h0 h (aBox encE 2 b l :: R)) (hl : l.length < 1000) (i : Int) (o t : Bool) : N_debounce_Edges_1 i o t (some ⟨b, 0, none⟩) h (fun _ h' => Sep h0 h' (aBox encE 2 b (if t then l ++ [(i, o)] else l) :: R)) := by
  apply S_debounce_Edges_1
  unfold B_debounce_Edges_1
  cases t
  · exact hs
  · obtain ⟨s, hs⟩ := aBox_iff.1 hs
    simp only [mIf_true, mNil_some, if_true]
    refine Sep.ldL hs 0 rfl rfl ?_; (refine Sep.new hs fun nb h hs => ?_; try simp only [List.toList_toArray] at hs)
    refine hs.app1 2 0 (i, o) rfl rfl (fun _ => rfl) (by simp [Value.oneCell']) rfl (by omega) (by omega) fun s' h hn hs => ?_
    simp only [List.set_cons_zero, List.set_cons_succ] at hs
    (refine Sep.st hs 1 rfl rfl rfl fun h hs => ?_; simp only [List.set_cons_zero, List.set_cons_succ] at hs)
    exact aBox_iff.2 ⟨s', hs.drop⟩
def outsOf (hold : Int) (bs : List Bool) : List Bool := (if fltBad hold then [] else heard ⟨hold, 0, false⟩ bs).map (·.1)
def edgesOf (hold : Int) (bs : List Bool) : List (Int × Bool) := edgesFrom 0 (if fltBad hold then [] else heard ⟨hold, 0, false⟩ bs)
theorem Outs_s {ins : Sl} {bs : List Bool} (hr : RdB h.size h ins bs) (hlen : bs.length ≤ 1000) (hold : Int) : N_debounce_Outs ins hold h (fun v h' => ∃ s : Sl, v = .slice s.p s.n s.c ∧ Sep h h' [aRow encO 1 s (outsOf hold bs)]) := by
  apply S_debounce_Outs
  unfold B_debounce_Outs
  have hs := (Sep.init h).nilRow encO 1
  refine hs.new fun b h' hs => ?_
  rw [mBind_ap]
  refine (each_s (A := fun ts => aBox encO 1 b (ts.map (·.1))) hr hlen hold ?_ (aBox_iff.2 ⟨⟨none, 0, 0⟩, hs⟩)).mono ?_
  · intro h1 B ts o t hts hs
    have := outs1_s hs.swap (by simpa using hts) (ts.length : Int) o t
    refine Nf.mono this ?_
    intro v h2 hs
    simp only [List.map_append, List.map_cons, List.map_nil]
    exact hs.swap
  · intro v h2 hs
    obtain ⟨s, hs⟩ := aBox_iff.1 hs
    refine Sep.ldL hs 0 rfl rfl ?_
    exact ⟨s, rfl, hs.drop⟩
theorem Edges_s {ins : Sl} {bs : List Bool} (hr : RdB h.size h ins bs) (hlen : bs.length ≤ 1000) (hold : Int) : N_debounce_Edges ins hold h (fun v h' => ∃ s : Sl, v = .slice s.p s.n s.c ∧ Sep h h' [aRow encE 2 s (edgesOf hold bs)]) := by
  apply S_debounce_Edges
  unfold B_debounce_Edges
  have hs := (Sep.init h).nilRow encE 2
  refine hs.new fun b h' hs => ?_
  rw [mBind_ap]
  refine (each_s (A := fun ts => aBox encE 2 b (edgesFrom 0 ts)) hr hlen hold ?_ (aBox_iff.2 ⟨⟨none, 0, 0⟩, hs⟩)).mono ?_
  · intro h1 B ts o t hts hs
    have := edges1_s hs.swap (by have := edges_len 0 ts; omega) (ts.length : Int) o t
    refine Nf.mono this ?_
    intro v h2 hs
    rw [edges_app]
    simp only [edgesFrom, Nat.zero_add]
    cases t
    · simpa using hs.swap
    · exact hs.swap
  · intro v h2 hs
    obtain ⟨s, hs⟩ := aBox_iff.1 hs
    refine Sep.ldL hs 0 rfl rfl ?_
    exact ⟨s, rfl, hs.drop⟩
theorem bfixed_s {h0 h : Hp} {R : List As} (hs : Sep h0 h R) : N_signalboxlaw54_fixed h (fun v h' => v = .bool true ∧ Sep h0 h' R) := by
  apply S_signalboxlaw54_fixed
  unfold B_signalboxlaw54_fixed
  (refine Sep.new hs fun nb h hs => ?_; try simp only [List.toList_toArray] at hs)
  have hb : Blk h nb ([true, false, true, true, false].map (.bool ·)) := hs.blk 0 rfl
  rw [mBind_ap]
  refine (Edges_s (RdB.blk (c := 5) hb hb.lt) (by decide) 2).mono ?_
  rintro v h1 ⟨es, rfl, hs1⟩
  have hs := hs.rebase hs1
  simp only [unL_slice, List.cons_append, List.nil_append] at hs ⊢
  refine hs.new fun nb h hs => ?_
  have hb : Blk h nb ([true, false, true, true, false].map (.bool ·)) := hs.blk 0 rfl
  rw [mBind_ap]
  refine (Outs_s (RdB.blk (c := 5) hb hb.lt) (by decide) 2).mono ?_
  rintro v h1 ⟨os, rfl, hs1⟩
  have hs := hs.rebase hs1
  simp only [unL_slice, mBind_ap, List.cons_append, List.nil_append] at hs ⊢
  have e1 : edgesOf 2 [true, false, true, true, false] = [(3, true)] := by decide
  have e2 : outsOf 2 [true, false, true, true, false] = [false, false, false, true, true] := by decide
  rw [e1, e2] at hs
  refine (fNew_s hs 1 (by decide)).mono ?_
  rintro v h ⟨b, rfl, hs⟩
  simp only [unP_pointer, mBind_ap]
  refine (Hear_s hs (flt_ok0 1 (by decide)) true).mono ?_
  rintro v h ⟨rfl, hs⟩
  have e3 : (⟨1, 0, false⟩ : Flt).hear true = ⟨1, 0, true⟩ := by rfl
  have e4 : (⟨1, 0, false⟩ : Flt).turned true = true := by rfl
  rw [e3] at hs ⊢
  rw [e4]
  simp only [un2_tuple, unB_bool, mBind_ap]
  have n1 := hs.rowLen 3 rfl
  have n2 := hs.rowLen 1 rfl
  refine mIf_pos (by rw [n1]; rfl) ?_
  refine hs.idx 3 rfl (by omega) (by decide) fun a ha => ?_
  refine hs.rldI0 3 rfl (fun _ => rfl) ha rfl rfl ?_
  refine hs.rldB 3 rfl (fun _ => rfl) ha rfl rfl ?_
  rw [mRet_ap]
  refine mIf_pos (by rw [n2]; rfl) ?_
  refine hs.idx 1 rfl (by omega) (by decide) fun a ha => ?_
  refine hs.rldB0 1 rfl (fun _ => rfl) ha rfl rfl ?_
  rw [mRet_ap]
  refine mIf_pos rfl ?_
  refine hs.idx 1 rfl (by omega) (by decide) fun a ha => ?_
  refine hs.rldB0 1 rfl (fun _ => rfl) ha rfl rfl ?_
  rw [mRet_ap]
  refine mIf_pos rfl ?_
  refine hs.idx 1 rfl (by omega) (by decide) fun a ha => ?_
  refine hs.rldB0 1 rfl (fun _ => rfl) ha rfl rfl ?_
  rw [mRet_ap]
  refine mIf_pos rfl ?_
  rw [mBind_ap]
  refine (Out_s hs).mono ?_
  rintro v h' ⟨rfl, rfl⟩
  simp only [unB_bool, mRet_ap]
  refine mIf_pos rfl ?_
  rw [mBind_ap]
  refine (Run_s hs).mono ?_
  rintro v h' ⟨rfl, rfl⟩
  simp only [unI_int, mRet_ap]
  refine mIf_pos rfl ?_
  rw [mBind_ap]
  refine (fNew_bad h' 0 (by decide)).mono ?_
  rintro v h' ⟨rfl, rfl⟩
  exact ⟨rfl, hs.drop.drop.drop.drop.drop⟩
end
end Go.Proofs.Ytkmenmagclojmaa
