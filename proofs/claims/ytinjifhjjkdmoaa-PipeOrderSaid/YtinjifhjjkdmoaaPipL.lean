/- A ring of bytes: what each call answers. Conditions: none. -/
import Derived.Test.YtinjifhjjkdmoaaSbY
import Derived.Test.YtinjifhjjkdmoaaPipM
import Derived.Lib.BytesEntry
import Derived.Laws.Externs
import Derived.Test.YtinjifhjjkdmoaaSbW
namespace Go.Proofs.Ytinjifhjjkdmoaa
open Go Go.Sb
set_option linter.unusedSimpArgs false
set_option linter.unusedVariables false
abbrev encU : Int → List Value := fun z => [.int .u8 z]
def wp (r k : Nat) : Nat := if k < r then k else k - r
theorem wp_tmod {r k : Nat} (hk : k < 2 * r) : Int.tmod (k : Int) (r : Int) = ((wp r k : Nat) : Int) := by
  rw [Int.tmod_eq_emod_of_nonneg (by omega)]
  unfold wp
  split
  · rw [Int.emod_eq_of_lt (by omega) (by omega)]
  · rw [show (k : Int) = ((k - r : Nat) : Int) + (r : Int) by omega, Int.add_emod_right, Int.emod_eq_of_lt (by omega) (by omega)]
theorem wp_lt {r k : Nat} (hk : k < 2 * r) : wp r k < r := by unfold wp; split <;> omega
theorem laid {xs ys : List Int} {lo j : Nat} (h : lo + ys.length ≤ xs.length) : (xs.take lo ++ (ys ++ xs.drop (lo + ys.length)))[j]? = if j < lo then xs[j]? else if j < lo + ys.length then ys[j - lo]? else xs[j]? := by
  split
  · rw [List.getElem?_append_left (by rw [List.length_take]; omega), List.getElem?_take, if_pos (by assumption)]
  · rw [List.getElem?_append_right (by rw [List.length_take]; omega), List.length_take, Nat.min_eq_left (by omega)]
    split
    · rw [List.getElem?_append_left (by omega)]
    · rw [List.getElem?_append_right (by omega), List.getElem?_drop]
      congr 1; omega
theorem laid_len {xs ys : List Int} {lo : Nat} (h : lo + ys.length ≤ xs.length) : (xs.take lo ++ (ys ++ xs.drop (lo + ys.length))).length = xs.length := by
  simp only [List.length_append, List.length_take, List.length_drop]; omega
abbrev isU8 (z : Int) : Prop := IntKind.u8.min ≤ z ∧ z ≤ IntKind.u8.max
structure RingOk (r f : Nat) (ys Q : List Int) : Prop where
  len : ys.length = r
  hf : f < r
  hr : r ≤ 4096
  hq : Q.length ≤ r
  at_ : ∀ i, i < Q.length → ys[wp r (f + i)]? = Q[i]?
  wf : ∀ z ∈ Q, isU8 z
theorem ring_put {r f d : Nat} {ys Q zz l1 : List Int} (hk : RingOk r f ys Q) (hz : zz.length ≤ r - Q.length) (hw : ∀ z ∈ zz, isU8 z) (hd : d = min zz.length (r - wp r (f + Q.length)))
    (h1 : l1 = ys.take (wp r (f + Q.length)) ++ (zz.take d ++ ys.drop (wp r (f + Q.length) + (zz.take d).length))) : RingOk r f (l1.take 0 ++ (zz.drop d ++ l1.drop (0 + (zz.drop d).length))) (Q ++ zz) := by
  obtain ⟨a1, a2, a3, a4, a5, a6⟩ := hk
  have hwl : wp r (f + Q.length) < r := wp_lt (by omega)
  have hl1 : l1.length = r := by rw [h1, laid_len (by rw [List.length_take]; omega), a1]
  have hdl : (zz.drop d).length = zz.length - d := by rw [List.length_drop]
  refine ⟨by rw [laid_len (by omega), hl1], a2, a3, by rw [List.length_append]; omega, fun i hi => ?_, fun z hz' => ?_⟩
  · rw [List.length_append] at hi
    rw [laid (by omega), h1, laid (by rw [List.length_take]; omega), List.length_take]
    have hwd : wp r (f + Q.length) = if f + Q.length < r then f + Q.length else f + Q.length - r := rfl
    have hwi : wp r (f + i) = if f + i < r then f + i else f + i - r := rfl
    rw [if_neg (by omega), Nat.zero_add, hdl, Nat.sub_zero]
    rcases Nat.lt_or_ge i Q.length with h | h
    · rw [List.getElem?_append_left h, ← a5 i h]
      have h2 : ¬ wp r (f + i) < zz.length - d := by split at hwd <;> split at hwi <;> omega
      rw [if_neg h2]
      split
      · rfl
      · rename_i h3
        have h4 : ¬ wp r (f + i) < wp r (f + Q.length) + min d zz.length := by split at hwd <;> split at hwi <;> omega
        rw [if_neg h4]
    · rw [List.getElem?_append_right h]
      by_cases h2 : wp r (f + i) < zz.length - d
      · rw [if_pos h2, List.getElem?_drop]
        congr 1
        split at hwd <;> split at hwi <;> omega
      · rw [if_neg h2]
        have h3 : ¬ wp r (f + i) < wp r (f + Q.length) := by split at hwd <;> split at hwi <;> omega
        have h4 : wp r (f + i) < wp r (f + Q.length) + min d zz.length := by split at hwd <;> split at hwi <;> omega
        rw [if_neg h3, if_pos h4, List.getElem?_take, if_pos (by omega)]
        congr 1
        split at hwd <;> split at hwi <;> omega
  · rcases List.mem_append.1 hz' with h | h
    · exact a6 z h
    · exact hw z h
theorem ring_take {r f : Nat} {ys Q : List Int} (hk : RingOk r f ys Q) (k : Nat) : RingOk r (wp r (f + min k Q.length)) ys (Q.drop k) := by
  obtain ⟨a1, a2, a3, a4, a5, a6⟩ := hk
  refine ⟨a1, wp_lt (by omega), a3, by rw [List.length_drop]; omega, fun i hi => ?_, fun z hz => a6 z (List.mem_of_mem_drop hz)⟩
  rw [List.length_drop] at hi
  rw [List.getElem?_drop, ← a5 (k + i) (by omega)]
  congr 1
  rw [Nat.min_eq_left (by omega)]
  unfold wp
  split <;> split <;> split <;> omega
theorem ring_peek {r f k d : Nat} {ys Q o1 : List Int} (hk : RingOk r f ys Q) (hkq : k ≤ Q.length) (hd : d = min k (r - f))
    (h1 : o1 = (List.replicate k (0 : Int)).take 0 ++ ((ys.drop f).take d ++ (List.replicate k (0 : Int)).drop (0 + ((ys.drop f).take d).length))) :
    o1.take d ++ (ys.take (k - d) ++ o1.drop (d + (ys.take (k - d)).length)) = Q.take k := by
  obtain ⟨a1, a2, a3, a4, a5, a6⟩ := hk
  have hl : ((ys.drop f).take d).length = d := by rw [List.length_take, List.length_drop]; omega
  have hl2 : (ys.take (k - d)).length = k - d := by rw [List.length_take]; omega
  have ho : o1.length = k := by rw [h1, laid_len (by rw [hl]; simp; omega), List.length_replicate]
  apply List.ext_getElem?
  intro i
  have e : (Q.take k)[i]? = if i < k then Q[i]? else none := List.getElem?_take
  rw [laid (by omega), hl2, e]
  by_cases hi : i < k
  · rw [if_pos hi, ← a5 i (by omega)]
    split
    · rw [h1, laid (by rw [hl]; simp; omega), if_neg (by omega), if_pos (by omega), List.getElem?_take, if_pos (by omega), List.getElem?_drop]
      congr 1
      unfold wp
      split <;> omega
    · rw [if_pos (by omega), List.getElem?_take, if_pos (by omega)]
      congr 1
      unfold wp
      split <;> omega
  · rw [if_neg hi, if_neg (by omega), if_neg (by omega), List.getElem?_eq_none (by omega)]
theorem oneU (l : List Int) : ∀ v ∈ l.flatMap encU, v.oneCell' = true := by
  intro v hv
  obtain ⟨z, _, hz⟩ := List.mem_flatMap.1 hv
  simp only [encU, List.mem_singleton] at hz
  subst hz; rfl
theorem RdI.cellsTo {B : Nat} {h : Hp} {k : IntKind} {s : Sl} {zs : List Int} (hr : RdI B h k s zs) {m : Nat} (hm : m ≤ zs.length) : slcells h s m 1 = some ((zs.take m).flatMap fun z => [.int k z]) := by
  have h1 : RdI B h k ⟨s.p, m, s.c⟩ (zs.take m) := ⟨by rw [List.length_take]; show m = _; omega, fun i z hz => hr.at_ i z (by
    rw [List.getElem?_take] at hz
    split at hz
    · exact hz
    · cases hz), fun z hz => hr.wf z (List.mem_of_mem_take hz)⟩
  have := h1.cells
  obtain ⟨p, n, c⟩ := s
  exact this
def Pip (h0 : Hp) (R : List As) (b r : Nat) (Q : List Int) (cl : Bool) (h : Hp) : Prop :=
  ∃ (sl : Sl) (ys : List Int) (f : Nat), Sep h0 h (aBlk b [.slice sl.p sl.n sl.c, .int .i64 (f : Int), .int .i64 (Q.length : Int), .bool cl] :: aRow encU 1 sl ys :: R) ∧ RingOk r f ys Q
section
variable {h0 h : Hp} {R : List As} {b r : Nat} {Q zs : List Int} {cl : Bool} {s : Sl}
theorem Pip.sep (hp : Pip h0 R b r Q cl h) : Sep h0 h R := by
  obtain ⟨sl, ys, f, hs, hk⟩ := hp
  exact hs.drop.drop
theorem Pip.forget {a : As} (hp : Pip h0 (a :: R) b r Q cl h) : Pip h0 R b r Q cl h := by
  obtain ⟨sl, ys, f, hs, hk⟩ := hp
  exact ⟨sl, ys, f, (hs.front 2 rfl).drop, hk⟩
theorem New_s {room : Int} (h1 : 1 ≤ room) (h2 : room ≤ 4096) (hs : Sep h0 h R) : N_pipe_New room h (fun v h' => ∃ b, v = .pointer (some ⟨b, 0, none⟩) ∧ Pip h0 R b room.toNat [] false h') := by
  apply S_pipe_New
  unfold B_pipe_New
  refine mIf_neg (by simp; omega) ?_
  refine hs.make encU 1 0 rfl (by omega) (by omega) (by omega) fun sl h hn hs => ?_
  refine Sep.new hs fun b h hs => ?_
  exact ⟨b, rfl, sl, _, 0, hs, by simp, by omega, by omega, by simp, by simp, by simp⟩
theorem Write_s (hread : ∀ h', Sep h0 h' R → RdI h'.size h' .u8 s zs) (hc : s.n ≤ s.c) (hzl : zs.length ≤ 1000000000) (hp : Pip h0 R b r Q false h) : N_pipe_Pipe_Write (some ⟨b, 0, none⟩) s h (fun v h' =>
    v = .tuple #[.int .i64 ((min zs.length (r - Q.length) : Nat) : Int), .int .i64 (if min zs.length (r - Q.length) < zs.length then 7 else 0)] ∧ Pip h0 R b r (Q ++ zs.take (min zs.length (r - Q.length))) false h') := by
  obtain ⟨sl, ys, f, hs, hk⟩ := hp
  have hk' := hk
  obtain ⟨a1, a2, a3, a4, a5, a6⟩ := hk'
  have hsl := hs.rowLen 1 rfl
  have hslc := hs.rowCap 1 rfl
  have hz := hread h hs.drop.drop
  have hzn := hz.n
  apply S_pipe_Pipe_Write
  unfold B_pipe_Pipe_Write
  refine mIf_neg rfl ?_
  (simp only [mNil_some, add_mk, Nat.zero_add]; refine Sep.ldB hs 0 rfl rfl ?_; simp only [mIf_false]; refine Sep.ldL hs 0 rfl rfl ?_; refine Sep.ldI hs 0 rfl rfl ?_; refine Sep.ldI hs 0 rfl rfl ?_; refine Sep.ldI hs 0 rfl rfl ?_; refine Sep.ldL hs 0 rfl rfl ?_)
  have hn : (if IntKind.i64.wrap ((sl.n : Int) - (Q.length : Int)) < (s.n : Int) then IntKind.i64.wrap ((sl.n : Int) - (Q.length : Int)) else (s.n : Int)) = ((min zs.length (r - Q.length) : Nat) : Int) := by
    rw [wrap64 _ (by omega)]; split <;> omega
  have hat : Int.tmod (IntKind.i64.wrap ((f : Int) + (Q.length : Int))) (sl.n : Int) = ((wp r (f + Q.length) : Nat) : Int) := by
    rw [wrap64 _ (by omega), hsl, a1, show (f : Int) + (Q.length : Int) = ((f + Q.length : Nat) : Int) by omega, wp_tmod (by omega)]
  have hwl : wp r (f + Q.length) < r := wp_lt (by omega)
  simp only [hn, hat]
  generalize hnn : min zs.length (r - Q.length) = n at *
  refine ⟨by omega, ?_⟩
  refine hz.slc hc (by omega) (by omega) (by omega) rfl fun x53 hx53 hx53c => ?_
  (refine Sep.ldL hs 0 rfl rfl ?_)
  refine vslc (s := sl) (by omega) (by omega) (by omega) (by omega) fun x50 hv50 hn50 hc50 => ?_
  rw [Int.toNat_natCast] at hv50 hn50
  have hx53n := hx53.n
  simp only [Int.toNat_natCast, Int.toNat_zero, List.drop_zero] at hx53n hx53
  rw [List.length_take] at hx53n
  have hd : min x53.n x50.n = min n (r - wp r (f + Q.length)) := by omega
  have hzl' : (zs.take n).length = n := by rw [List.length_take]; omega
  refine hs.vcopy 1 (lo := wp r (f + Q.length)) ((zs.take n).take (min n (r - wp r (f + Q.length)))) rfl (fun _ => rfl) hv50 (by rw [hd]; exact RdI.cellsTo hx53 (by omega)) (by rw [hd, List.length_take]; omega) (oneU _) (by rw [List.length_take]; omega) fun h hs => ?_
  simp only [List.set_cons_succ, List.set_cons_zero] at hs
  have hz2 := hread h hs.drop.drop
  generalize hdd : min n (r - wp r (f + Q.length)) = d at *
  have hdl : ((zs.take n).take d).length = d := by rw [List.length_take]; omega
  simp only [hdl]
  refine hz2.slc hc (by omega) (by omega) (by omega) rfl fun x62 hx62 hx62c => ?_
  (refine Sep.ldL hs 0 rfl rfl ?_)
  have hx62n := hx62.n
  simp only [Int.toNat_natCast] at hx62n hx62
  have hdr : ((zs.take n).drop d).length = n - d := by rw [List.length_drop]; omega
  have hm2 : min x62.n sl.n = ((zs.take n).drop d).length := by rw [hx62n, hdr]; omega
  refine hs.vcopy 1 (lo := 0) ((zs.take n).drop d) rfl (fun _ => rfl) (.refl _ _) (by rw [hm2, ← hx62n]; exact hx62.cells) (by rw [hm2]) (oneU _) (by rw [hdr]; simp; omega) fun h hs => ?_
  simp only [List.set_cons_succ, List.set_cons_zero] at hs
  (refine Sep.ldI hs 0 rfl rfl ?_; (refine Sep.st hs 0 rfl rfl rfl fun h hs => ?_; simp only [List.set_cons_zero, List.set_cons_succ] at hs))
  have hlen : IntKind.i64.wrap ((Q.length : Int) + (n : Int)) = ((Q ++ zs.take n).length : Nat) := by
    rw [wrap64 _ (by omega), List.length_append, hzl']; omega
  rw [hlen] at hs
  have hfin : RingOk r f _ (Q ++ zs.take n) := ring_put (d := d) hk (by omega) (fun z hz' => hz.wf z (List.mem_of_mem_take hz')) (by rw [hzl']; omega) rfl
  refine mIf_intro (fun hc => ?_) (fun hc => ?_)
  · have hc : n < zs.length := by simp at hc; omega
    rw [if_pos hc]
    exact ⟨rfl, sl, _, f, hs, hfin⟩
  · have hc : ¬ n < zs.length := by simp at hc; omega
    rw [if_neg hc]
    exact ⟨rfl, sl, _, f, hs, hfin⟩
theorem Len_s (hp : Pip h0 R b r Q cl h) : N_pipe_Pipe_Len (some ⟨b, 0, none⟩) h (fun v h' => v = .int .i64 (Q.length : Int) ∧ h' = h) := by
  obtain ⟨sl, ys, f, hs, hk⟩ := hp
  apply S_pipe_Pipe_Len
  unfold B_pipe_Pipe_Len
  refine mIf_neg rfl ?_
  (simp only [mNil_some, add_mk, Nat.zero_add]; refine Sep.ldI hs 0 rfl rfl ?_)
  exact ⟨rfl, rfl⟩
theorem Peek_s {n : Int} (hp : Pip h0 R b r Q cl h) : N_pipe_Pipe_Peek (some ⟨b, 0, none⟩) n h (fun v h' => ∃ o : Sl, v = .slice o.p o.n o.c ∧ Pip h0 (aRow encU 1 o (Q.take n.toNat) :: R) b r Q cl h') := by
  apply S_pipe_Pipe_Peek
  unfold B_pipe_Pipe_Peek
  rw [mBind_ap]
  refine (Len_s hp).mono ?_
  rintro v h' ⟨rfl, rfl⟩
  simp only [unI_int]
  have hn : (if (Q.length : Int) < (if (0 : Int) > n then (0 : Int) else n) then (Q.length : Int) else (if (0 : Int) > n then (0 : Int) else n)) = ((min n.toNat Q.length : Nat) : Int) := by split <;> split <;> omega
  simp only [hn]
  have htk : Q.take n.toNat = Q.take (min n.toNat Q.length) := by
    rw [← List.take_eq_take_min]
  rw [htk]
  generalize hkk : min n.toNat Q.length = k at *
  obtain ⟨sl, ys, f, hs, hk⟩ := hp
  have hk' := hk
  obtain ⟨a1, a2, a3, a4, a5, a6⟩ := hk'
  refine mIf_intro (fun hc => ?_) (fun hc => ?_)
  · have hc : k = 0 := by simp at hc; omega
    subst hc
    exact ⟨⟨none, 0, 0⟩, rfl, sl, ys, f, (hs.nilRow encU 1).reT 3 [1, 2, 0] rfl (by simp), hk⟩
  · have hc : k ≠ 0 := by simp at hc; omega
    refine hs.make encU 1 0 rfl (by omega) (by omega) (by omega) fun o h hon hs => ?_
    rw [Int.toNat_natCast] at hon
    have hsl := hs.rowLen 2 rfl
    have hslc := hs.rowCap 2 rfl
    have hoc := hs.rowCap 0 rfl
    have hs : Sep h0 h (aRow encU 1 o (List.replicate k 0) :: aBlk b [.slice sl.p sl.n sl.c, .int .i64 (f : Int), .int .i64 (Q.length : Int), .bool cl] :: aRow encU 1 sl ys :: R) := hs
    have fin : ∀ x25 : Sl, Vw sl x25 1 f → x25.n = sl.n - f → mCopy 1 o x25 (fun x26 => K_pipe_Pipe_Peek_6 (some ⟨b, 0, none⟩) o x26) h (fun v h' => ∃ o : Sl, v = .slice o.p o.n o.c ∧ Pip h0 (aRow encU 1 o (Q.take k) :: R) b r Q cl h') := by
      intro x25 hv hxn
      have hd : min x25.n o.n = min k (r - f) := by omega
      generalize hdd : min k (r - f) = d at *
      have hdl : ((ys.drop f).take d).length = d := by rw [List.length_take, List.length_drop]; omega
      refine hs.vcopy 0 (lo := 0) ((ys.drop f).take d) rfl (fun _ => rfl) (.refl _ _) (by rw [hd]; exact hs.vcells 2 rfl (fun _ => rfl) hv (by omega) (by omega)) (by rw [hd, hdl]) (oneU _) (by rw [hdl]; simp; omega) fun h hs => ?_
      rw [List.set_cons_zero] at hs
      rw [hdl]
      apply S_pipe_Pipe_Peek_6
      unfold B_pipe_Pipe_Peek_6
      refine vslc (s := o) (by omega) (by omega) (by omega) (by omega) fun x29 hv29 hn29 hc29 => ?_
      rw [Int.toNat_natCast] at hv29 hn29
      (simp only [mNil_some]; refine Sep.ldL hs 1 rfl rfl ?_)
      have hm2 : min sl.n x29.n = k - d := by omega
      have hyl : (ys.take (k - d)).length = k - d := by rw [List.length_take]; omega
      refine hs.vcopy 0 (lo := d) (ys.take (k - d)) rfl (fun _ => rfl) hv29 (by rw [hm2]; have := hs.vcells 2 (lo := 0) (m := k - d) rfl (fun _ => rfl) (.refl sl 1) (by omega) (by omega); rw [List.drop_zero] at this; exact this) (by rw [hm2, hyl]) (oneU _) (by rw [hyl, ← hdl]; rw [laid_len (by rw [hdl]; simp; omega)]; simp; omega) fun h hs => ?_
      rw [List.set_cons_zero] at hs
      have := ring_peek (d := d) hk (k := k) (by omega) hdd.symm rfl
      rw [this] at hs
      exact ⟨o, rfl, sl, ys, f, hs.reT 3 [1, 2, 0] rfl (by simp), hk⟩
    (simp only [mNil_some, add_mk, Nat.zero_add])
    refine mAnd_intro ?_ ?_
    · (refine Sep.ldL hs 1 rfl rfl ?_; refine Sep.ldI hs 1 rfl rfl ?_)
      refine vslc (s := sl) (by omega) (by omega) (by omega) (by omega) fun x25 hv hxn _ => ?_
      exact fin x25 (by simpa using hv) (by omega)
    · (refine Sep.ldI hs 1 rfl rfl ?_; refine Sep.ldL hs 1 rfl rfl ?_)
      refine vslc (s := sl) (by omega) (by omega) (by omega) (by omega) fun x25 hv hxn _ => ?_
      exact fin x25 (by simpa using hv) (by omega)
theorem take_s {n : Int} (hp : Pip h0 R b r Q cl h) : N_pipe_Pipe_take (some ⟨b, 0, none⟩) n h (fun v h' => ∃ o : Sl, v = .slice o.p o.n o.c ∧ Pip h0 (aRow encU 1 o (Q.take n.toNat) :: R) b r (Q.drop n.toNat) cl h') := by
  apply S_pipe_Pipe_take
  unfold B_pipe_Pipe_take
  rw [mBind_ap]
  refine (Peek_s hp).mono ?_
  rintro v h' ⟨o, rfl, sl, ys, f, hs, hk⟩
  have hk' := hk
  obtain ⟨a1, a2, a3, a4, a5, a6⟩ := hk'
  have hon := hs.rowLen 2 rfl
  have hsl := hs.rowLen 1 rfl
  rw [List.length_take] at hon
  simp only [unL_slice]
  (simp only [mNil_some, add_mk, Nat.zero_add]; refine Sep.ldI hs 0 rfl rfl ?_; (refine Sep.st hs 0 rfl rfl rfl fun h hs => ?_; simp only [List.set_cons_zero, List.set_cons_succ] at hs); refine Sep.ldI hs 0 rfl rfl ?_; refine Sep.ldL hs 0 rfl rfl ?_)
  have e1 : IntKind.i64.wrap ((Q.length : Int) - (o.n : Int)) = ((Q.drop n.toNat).length : Nat) := by rw [wrap64 _ (by omega), List.length_drop]; omega
  have e2 : Int.tmod (IntKind.i64.wrap ((f : Int) + (o.n : Int))) (sl.n : Int) = ((wp r (f + min n.toNat Q.length) : Nat) : Int) := by
    rw [wrap64 _ (by omega), hsl, a1, show (f : Int) + (o.n : Int) = ((f + min n.toNat Q.length : Nat) : Int) by omega, wp_tmod (by omega)]
  refine ⟨by omega, ?_⟩
  ((refine Sep.st hs 0 rfl rfl rfl fun h hs => ?_; simp only [List.set_cons_zero, List.set_cons_succ] at hs))
  rw [e1, e2] at hs
  exact ⟨o, rfl, sl, ys, _, hs, ring_take hk _⟩
theorem none_s (hp : Pip h0 R b r Q cl h) : N_pipe_Pipe_none (some ⟨b, 0, none⟩) h (fun v h' => v = .int .i64 (if cl then 8 else 6) ∧ h' = h) := by
  obtain ⟨sl, ys, f, hs, hk⟩ := hp
  apply S_pipe_Pipe_none
  unfold B_pipe_Pipe_none
  (simp only [mNil_some, add_mk, Nat.zero_add]; refine Sep.ldB hs 0 rfl rfl ?_)
  cases cl
  · exact ⟨rfl, rfl⟩
  · exact ⟨rfl, rfl⟩
theorem Close_s (hp : Pip h0 R b r Q cl h) : N_pipe_Pipe_Close (some ⟨b, 0, none⟩) h (fun v h' => Pip h0 R b r Q true h') := by
  obtain ⟨sl, ys, f, hs, hk⟩ := hp
  apply S_pipe_Pipe_Close
  unfold B_pipe_Pipe_Close
  refine mIf_pos rfl ?_
  (simp only [mNil_some, add_mk, Nat.zero_add]; (refine Sep.st hs 0 rfl rfl rfl fun h hs => ?_; simp only [List.set_cons_zero, List.set_cons_succ] at hs))
  exact ⟨sl, ys, f, hs, hk⟩
theorem Read_s {n : Int} (hn : 0 ≤ n) (hp : Pip h0 R b r Q cl h) : N_pipe_Pipe_Read (some ⟨b, 0, none⟩) n h (fun v h' => ∃ o : Sl, v = .tuple #[.slice o.p o.n o.c, .int .i64 (if 0 < n ∧ Q = [] then (if cl then 8 else 6) else 0)] ∧ Pip h0 (aRow encU 1 o (Q.take n.toNat) :: R) b r (Q.drop n.toNat) cl h') := by
  apply S_pipe_Pipe_Read
  unfold B_pipe_Pipe_Read
  refine mIf_neg rfl ?_
  refine mIf_neg (by simp; omega) ?_
  rw [mBind_ap]
  have tk : ¬ (0 < n ∧ Q = []) → mIf false (mBind (N_pipe_Pipe_none (some ⟨b, 0, none⟩)) fun r23 => unI .i64 r23 fun (x23 : Int) => mRet (Value.tuple #[.slice none (0) (0), .int .i64 x23])) (mBind (N_pipe_Pipe_take (some ⟨b, 0, none⟩) n) fun r26 =>
        unL r26 fun (x26 : Sl) =>
        mRet (Value.tuple #[.slice x26.p x26.n x26.c, .int .i64 (0 : Int)])) h (fun v h' => ∃ o : Sl, v = .tuple #[.slice o.p o.n o.c, .int .i64 (if 0 < n ∧ Q = [] then (if cl then 8 else 6) else 0)] ∧ Pip h0 (aRow encU 1 o (Q.take n.toNat) :: R) b r (Q.drop n.toNat) cl h') := by
    intro hc
    rw [if_neg hc]
    refine mIf_neg rfl ?_
    rw [mBind_ap]
    refine (take_s hp).mono ?_
    rintro v h' ⟨o, rfl, hp⟩
    exact ⟨o, rfl, hp⟩
  refine mIf_intro (fun hc => ?_) (fun hc => ?_)
  · have hc : 0 < n := by simpa using hc
    have hp' := hp
    obtain ⟨sl, ys, f, hs, hk⟩ := hp'
    (simp only [mNil_some, add_mk, Nat.zero_add]; refine Sep.ldI hs 0 rfl rfl ?_; rw [mRet_ap])
    by_cases hq : Q = []
    · subst hq
      refine mIf_pos rfl ?_
      rw [mBind_ap]
      refine (none_s hp).mono ?_
      rintro v h' ⟨rfl, rfl⟩
      have e : (if 0 < n ∧ ([] : List Int) = [] then (if cl = true then (8 : Int) else 6) else 0) = (if cl = true then 8 else 6) := if_pos ⟨hc, rfl⟩
      rw [e, List.take_nil, List.drop_nil]
      exact ⟨⟨none, 0, 0⟩, rfl, sl, ys, f, (hs.nilRow encU 1).reT 3 [1, 2, 0] rfl (by simp), hk⟩
    · have : ((Q.length : Int) == 0) = false := by
        have := List.length_pos_iff.2 hq
        simp; exact hq
      show mIf ((Q.length : Int) == 0) _ _ _ _
      rw [this]
      exact tk fun hh => hq hh.2
  · have hc : ¬ 0 < n := by simpa using hc
    exact tk fun hh => hc hh.1
theorem run_ib {w : World} {s : Sl} {Q : List Int} (hr : RdI w.heap.size w.heap .u8 s Q) (c : Int) : (Extern.BytealgIndexByte.indexByte #[.slice s.p s.n s.c, .int .u8 c]).run Try.prog w = .ok (.int .i64 (firstIdx ⟨(Lib.bytesOf Q).toArray⟩ c.toNat.toUInt8)) w := by
  have hb : (Extern.Bytes.bytesOf (.slice s.p s.n s.c)).run Try.prog w = .ok ⟨(Lib.bytesOf Q).toArray⟩ w := by
    obtain ⟨p, n, cc⟩ := s
    have hn := hr.n
    simp only at hn
    subst hn
    cases p with
    | none =>
      have : Q = [] := by
        cases Q with
        | nil => rfl
        | cons q Q => obtain ⟨a, h1, _⟩ := hr.at_ 0 q rfl; cases h1
      subst this; rfl
    | some a =>
      have := Lib.run_loadBytesX (P := Try.prog) w Q a .empty fun j x hj => by
        obtain ⟨a', h1, _, h3⟩ := hr.at_ j x hj
        cases h1
        exact h3
      show (Extern.Bytes.loadBytes a Q.length .empty).run Try.prog w = _
      rw [this]
      congr 1
      apply ByteArray.ext
      show (#[] : Array UInt8) ++ _ = _
      simp
  change Sem.run Try.prog (Extern.Bytes.bytesOf (.slice s.p s.n s.c) >>= _) w = _
  rw [Sem.run_bind, hb, Result.andThen_ok]
  change Sem.run Try.prog (pure c.toNat.toUInt8 >>= _) w = _
  rw [Sem.run_bind, Sem.run_pure, Result.andThen_ok]
  unfold firstIdx
  split <;> rename_i h <;> rw [h] <;> rfl
theorem ib_s (hr : RdI h.size h .u8 s Q) : N_bytes_IndexByte s 10 h (fun v h' => v = .int .i64 (firstIdx ⟨(Lib.bytesOf Q).toArray⟩ 10) ∧ h' = h) := by
  apply S_bytes_IndexByte
  unfold B_bytes_IndexByte
  rw [mBind_ap]
  have : N_internal_bytealg_IndexByte s 10 h (fun v h' => v = .int .i64 (firstIdx ⟨(Lib.bytesOf Q).toArray⟩ 10) ∧ h' = h) := by
    refine Nf.ext _ (fun w hw => ?_) ⟨rfl, rfl⟩
    subst hw
    rw [run_callFunc_extern Try.func96 (by kernel_rfl) (by kernel_rfl) (by kernel_rfl) (e := Extern.BytealgIndexByte.indexByte) (by kernel_rfl), run_ib hr 10]
    rfl
  refine this.mono ?_
  rintro v h' ⟨rfl, rfl⟩
  simp only [unI_int]
  exact ⟨rfl, rfl⟩
theorem Line_hit {i : Nat} (hi : firstIdx ⟨(Lib.bytesOf Q).toArray⟩ 10 = (i : Int)) (hi2 : i < 1000000) (hp : Pip h0 R b r Q cl h) : N_pipe_Pipe_Line (some ⟨b, 0, none⟩) h (fun v h' => ∃ o : Sl, v = .tuple #[.slice o.p o.n o.c, .int .i64 0] ∧ Pip h0 (aRow encU 1 o (Q.take (i + 1)) :: R) b r (Q.drop (i + 1)) cl h') := by
  have hp' := hp
  obtain ⟨sl, ys, f, hs, hk⟩ := hp'
  apply S_pipe_Pipe_Line
  unfold B_pipe_Pipe_Line
  refine mIf_neg rfl ?_
  (simp only [mNil_some, add_mk, Nat.zero_add]; refine Sep.ldI hs 0 rfl rfl ?_; simp only [mBind_ap])
  refine (Peek_s hp).mono ?_
  rintro v h' ⟨o, rfl, hp⟩
  rw [Int.toNat_natCast, List.take_length] at hp
  have hp' := hp
  obtain ⟨sl, ys, f, hs, hk⟩ := hp'
  simp only [unL_slice]
  rw [mBind_ap]
  refine (ib_s (hs.rowI' 2 rfl hk.wf).1).mono ?_
  rintro v h' ⟨rfl, rfl⟩
  simp only [unI_int, hi]
  refine mIf_pos (by simp) ?_
  rw [wrap64 _ (by omega), mBind_ap]
  refine (take_s hp.forget).mono ?_
  rintro v h' ⟨o, rfl, hp⟩
  rw [show ((i : Int) + 1).toNat = i + 1 by omega] at hp
  exact ⟨o, rfl, hp⟩
theorem Line_none (hi : firstIdx ⟨(Lib.bytesOf Q).toArray⟩ 10 = -1) (hq : Q.length < r) (hp : Pip h0 R b r Q false h) : N_pipe_Pipe_Line (some ⟨b, 0, none⟩) h (fun v h' => v = .tuple #[.slice none 0 0, .int .i64 6] ∧ Pip h0 R b r Q false h') := by
  have hp' := hp
  obtain ⟨sl, ys, f, hs, hk⟩ := hp'
  apply S_pipe_Pipe_Line
  unfold B_pipe_Pipe_Line
  refine mIf_neg rfl ?_
  (simp only [mNil_some, add_mk, Nat.zero_add]; refine Sep.ldI hs 0 rfl rfl ?_; simp only [mBind_ap])
  refine (Peek_s hp).mono ?_
  rintro v h' ⟨o, rfl, hp⟩
  rw [Int.toNat_natCast, List.take_length] at hp
  have hp' := hp
  obtain ⟨sl, ys, f, hs, hk⟩ := hp'
  simp only [unL_slice]
  rw [mBind_ap]
  refine (ib_s (hs.rowI' 2 rfl hk.wf).1).mono ?_
  rintro v h' ⟨rfl, rfl⟩
  simp only [unI_int, hi]
  refine mIf_neg (by simp) ?_
  have hsl := hs.rowLen 1 rfl
  have hl := hk.len
  (refine Sep.ldB hs 0 rfl rfl ?_; simp only [mIf_false, mBind_ap]; rw [mRet_ap]; simp only [mIf_false]; refine Sep.ldB hs 0 rfl rfl ?_; simp only [Bool.not_false, mIf_true, mBind_ap]; refine Sep.ldI hs 0 rfl rfl ?_; refine Sep.ldL hs 0 rfl rfl ?_; rw [mRet_ap])
  refine mIf_neg (by simp; omega) ?_
  rw [mBind_ap]
  refine (none_s hp).mono ?_
  rintro v h' ⟨rfl, rfl⟩
  simp only [unI_int]
  exact ⟨rfl, hp.forget⟩
end
end Go.Proofs.Ytinjifhjjkdmoaa
