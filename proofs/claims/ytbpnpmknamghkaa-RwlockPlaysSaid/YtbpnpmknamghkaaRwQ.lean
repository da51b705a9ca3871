/- Locks for many readers: what each call answers, and the law RwlockNone. Conditions: none. -/
import Derived.Test.YtbpnpmknamghkaaRwM
import Derived.Test.YtbpnpmknamghkaaSbW
import Derived.Test.YtbpnpmknamghkaaSbX
namespace Go.Proofs.Ytbpnpmknamghkaa
open Go Go.Sb
set_option linter.unusedSimpArgs false
set_option linter.unusedVariables false
structure P where
  who : Int
  w : Bool
def P.enc (x : P) : List Value := [.int .i64 x.who, .bool x.w]
abbrev encZ : Int → List Value := fun z => [.int .i64 z]
abbrev WFin (h0 : Hp) : Value → Hp → Prop := fun v h' => v = .bool true ∧ Under h0.size h0 h'
theorem P.one (x : P) : ∀ v ∈ x.enc, v.oneCell' = true := by
  intro v hv
  simp only [P.enc, List.mem_cons, List.not_mem_nil, or_false] at hv
  rcases hv with rfl | rfl <;> rfl
/-- where one stands -/
def fnd (who : Int) : List P → Int → Int
  | [], _ => -1
  | p :: l, k => if p.who = who then k else fnd who l (k + 1)
theorem fnd_spec (who : Int) : ∀ (l : List P) (k : Int), (fnd who l k = -1 ∧ ∀ p ∈ l, p.who ≠ who) ∨ ∃ i, ∃ hi : i < l.length, fnd who l k = k + i ∧ l[i].who = who
  | [], k => .inl ⟨rfl, by simp⟩
  | p :: l, k => by
    unfold fnd
    by_cases hc : p.who = who
    · rw [if_pos hc]
      exact .inr ⟨0, by simp, by simp, hc⟩
    · rw [if_neg hc]
      rcases fnd_spec who l (k + 1) with ⟨h1, h2⟩ | ⟨i, hi, h1, h2⟩
      · exact .inl ⟨h1, by simpa using ⟨hc, h2⟩⟩
      · exact .inr ⟨i + 1, by simpa using hi, by rw [h1]; omega, by simpa using h2⟩
def may (hold : List P) (p : P) : Bool := match hold with
  | [] => true
  | q :: _ => !p.w && !q.w
def grantR : List P → List P → List Int → List P × List P × List Int
  | hold, [], out => (hold, [], out)
  | hold, p :: w, out => if may hold p then grantR (hold ++ [p]) w (out ++ [p.who]) else (hold, p :: w, out)
section
variable {h0 h : Hp} {R : List As} {b : Nat} {x y : Sl} {hold wait : List P} {who : Int}
theorem find1_s {p : P} (hs : Sep h0 h (aBlk b [.int .i64 who] :: R)) : N_rwlock_find_1 p.who p.w (some ⟨b, 0, none⟩) h (fun v h' => v = .bool (p.who == who) ∧ Sep h0 h' (aBlk b [.int .i64 who] :: R)) := by
  apply S_rwlock_find_1
  unfold B_rwlock_find_1
  ((refine Sep.new hs fun nb h hs => ?_; try simp only [List.toList_toArray] at hs); refine Sep.ldI hs 0 rfl rfl ?_; simp only [mNil_some]; refine Sep.ldI hs 1 rfl rfl ?_)
  exact ⟨rfl, hs.drop⟩
theorem idx2 {ls : Sl} {l : List P} (hl : RdE h0.size h0 P.enc 2 ls l) (hn : l.length ≤ 1000) : ∀ (d k : Nat) (h : Hp), k + d = l.length → Sep h0 h [aBlk b [.int .i64 who]] →
    K_slices_IndexFunc_rwlock_party_rwlock_party_2 ls 87 #[] #[.pointer (some ⟨b, 0, none⟩)] (ls.n : Int) (k : Int) h (fun v h' => v = .int .i64 (fnd who (l.drop k) k) ∧ Sep h0 h' [aBlk b [.int .i64 who]])
  | 0, k, h, hk, hs => by
    have hln := hl.n
    apply S_slices_IndexFunc_rwlock_party_rwlock_party_2
    unfold B_slices_IndexFunc_rwlock_party_rwlock_party_2
    refine mIf_neg (by simp; omega) ?_
    rw [List.drop_of_length_le (by omega)]
    exact ⟨rfl, hs⟩
  | d + 1, k, h, hk, hs => by
    have ih := fun h => idx2 hl hn d (k + 1) h (by omega)
    have hln := hl.n
    have hkl : k < l.length := by omega
    apply S_slices_IndexFunc_rwlock_party_rwlock_party_2
    unfold B_slices_IndexFunc_rwlock_party_rwlock_party_2
    refine mIf_pos (by simp; omega) ?_
    (refine Sep.argEn hs hl (by first | omega | (simp only [List.length_set, List.length_map, List.length_replicate, List.length_append, List.length_cons, List.length_nil, List.length_reverse, List.length_range]; omega) | (simp; omega)) fun aa haa => ?_; refine Arg.ldI0 haa rfl ?_; refine Arg.ldB haa rfl ?_; simp only [mBind_ap])
    refine (find1_s (p := l[k]) hs).mono ?_
    rintro v h ⟨rfl, hs⟩
    (simp only [unB_bool])
    rw [List.drop_eq_getElem_cons hkl]
    unfold fnd
    refine mIf_intro (fun hc => ?_) (fun hc => ?_)
    · rw [if_pos (by simpa using hc)]
      exact ⟨rfl, hs⟩
    · rw [if_neg (by simpa using hc)]
      rw [wrap64 _ (by omega)]
      exact ih h hs
theorem find_s {ls : Sl} {l : List P} (hl : RdE h.size h P.enc 2 ls l) (hn : l.length ≤ 1000) : N_rwlock_find ls who h (fun v h' => v = .int .i64 (fnd who l 0) ∧ Sep h h' []) := by
  have hs := Sep.init h
  apply S_rwlock_find
  unfold B_rwlock_find
  ((refine Sep.new hs fun nb h hs => ?_; try simp only [List.toList_toArray] at hs); simp only [mBind_ap])
  apply S_slices_IndexFunc_rwlock_party_rwlock_party
  unfold B_slices_IndexFunc_rwlock_party_rwlock_party
  refine (idx2 hl hn l.length 0 _ (by omega) hs).mono ?_
  rintro v h' ⟨rfl, hs⟩
  simp only [unI_int]
  exact ⟨rfl, hs.drop⟩
theorem names3 {ls : Sl} {l : List P} (hl : RdE h0.size h0 P.enc 2 ls l) (hn : l.length ≤ 1000) : ∀ (d k : Nat) (h : Hp) (out : Sl), k + d = l.length → Sep h0 h [aRow encZ 1 out ((l.take k).map (·.who))] →
    K_rwlock_names_3 out ls (ls.n : Int) (k : Int) h (fun v h' => ∃ o : Sl, v = .slice o.p o.n o.c ∧ Sep h0 h' [aRow encZ 1 o (l.map (·.who))])
  | 0, k, h, out, hk, hs => by
    have hln := hl.n
    apply S_rwlock_names_3
    unfold B_rwlock_names_3
    refine mIf_neg (by simp; omega) ?_
    rw [List.take_of_length_le (by omega)] at hs
    exact ⟨_, rfl, hs⟩
  | d + 1, k, h, out, hk, hs => by
    have ih := fun h out => names3 hl hn d (k + 1) h out (by omega)
    have hln := hl.n
    have hkl : k < l.length := by omega
    have hlen : ((l.take k).map (·.who)).length ≤ 1000 := by simp; omega
    apply S_rwlock_names_3
    unfold B_rwlock_names_3
    refine mIf_pos (by simp; omega) ?_
    (refine Sep.argEn hs hl (by first | omega | (simp only [List.length_set, List.length_map, List.length_replicate, List.length_append, List.length_cons, List.length_nil, List.length_reverse, List.length_range]; omega) | (simp; omega)) fun aa haa => ?_; refine Arg.ldI0 haa rfl ?_; refine Arg.ldB haa rfl ?_; (refine Sep.new hs fun nb h hs => ?_; try simp only [List.toList_toArray] at hs); (refine Sep.st hs 0 rfl rfl rfl fun h hs => ?_; simp only [List.set_cons_zero, List.set_cons_succ] at hs); (refine Sep.st hs 0 rfl rfl rfl fun h hs => ?_; simp only [List.set_cons_zero, List.set_cons_succ] at hs); refine Sep.ldI hs 0 rfl rfl ?_; (refine Sep.new hs fun nb_1 h hs => ?_; try simp only [List.toList_toArray] at hs); (refine Sep.app1 hs 2 0 _ rfl rfl (fun _ => rfl) (by simp [Value.oneCell']) rfl (by omega) (by first | omega | (simp only [List.length_set, List.length_map, List.length_replicate, List.length_append, List.length_cons, List.length_nil, List.length_reverse, List.length_range]; omega) | (simp; omega)) fun sl h hn_sl hs => ?_; simp only [List.set_cons_zero, List.set_cons_succ] at hs))
    rw [wrap64 _ (by omega), show (k : Int) + 1 = ((k + 1 : Nat) : Int) by omega]
    refine ih h _ ?_
    rw [List.take_succ_eq_append_getElem hkl, List.map_append]
    exact hs.drop.drop
theorem names_s {ls : Sl} {l : List P} (hl : RdE h.size h P.enc 2 ls l) (hn : l.length ≤ 1000) : N_rwlock_names ls h (fun v h' => ∃ o : Sl, v = .slice o.p o.n o.c ∧ Sep h h' [aRow encZ 1 o (l.map (·.who))]) := by
  have hs := Sep.init h
  have hs := hs.nilRow' encZ 1 ⟨none, 0, 0⟩ rfl rfl
  apply S_rwlock_names
  unfold B_rwlock_names
  exact names3 hl hn l.length 0 h _ (by omega) hs
theorem may_s {p : P} (hs : Sep h0 h (aBlk b [.slice x.p x.n x.c, .slice y.p y.n y.c] :: aRow P.enc 2 x hold :: R)) : N_rwlock_Lock_may (some ⟨b, 0, none⟩) p.who p.w h (fun v h' => v = .bool (may hold p) ∧ Sep h0 h' (aBlk b [.slice x.p x.n x.c, .slice y.p y.n y.c] :: aRow P.enc 2 x hold :: R)) := by
  have hxn := hs.rowLen 1 rfl
  apply S_rwlock_Lock_may
  unfold B_rwlock_Lock_may
  ((refine Sep.new hs fun nb h hs => ?_; try simp only [List.toList_toArray] at hs); refine Sep.ldB hs 0 rfl rfl ?_; simp only [mNil_some])
  cases hold with
  | nil =>
    have hx0 : (x.n : Int) = 0 := by rw [hxn]; rfl
    refine mIf_intro (fun hc => ?_) (fun hc => ?_)
    · (refine Sep.ldL hs 1 rfl rfl ?_)
      exact ⟨by rw [hx0]; rfl, hs.drop⟩
    · (refine Sep.ldL hs 1 rfl rfl ?_; simp only [mBind_ap])
      refine mIf_pos (by rw [hx0]; rfl) ?_
      exact ⟨rfl, hs.drop⟩
  | cons q l =>
    have hx0 : ((x.n : Int) == 0) = false := by rw [hxn]; simp; omega
    refine mIf_intro (fun hc => ?_) (fun hc => ?_)
    · (refine Sep.ldL hs 1 rfl rfl ?_)
      exact ⟨by rw [hx0]; simp [may, hc], hs.drop⟩
    · (refine Sep.ldL hs 1 rfl rfl ?_; simp only [mBind_ap])
      refine mIf_neg hx0 ?_
      (refine Sep.ldL hs 1 rfl rfl ?_; (refine Sep.idx hs 2 rfl (by first | omega | (simp only [List.length_set, List.length_map, List.length_replicate, List.length_append, List.length_cons, List.length_nil, List.length_reverse, List.length_range]; omega) | (simp; omega)) (by first | omega | (simp only [List.length_set, List.length_map, List.length_replicate, List.length_append, List.length_cons, List.length_nil, List.length_reverse, List.length_range]; omega) | (simp; omega)) fun aa haa => ?_; try simp only [Int.toNat_natCast] at haa); refine Sep.rldB hs 2 rfl (fun _ => rfl) haa (List.getElem?_eq_getElem (by first | omega | (simp only [List.length_set, List.length_map, List.length_replicate, List.length_append, List.length_cons, List.length_nil, List.length_reverse, List.length_range]; omega) | (simp; omega))) rfl ?_; rw [mRet_ap])
      exact ⟨by simp [may, hc], hs.drop⟩
theorem clone_s {ls : Sl} {l : List P} (hl : RdE h.size h P.enc 2 ls l) (hn : l.length ≤ 1000) (hne : 0 < l.length) : N_slices_Clone_rwlock_party_rwlock_party ls h (fun v h' => ∃ o : Sl, v = .slice o.p o.n o.c ∧ Sep h h' [aRow P.enc 2 o l]) := by
  have hs := Sep.init h
  obtain ⟨a, ha, _⟩ := hl.at_ 0 _ (List.getElem?_eq_getElem hne)
  apply S_slices_Clone_rwlock_party_rwlock_party
  unfold B_slices_Clone_rwlock_party_rwlock_party
  refine mIf_neg (by rw [ha]; rfl) ?_
  ((refine Sep.new hs fun nb h hs => ?_; try simp only [List.toList_toArray] at hs))
  have hs2 := Blk.row (enc := P.enc) (sz := 2) (xs := []) (n := 0) hs 0 rfl rfl rfl
  simp only [List.set_cons_zero] at hs2
  refine hs2.app_ 0 l rfl (fun _ => rfl) (RdE.cells (hl.now hs2) (fun _ => rfl)) hl.n ?_ rfl (by omega) (by simp; omega) fun s' h hn hs => ?_
  · intro v hv
    obtain ⟨x, _, hx⟩ := List.mem_flatMap.1 hv
    exact P.one x v hx
  · simp only [List.set_cons_zero, List.nil_append] at hs
    exact ⟨s', rfl, hs⟩
theorem delete_s {l : List P} {s : Sl} (hs : Sep h0 h (aRow P.enc 2 s l :: R)) {i : Nat} (hi : i < l.length) : N_slices_Delete_rwlock_party_rwlock_party s i ((i : Int) + 1) h (fun v h' => ∃ o : Sl, v = .slice o.p o.n o.c ∧ Sep h0 h' (aRow P.enc 2 o (l.eraseIdx i) :: R)) := by
  apply S_slices_Delete_rwlock_party_rwlock_party
  unfold B_slices_Delete_rwlock_party_rwlock_party
  refine hs.delete 0 rfl (fun _ => rfl) hi ⟨0, false⟩ rfl P.one fun s' h' _ hs => ?_
  exact ⟨s', rfl, hs⟩
/-- one leaves a row -/
def rm (who : Int) (l : List P) : List P := if fnd who l 0 < 0 then l else l.eraseIdx (fnd who l 0).toNat
theorem dropH_s (hs : Sep h0 h (aBlk b [.slice x.p x.n x.c, .slice y.p y.n y.c] :: aRow P.enc 2 x hold :: aRow P.enc 2 y wait :: R)) (hn : hold.length ≤ 1000) :
    N_rwlock_drop (some ⟨b, 0, none⟩) who h (fun v h' => v = .bool (!decide (fnd who hold 0 < 0)) ∧ ∃ x : Sl, Sep h0 h' (aBlk b [.slice x.p x.n x.c, .slice y.p y.n y.c] :: aRow P.enc 2 x (rm who hold) :: aRow P.enc 2 y wait :: R)) := by
  have hl := hs.rowE 1 rfl (fun _ => rfl) (by omega)
  have hxn := hs.rowLen 1 rfl
  apply S_rwlock_drop
  unfold B_rwlock_drop
  (simp only [mNil_some]; refine Sep.ldL hs 0 rfl rfl ?_; simp only [mBind_ap])
  refine (find_s hl hn).mono ?_
  rintro v h ⟨rfl, hs'⟩
  have hs := hs.rebase hs'
  simp only [List.nil_append] at hs
  (simp only [unI_int])
  refine mIf_dec (fun hc => ?_) (fun hc => ?_)
  · refine ⟨by rw [decide_eq_true hc]; rfl, x, ?_⟩
    unfold rm
    rw [if_pos hc]
    exact hs
  · obtain ⟨i, hi, hf⟩ : ∃ i, i < hold.length ∧ fnd who hold 0 = (i : Nat) := by
      rcases fnd_spec who hold 0 with ⟨h1, _⟩ | ⟨i, hi, h1, _⟩
      · omega
      · exact ⟨i, hi, by omega⟩
    have hl := hs.rowE 1 rfl (fun _ => rfl) (by omega)
    (refine Sep.ldL hs 0 rfl rfl ?_; simp only [mBind_ap])
    refine (clone_s hl hn (by omega)).mono ?_
    rintro v h ⟨o, rfl, hs'⟩
    have hs := hs.rebase hs'
    simp only [List.cons_append, List.nil_append] at hs
    (simp only [unL_slice, mBind_ap])
    rw [hf, wrap64 _ (by omega)]
    refine (delete_s hs hi).mono ?_
    rintro v h ⟨o2, rfl, hs⟩
    (simp only [unL_slice]; (refine Sep.st hs 1 rfl rfl rfl fun h hs => ?_; simp only [List.set_cons_zero, List.set_cons_succ] at hs))
    refine ⟨by simp, o2, ?_⟩
    unfold rm
    rw [hf, if_neg (by omega), Int.toNat_natCast]
    have hs : Sep h0 h (aRow P.enc 2 x hold :: aBlk b [.slice o2.p o2.n o2.c, .slice y.p y.n y.c] :: aRow P.enc 2 o2 (hold.eraseIdx i) :: aRow P.enc 2 y wait :: R) := hs.reT 4 [2, 1, 0, 3] rfl (by simp)
    exact hs.drop
theorem dropW_s (hs : Sep h0 h (aBlk b [.slice x.p x.n x.c, .slice y.p y.n y.c] :: aRow P.enc 2 x hold :: aRow P.enc 2 y wait :: R)) (hn : wait.length ≤ 1000) :
    N_rwlock_drop (some ⟨b, 1, none⟩) who h (fun v h' => v = .bool (!decide (fnd who wait 0 < 0)) ∧ ∃ y : Sl, Sep h0 h' (aBlk b [.slice x.p x.n x.c, .slice y.p y.n y.c] :: aRow P.enc 2 x hold :: aRow P.enc 2 y (rm who wait) :: R)) := by
  have hl := hs.rowE 2 rfl (fun _ => rfl) (by omega)
  have hxn := hs.rowLen 2 rfl
  apply S_rwlock_drop
  unfold B_rwlock_drop
  (simp only [mNil_some]; refine Sep.ldL hs 0 rfl rfl ?_; simp only [mBind_ap])
  refine (find_s hl hn).mono ?_
  rintro v h ⟨rfl, hs'⟩
  have hs := hs.rebase hs'
  simp only [List.nil_append] at hs
  (simp only [unI_int])
  refine mIf_dec (fun hc => ?_) (fun hc => ?_)
  · refine ⟨by rw [decide_eq_true hc]; rfl, y, ?_⟩
    unfold rm
    rw [if_pos hc]
    exact hs
  · obtain ⟨i, hi, hf⟩ : ∃ i, i < wait.length ∧ fnd who wait 0 = (i : Nat) := by
      rcases fnd_spec who wait 0 with ⟨h1, _⟩ | ⟨i, hi, h1, _⟩
      · omega
      · exact ⟨i, hi, by omega⟩
    have hl := hs.rowE 2 rfl (fun _ => rfl) (by omega)
    (refine Sep.ldL hs 0 rfl rfl ?_; simp only [mBind_ap])
    refine (clone_s hl hn (by omega)).mono ?_
    rintro v h ⟨o, rfl, hs'⟩
    have hs := hs.rebase hs'
    simp only [List.cons_append, List.nil_append] at hs
    (simp only [unL_slice, mBind_ap])
    rw [hf, wrap64 _ (by omega)]
    refine (delete_s hs hi).mono ?_
    rintro v h ⟨o2, rfl, hs⟩
    (simp only [unL_slice]; (refine Sep.st hs 1 rfl rfl rfl fun h hs => ?_; simp only [List.set_cons_zero, List.set_cons_succ] at hs))
    refine ⟨by simp, o2, ?_⟩
    unfold rm
    rw [hf, if_neg (by omega), Int.toNat_natCast]
    have hs : Sep h0 h (aRow P.enc 2 y wait :: aBlk b [.slice x.p x.n x.c, .slice o2.p o2.n o2.c] :: aRow P.enc 2 x hold :: aRow P.enc 2 o2 (wait.eraseIdx i) :: R) := hs.reT 4 [3, 1, 2, 0] rfl (by simp)
    exact hs.drop
def GrantsTo (h0 : Hp) (R : List As) (b : Nat) (g : List P × List P × List Int) : Value → Hp → Prop := fun v h' => ∃ x y o : Sl, v = .slice o.p o.n o.c ∧ Sep h0 h' (aBlk b [.slice x.p x.n x.c, .slice y.p y.n y.c] :: aRow P.enc 2 x g.1 :: aRow P.enc 2 y g.2.1 :: aRow encZ 1 o g.2.2 :: R)
theorem grant2 : ∀ (wait hold : List P) (outs : List Int) (h : Hp) (x y out : Sl), hold.length + wait.length ≤ 1000 → outs.length + wait.length ≤ 1000 →
    Sep h0 h (aBlk b [.slice x.p x.n x.c, .slice y.p y.n y.c] :: aRow P.enc 2 x hold :: aRow P.enc 2 y wait :: aRow encZ 1 out outs :: R) →
    K_rwlock_Lock_grant_2 (some ⟨b, 0, none⟩) out h (GrantsTo h0 R b (grantR hold wait outs))
  | [], hold, outs, h, x, y, out, hn, hn2, hs => by
    have hyn := hs.rowLen 2 rfl
    have hy0 : (y.n : Int) = 0 := by rw [hyn]; rfl
    apply S_rwlock_Lock_grant_2
    unfold B_rwlock_Lock_grant_2
    (simp only [mNil_some, add_mk, Nat.zero_add]; refine Sep.ldL hs 0 rfl rfl ?_; simp only [mBind_ap]; rw [decide_eq_false (by omega), mIf_false]; rw [mRet_ap]; simp only [mIf_false])
    exact ⟨_, _, _, rfl, hs⟩
  | p :: wait, hold, outs, h, x, y, out, hn, hn2, hs => by
    have ih := grant2 wait
    have hyn := hs.rowLen 2 rfl
    have hxn := hs.rowLen 1 rfl
    have hy0 : (y.n : Int) = wait.length + 1 := by rw [hyn]; simp
    simp only [List.length_cons] at hn hn2
    apply S_rwlock_Lock_grant_2
    unfold B_rwlock_Lock_grant_2
    unfold grantR
    (simp only [mNil_some, add_mk, Nat.zero_add]; refine Sep.ldL hs 0 rfl rfl ?_; simp only [mBind_ap]; rw [decide_eq_true (by omega), mIf_true]; refine Sep.ldL hs 0 rfl rfl ?_; (refine Sep.idx hs 2 rfl (by first | omega | (simp only [List.length_set, List.length_map, List.length_replicate, List.length_append, List.length_cons, List.length_nil, List.length_reverse, List.length_range]; omega) | (simp; omega)) (by first | omega | (simp only [List.length_set, List.length_map, List.length_replicate, List.length_append, List.length_cons, List.length_nil, List.length_reverse, List.length_range]; omega) | (simp; omega)) fun aa haa => ?_; try simp only [Int.toNat_natCast] at haa); refine Sep.rldI0 hs 2 rfl (fun _ => rfl) haa (List.getElem?_eq_getElem (by first | omega | (simp only [List.length_set, List.length_map, List.length_replicate, List.length_append, List.length_cons, List.length_nil, List.length_reverse, List.length_range]; omega) | (simp; omega))) rfl ?_; refine Sep.rldB hs 2 rfl (fun _ => rfl) haa (List.getElem?_eq_getElem (by first | omega | (simp only [List.length_set, List.length_map, List.length_replicate, List.length_append, List.length_cons, List.length_nil, List.length_reverse, List.length_range]; omega) | (simp; omega))) rfl ?_; simp only [mBind_ap])
    refine (may_s (p := p) hs).mono ?_
    rintro v h ⟨rfl, hs⟩
    (simp only [unB_bool]; rw [mRet_ap])
    refine mIf_intro (fun hc => ?_) (fun hc => ?_)
    · rw [if_pos hc]
      have fin : ∀ (h : Hp) (x : Sl), Sep h0 h (aBlk b [.slice x.p x.n x.c, .slice y.p y.n y.c] :: aRow P.enc 2 x (hold ++ [p]) :: aRow P.enc 2 y (p :: wait) :: aRow encZ 1 out outs :: R) →
          K_rwlock_Lock_grant_4 (some ⟨b, 0, none⟩) out h (GrantsTo h0 R b (grantR (hold ++ [p]) wait (outs ++ [p.who]))) := by
        intro h x hs
        apply S_rwlock_Lock_grant_4
        unfold B_rwlock_Lock_grant_4
        (simp only [mNil_some, add_mk, Nat.zero_add]; refine Sep.ldL hs 0 rfl rfl ?_; (refine Sep.idx hs 2 rfl (by first | omega | (simp only [List.length_set, List.length_map, List.length_replicate, List.length_append, List.length_cons, List.length_nil, List.length_reverse, List.length_range]; omega) | (simp; omega)) (by first | omega | (simp only [List.length_set, List.length_map, List.length_replicate, List.length_append, List.length_cons, List.length_nil, List.length_reverse, List.length_range]; omega) | (simp; omega)) fun aa_1 haa_1 => ?_; try simp only [Int.toNat_natCast] at haa_1); refine Sep.rldI0 hs 2 rfl (fun _ => rfl) haa_1 (List.getElem?_eq_getElem (by first | omega | (simp only [List.length_set, List.length_map, List.length_replicate, List.length_append, List.length_cons, List.length_nil, List.length_reverse, List.length_range]; omega) | (simp; omega))) rfl ?_; (refine Sep.new hs fun nb h hs => ?_; try simp only [List.toList_toArray] at hs); (refine Sep.app1 hs 4 0 _ rfl rfl (fun _ => rfl) (by simp [Value.oneCell']) rfl (by omega) (by first | omega | (simp only [List.length_set, List.length_map, List.length_replicate, List.length_append, List.length_cons, List.length_nil, List.length_reverse, List.length_range]; omega) | (simp; omega)) fun sl h hn_sl hs => ?_; simp only [List.set_cons_zero, List.set_cons_succ] at hs); refine Sep.ldL hs 1 rfl rfl ?_)
        refine hs.drop.slc 2 (lo := 1) (hi := (y.n : Int)) (mx := (y.c : Int)) rfl (fun _ => rfl) (by omega) (by omega) (by rw [hy0]; simp) rfl fun s' hn' hs => ?_
        have e : (List.take (y.n : Int).toNat (p :: wait)).drop (1 : Int).toNat = wait := by
          rw [List.take_of_length_le (by simp; omega)]
          rfl
        rw [e] at hs
        simp only [List.set_cons_succ, List.set_cons_zero] at hs
        ((refine Sep.st hs 0 rfl rfl rfl fun h hs => ?_; simp only [List.set_cons_zero, List.set_cons_succ] at hs))
        exact ih _ _ _ _ _ _ (by simp; omega) (by simp; omega) hs
      repeat' (first | with_reducible refine mAnd_intro ?_ ?_ | (first | (((with_reducible refine gd_mLdL ?_); refine Sep.ldL hs 0 rfl rfl ?_)) | (((with_reducible refine gd_mIdx ?_); (refine Sep.idx hs 2 rfl (by first | omega | (simp only [List.length_set, List.length_map, List.length_replicate, List.length_append, List.length_cons, List.length_nil, List.length_reverse, List.length_range]; omega) | (simp; omega)) (by first | omega | (simp only [List.length_set, List.length_map, List.length_replicate, List.length_append, List.length_cons, List.length_nil, List.length_reverse, List.length_range]; omega) | (simp; omega)) fun aa_1 haa_1 => ?_; try simp only [Int.toNat_natCast] at haa_1))) | (((with_reducible refine gd_mLdI ?_); refine Sep.rldI0 hs 2 rfl (fun _ => rfl) (by assumption) (List.getElem?_eq_getElem (by first | omega | (simp only [List.length_set, List.length_map, List.length_replicate, List.length_append, List.length_cons, List.length_nil, List.length_reverse, List.length_range]; omega) | (simp; omega))) rfl ?_)) | (((with_reducible refine gd_mLdB ?_); refine Sep.rldB hs 2 rfl (fun _ => rfl) (by assumption) (List.getElem?_eq_getElem (by first | omega | (simp only [List.length_set, List.length_map, List.length_replicate, List.length_append, List.length_cons, List.length_nil, List.length_reverse, List.length_range]; omega) | (simp; omega))) rfl ?_)) | (((with_reducible refine gd_mNew ?_); (refine Sep.new hs fun nb h hs => ?_; try simp only [List.toList_toArray] at hs))) | (((with_reducible refine gd_mSt ?_); (refine Sep.st hs 1 rfl rfl rfl fun h hs => ?_; simp only [List.set_cons_zero, List.set_cons_succ] at hs))) | (((with_reducible refine gd_mLdL ?_); refine Sep.ldL hs 1 rfl rfl ?_))) | (refine hs.app1 2 0 p rfl rfl (fun _ => rfl) (P.one p) rfl (by omega) (by omega) fun s' h hn' hs => ?_; simp only [List.set_cons_succ, List.set_cons_zero] at hs))
      all_goals exact fin _ _ hs.drop
    · rw [if_neg (by simpa using hc)]
      exact ⟨_, _, _, rfl, hs⟩
theorem grant_s (hs : Sep h0 h (aBlk b [.slice x.p x.n x.c, .slice y.p y.n y.c] :: aRow P.enc 2 x hold :: aRow P.enc 2 y wait :: R)) (hn : hold.length + wait.length ≤ 1000) :
    N_rwlock_Lock_grant (some ⟨b, 0, none⟩) h (GrantsTo h0 R b (grantR hold wait [])) := by
  have hs := hs.nilRow' encZ 1 ⟨none, 0, 0⟩ rfl rfl
  apply S_rwlock_Lock_grant
  unfold B_rwlock_Lock_grant
  exact grant2 wait hold [] h x y _ hn (by simp; omega) (hs.reT 4 [1, 2, 3, 0] rfl (by simp))
theorem grantR_len : ∀ (wait hold : List P) (outs : List Int), (grantR hold wait outs).1.length + (grantR hold wait outs).2.1.length = hold.length + wait.length ∧ (grantR hold wait outs).1.length = hold.length + ((grantR hold wait outs).2.2.length - outs.length) ∧ outs.length ≤ (grantR hold wait outs).2.2.length
  | [], hold, outs => by unfold grantR; simp
  | p :: w, hold, outs => by
    unfold grantR
    split
    · have := grantR_len w (hold ++ [p]) (outs ++ [p.who])
      simp only [List.length_append, List.length_cons, List.length_nil] at this ⊢
      omega
    · simp
theorem rm_len (who : Int) (l : List P) : (rm who l).length ≤ l.length := by
  unfold rm
  split
  · omega
  · rw [List.length_eraseIdx]
    split <;> omega
/-- what stands in a lock -/
def Lk (h0 : Hp) (R : List As) (b : Nat) (hold wait : List P) (h : Hp) : Prop := ∃ x y : Sl, Sep h0 h (aBlk b [.slice x.p x.n x.c, .slice y.p y.n y.c] :: aRow P.enc 2 x hold :: aRow P.enc 2 y wait :: R)
theorem GrantsTo.lk {g : List P × List P × List Int} {v : Value} (hg : GrantsTo h0 R b g v h) : ∃ o : Sl, v = .slice o.p o.n o.c ∧ ∃ x y : Sl, Sep h0 h (aRow encZ 1 o g.2.2 :: aBlk b [.slice x.p x.n x.c, .slice y.p y.n y.c] :: aRow P.enc 2 x g.1 :: aRow P.enc 2 y g.2.1 :: R) := by
  obtain ⟨x, y, o, rfl, hs⟩ := hg
  exact ⟨o, rfl, x, y, hs.reT 4 [3, 0, 1, 2] rfl (by simp)⟩
theorem New_s (hs : Sep h0 h R) : N_rwlock_New h (fun v h' => ∃ b, v = .pointer (some ⟨b, 0, none⟩) ∧ Lk h0 R b [] [] h') := by
  have hs := (hs.nilRow' P.enc 2 ⟨none, 0, 0⟩ rfl rfl).nilRow' P.enc 2 ⟨none, 0, 0⟩ rfl rfl
  apply S_rwlock_New
  unfold B_rwlock_New
  ((refine Sep.new hs fun nb h hs => ?_; try simp only [List.toList_toArray] at hs))
  exact ⟨_, rfl, ⟨none, 0, 0⟩, ⟨none, 0, 0⟩, hs⟩
def askR (hold wait : List P) (p : P) : (Bool × Int) × (List P × List P) :=
  if fnd p.who hold 0 ≥ 0 ∨ fnd p.who wait 0 ≥ 0 then ((false, 10), (hold, wait)) else if hold.length + wait.length ≥ 256 then ((false, 7), (hold, wait)) else
  ((decide (fnd p.who (grantR hold (wait ++ [p]) []).1 0 ≥ 0), 0), ((grantR hold (wait ++ [p]) []).1, (grantR hold (wait ++ [p]) []).2.1))
theorem Ask_s (hs : Lk h0 R b hold wait h) (hn : hold.length + wait.length ≤ 256) (p : P) :
    N_rwlock_Lock_Ask (some ⟨b, 0, none⟩) p.who p.w h (fun v h' => v = .tuple #[.bool (askR hold wait p).1.1, .int .i64 (askR hold wait p).1.2] ∧ Lk h0 R b (askR hold wait p).2.1 (askR hold wait p).2.2 h') := by
  obtain ⟨x, y, hs⟩ := hs
  have hxn := hs.rowLen 1 rfl
  have hyn := hs.rowLen 2 rfl
  have hl := hs.rowE 1 rfl (fun _ => rfl) (by omega)
  apply S_rwlock_Lock_Ask
  unfold B_rwlock_Lock_Ask
  (simp only [Option.isNone_some, mNil_some, add_mk, Nat.zero_add, mIf_false]; refine Sep.ldL hs 0 rfl rfl ?_; simp only [mBind_ap])
  refine (find_s hl (by omega)).mono ?_
  rintro v h ⟨rfl, hs'⟩
  have hs := hs.rebase hs'
  simp only [List.nil_append] at hs
  have hl := hs.rowE 2 rfl (fun _ => rfl) (by omega)
  (simp only [unI_int, mBind_ap])
  unfold askR
  refine mIf_dec (fun hc => ?_) (fun hc => ?_)
  · rw [if_pos (.inl hc)]
    (rw [mRet_ap]; simp only [mIf_true])
    exact ⟨rfl, _, _, hs⟩
  · (refine Sep.ldL hs 0 rfl rfl ?_; simp only [mBind_ap])
    refine (find_s hl (by omega)).mono ?_
    rintro v h ⟨rfl, hs'⟩
    have hs := hs.rebase hs'
    simp only [List.nil_append] at hs
    (simp only [unI_int]; rw [mRet_ap])
    refine mIf_dec (fun hc2 => ?_) (fun hc2 => ?_)
    · rw [if_pos (.inr hc2)]
      exact ⟨rfl, _, _, hs⟩
    · rw [if_neg (by omega)]
      (refine Sep.ldL hs 0 rfl rfl ?_; refine Sep.ldL hs 0 rfl rfl ?_)
      rw [wrap64 _ (by omega)]
      refine mIf_dec (fun hc3 => ?_) (fun hc3 => ?_)
      · rw [if_pos (by omega)]
        exact ⟨rfl, _, _, hs⟩
      · rw [if_neg (by omega)]
        (refine Sep.ldL hs 0 rfl rfl ?_; (refine Sep.new hs fun nb h hs => ?_; try simp only [List.toList_toArray] at hs); simp only)
        refine hs.app1 3 0 p rfl rfl (fun _ => rfl) (P.one p) rfl (by omega) (by omega) fun s' h hn' hs => ?_
        simp only [List.set_cons_succ, List.set_cons_zero] at hs
        ((refine Sep.st hs 1 rfl rfl rfl fun h hs => ?_; simp only [List.set_cons_zero, List.set_cons_succ] at hs); simp only [mBind_ap])
        have hs := hs.drop
        refine (grant_s hs (by simp; omega)).mono ?_
        intro v h hg
        obtain ⟨o, rfl, x, y, hs⟩ := hg.lk
        have hs := hs.drop
        have hl := hs.rowE 1 rfl (fun _ => rfl) (by omega)
        have hlen := grantR_len (wait ++ [p]) hold []
        simp only [List.length_append, List.length_cons, List.length_nil] at hlen
        (simp only [unL_slice]; refine Sep.ldL hs 0 rfl rfl ?_; simp only [mBind_ap])
        refine (find_s hl (by omega)).mono ?_
        rintro v h ⟨rfl, hs'⟩
        have hs := hs.rebase hs'
        simp only [List.nil_append] at hs
        (simp only [unI_int])
        exact ⟨rfl, _, _, hs⟩
def leaveR (hold wait : List P) (who : Int) : Option (List P × List P × List Int) :=
  if ¬ fnd who hold 0 < 0 then some (grantR (rm who hold) wait []) else if ¬ fnd who wait 0 < 0 then some (grantR hold (rm who wait) []) else none
theorem Leave_s (hs : Lk h0 R b hold wait h) (hn : hold.length + wait.length ≤ 256) (who : Int) :
    N_rwlock_Lock_Leave (some ⟨b, 0, none⟩) who h (fun v h' => match leaveR hold wait who with
      | none => v = .tuple #[.slice none 0 0, .int .i64 6] ∧ Lk h0 R b hold wait h'
      | some g => ∃ o : Sl, v = .tuple #[.slice o.p o.n o.c, .int .i64 0] ∧ ∃ x y : Sl, Sep h0 h' (aRow encZ 1 o g.2.2 :: aBlk b [.slice x.p x.n x.c, .slice y.p y.n y.c] :: aRow P.enc 2 x g.1 :: aRow P.enc 2 y g.2.1 :: R)) := by
  obtain ⟨x, y, hs⟩ := hs
  apply S_rwlock_Lock_Leave
  unfold B_rwlock_Lock_Leave
  (simp only [Option.isNone_some, mNil_some, add_mk, Nat.zero_add, mIf_false, mBind_ap])
  refine (dropH_s hs (by omega)).mono ?_
  rintro v h ⟨rfl, x, hs⟩
  (simp only [unB_bool, mBind_ap])
  unfold leaveR
  have h1 := rm_len who hold
  have h2 := rm_len who wait
  by_cases hc : fnd who hold 0 < 0
  · rw [decide_eq_true hc, if_neg (by simpa using hc)]
    rw [show rm who hold = hold by unfold rm; rw [if_pos hc]] at hs
    refine mIf_pos rfl ?_
    (simp only [mBind_ap])
    refine (dropW_s hs (by omega)).mono ?_
    rintro v h ⟨rfl, y, hs⟩
    (simp only [unB_bool]; rw [mRet_ap])
    by_cases hc2 : fnd who wait 0 < 0
    · rw [decide_eq_true hc2, if_neg (by simpa using hc2)]
      rw [show rm who wait = wait by unfold rm; rw [if_pos hc2]] at hs
      refine mIf_pos rfl ?_
      exact ⟨rfl, _, _, hs⟩
    · rw [decide_eq_false hc2, if_pos hc2]
      refine mIf_neg rfl ?_
      (simp only [mBind_ap])
      refine (grant_s hs (by omega)).mono ?_
      intro v h hg
      obtain ⟨o, rfl, x, y, hs⟩ := hg.lk
      (simp only [unL_slice])
      exact ⟨o, rfl, x, y, hs⟩
  · rw [decide_eq_false hc, if_pos hc]
    refine mIf_neg rfl ?_
    (rw [mRet_ap]; simp only [mIf_false, mBind_ap])
    refine (grant_s hs (by omega)).mono ?_
    intro v h hg
    obtain ⟨o, rfl, x, y, hs⟩ := hg.lk
    (simp only [unL_slice])
    exact ⟨o, rfl, x, y, hs⟩
theorem Holds_s (hs : Lk h0 R b hold wait h) (hn : hold.length + wait.length ≤ 256) (who : Int) :
    N_rwlock_Lock_Holds (some ⟨b, 0, none⟩) who h (fun v h' => v = .tuple #[.bool (decide (fnd who hold 0 ≥ 0)), .bool (decide (fnd who hold 0 ≥ 0) && (hold[(fnd who hold 0).toNat]?.map (·.w)).getD false)] ∧ Lk h0 R b hold wait h') := by
  obtain ⟨x, y, hs⟩ := hs
  have hxn := hs.rowLen 1 rfl
  have hl := hs.rowE 1 rfl (fun _ => rfl) (by omega)
  apply S_rwlock_Lock_Holds
  unfold B_rwlock_Lock_Holds
  (simp only [Option.isNone_some, mNil_some, mIf_false]; refine Sep.ldL hs 0 rfl rfl ?_; simp only [mBind_ap])
  refine (find_s hl (by omega)).mono ?_
  rintro v h ⟨rfl, hs'⟩
  have hs := hs.rebase hs'
  simp only [List.nil_append] at hs
  (simp only [unI_int, mBind_ap])
  refine mIf_dec (fun hc => ?_) (fun hc => ?_)
  · obtain ⟨i, hi, hf⟩ : ∃ i, i < hold.length ∧ fnd who hold 0 = (i : Nat) := by
      rcases fnd_spec who hold 0 with ⟨h1, _⟩ | ⟨i, hi, h1, _⟩
      · omega
      · exact ⟨i, hi, by omega⟩
    rw [hf]
    (refine Sep.ldL hs 0 rfl rfl ?_; (refine Sep.idx hs 1 rfl (by first | omega | (simp only [List.length_set, List.length_map, List.length_replicate, List.length_append, List.length_cons, List.length_nil, List.length_reverse, List.length_range]; omega) | (simp; omega)) (by first | omega | (simp only [List.length_set, List.length_map, List.length_replicate, List.length_append, List.length_cons, List.length_nil, List.length_reverse, List.length_range]; omega) | (simp; omega)) fun aa haa => ?_; try simp only [Int.toNat_natCast] at haa); refine Sep.rldB hs 1 rfl (fun _ => rfl) haa (List.getElem?_eq_getElem (by first | omega | (simp only [List.length_set, List.length_map, List.length_replicate, List.length_append, List.length_cons, List.length_nil, List.length_reverse, List.length_range]; omega) | (simp; omega))) rfl ?_; rw [mRet_ap])
    refine ⟨?_, _, _, hs⟩
    rw [Int.toNat_natCast, List.getElem?_eq_getElem hi]
    simp
  · rw [decide_eq_false hc]
    exact ⟨rfl, _, _, hs⟩
theorem Holders_s (hs : Lk h0 R b hold wait h) (hn : hold.length + wait.length ≤ 256) :
    N_rwlock_Lock_Holders (some ⟨b, 0, none⟩) h (fun v h' => ∃ o : Sl, v = .slice o.p o.n o.c ∧ Lk h0 (aRow encZ 1 o (hold.map (·.who)) :: R) b hold wait h') := by
  obtain ⟨x, y, hs⟩ := hs
  have hl := hs.rowE 1 rfl (fun _ => rfl) (by omega)
  apply S_rwlock_Lock_Holders
  unfold B_rwlock_Lock_Holders
  (simp only [Option.isNone_some, mNil_some, mIf_false]; refine Sep.ldL hs 0 rfl rfl ?_; simp only [mBind_ap])
  refine (names_s hl (by omega)).mono ?_
  rintro v h ⟨o, rfl, hs'⟩
  have hs := hs.rebase hs'
  simp only [List.cons_append, List.nil_append] at hs
  (simp only [unL_slice])
  exact ⟨o, rfl, x, y, hs.reT 4 [1, 2, 3, 0] rfl (by simp)⟩
theorem Waiting_s (hs : Lk h0 R b hold wait h) (hn : hold.length + wait.length ≤ 256) :
    N_rwlock_Lock_Waiting (some ⟨b, 0, none⟩) h (fun v h' => ∃ o : Sl, v = .slice o.p o.n o.c ∧ Lk h0 (aRow encZ 1 o (wait.map (·.who)) :: R) b hold wait h') := by
  obtain ⟨x, y, hs⟩ := hs
  have hl := hs.rowE 2 rfl (fun _ => rfl) (by omega)
  apply S_rwlock_Lock_Waiting
  unfold B_rwlock_Lock_Waiting
  (simp only [Option.isNone_some, mNil_some, add_mk, Nat.zero_add, mIf_false]; refine Sep.ldL hs 0 rfl rfl ?_; simp only [mBind_ap])
  refine (names_s hl (by omega)).mono ?_
  rintro v h ⟨o, rfl, hs'⟩
  have hs := hs.rebase hs'
  simp only [List.cons_append, List.nil_append] at hs
  (simp only [unL_slice])
  exact ⟨o, rfl, x, y, hs.reT 4 [1, 2, 3, 0] rfl (by simp)⟩
end
end Go.Proofs.Ytbpnpmknamghkaa
