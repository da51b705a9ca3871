/- Aging lines: what each call answers. Conditions: none. -/
import Derived.Test.YtbpnpmknamghkaaAgM
import Derived.Test.YtbpnpmknamghkaaSbW
import Derived.Test.YtbpnpmknamghkaaSbX
namespace Go.Proofs.Ytbpnpmknamghkaa
open Go Go.Sb
set_option linter.unusedSimpArgs false
set_option linter.unusedVariables false
structure G where
  who : Int
  base : Int
  wt : Int
def G.enc (x : G) : List Value := [.int .i64 x.who, .int .i64 x.base, .int .i64 x.wt]
def G.ok (p : G) : Prop := 0 ≤ p.base ∧ p.base ≤ 63 ∧ 0 ≤ p.wt ∧ p.wt ≤ 100000
abbrev encZ : Int → List Value := fun z => [.int .i64 z]
abbrev AFin (h0 : Hp) : Value → Hp → Prop := fun v h' => v = .bool true ∧ Under h0.size h0 h'
theorem G.one (x : G) : ∀ v ∈ x.enc, v.oneCell' = true := by
  intro v hv
  simp only [G.enc, List.mem_cons, List.not_mem_nil, or_false] at hv
  rcases hv with rfl | rfl | rfl <;> rfl
/-- where one stands -/
def fnd (who : Int) : List G → Int → Int
  | [], _ => -1
  | p :: l, k => if p.who = who then k else fnd who l (k + 1)
theorem fnd_spec (who : Int) : ∀ (l : List G) (k : Int), (fnd who l k = -1 ∧ ∀ p ∈ l, p.who ≠ who) ∨ ∃ i, ∃ hi : i < l.length, fnd who l k = k + i ∧ l[i].who = who
  | [], k => .inl ⟨rfl, by simp⟩
  | p :: l, k => by
    unfold fnd
    by_cases hc : p.who = who
    · rw [if_pos hc]
      exact .inr ⟨0, by simp, by simp, hc⟩
    · rw [if_neg hc]
      rcases fnd_spec who l (k + 1) with ⟨h1, h2⟩ | ⟨i, hi, h1, h2⟩
      · exact .inl ⟨h1, by simpa using ⟨hc, h2⟩⟩
      · exact .inr ⟨i + 1, by simpa using hi, by rw [h1]; omega, by simpa using h2⟩
def pri (step : Int) (p : G) : Int := p.base + p.wt / step
def bef (step : Int) (a b : G) : Bool := decide (pri step a > pri step b) || (pri step a == pri step b && decide (a.wt > b.wt))
def bump (p : G) : G := ⟨p.who, p.base, p.wt + 1⟩
theorem pri_b {step : Int} (hst : 1 ≤ step) {p : G} (hp : p.ok) : 0 ≤ p.wt / step ∧ p.wt / step ≤ 100000 ∧ 0 ≤ pri step p ∧ pri step p ≤ 100063 := by
  obtain ⟨h1, h2, h3, h4⟩ := hp
  have a := Int.ediv_nonneg h3 (show 0 ≤ step by omega)
  have b := Int.ediv_le_self (a := p.wt) step h3
  unfold pri
  omega
section
variable {h0 h : Hp} {R : List As} {b : Nat} {x : Sl} {l : List G} {who step : Int}
abbrev aAg (b : Nat) (step : Int) (x : Sl) : As := aBlk b [.int .i64 step, .slice x.p x.n x.c]
theorem find1_s {p : G} (hs : Sep h0 h (aBlk b [.int .i64 who] :: R)) : N_aging_Line_find_1 p.who p.base p.wt (some ⟨b, 0, none⟩) h (fun v h' => v = .bool (p.who == who) ∧ Sep h0 h' (aBlk b [.int .i64 who] :: R)) := by
  apply S_aging_Line_find_1
  unfold B_aging_Line_find_1
  ((refine Sep.new hs fun nb h hs => ?_; try simp only [List.toList_toArray] at hs); refine Sep.ldI hs 0 rfl rfl ?_; simp only [mNil_some]; refine Sep.ldI hs 1 rfl rfl ?_)
  exact ⟨rfl, hs.drop⟩
theorem idx2 {fb : Nat} (hn : l.length ≤ 1000) : ∀ (d k : Nat) (h : Hp), k + d = l.length → Sep h0 h (aBlk fb [.int .i64 who] :: aAg b step x :: aRow G.enc 3 x l :: R) →
    K_slices_IndexFunc_aging_party_aging_party_2 x 81 #[] #[.pointer (some ⟨fb, 0, none⟩)] (x.n : Int) (k : Int) h (fun v h' => v = .int .i64 (fnd who (l.drop k) k) ∧ Sep h0 h' (aBlk fb [.int .i64 who] :: aAg b step x :: aRow G.enc 3 x l :: R))
  | 0, k, h, hk, hs => by
    have hln := hs.rowLen 2 rfl
    apply S_slices_IndexFunc_aging_party_aging_party_2
    unfold B_slices_IndexFunc_aging_party_aging_party_2
    refine mIf_neg (by simp; omega) ?_
    rw [List.drop_of_length_le (by omega)]
    exact ⟨rfl, hs⟩
  | d + 1, k, h, hk, hs => by
    have ih := fun h => idx2 (fb := fb) hn d (k + 1) h (by omega)
    have hln := hs.rowLen 2 rfl
    have hkl : k < l.length := by omega
    apply S_slices_IndexFunc_aging_party_aging_party_2
    unfold B_slices_IndexFunc_aging_party_aging_party_2
    refine mIf_pos (by simp; omega) ?_
    ((refine Sep.idx hs 2 rfl (by first | omega | (simp only [List.length_set, List.length_map, List.length_replicate, List.length_append, List.length_cons, List.length_nil, List.length_reverse, List.length_range]; omega) | (simp; omega)) (by first | omega | (simp only [List.length_set, List.length_map, List.length_replicate, List.length_append, List.length_cons, List.length_nil, List.length_reverse, List.length_range]; omega) | (simp; omega)) fun aa haa => ?_; try simp only [Int.toNat_natCast] at haa); refine Sep.rldI0 hs 2 rfl (fun _ => rfl) haa (List.getElem?_eq_getElem (by first | omega | (simp only [List.length_set, List.length_map, List.length_replicate, List.length_append, List.length_cons, List.length_nil, List.length_reverse, List.length_range]; omega) | (simp; omega))) rfl ?_; refine Sep.rldI hs 2 rfl (fun _ => rfl) haa (List.getElem?_eq_getElem (by first | omega | (simp only [List.length_set, List.length_map, List.length_replicate, List.length_append, List.length_cons, List.length_nil, List.length_reverse, List.length_range]; omega) | (simp; omega))) rfl ?_; refine Sep.rldI hs 2 rfl (fun _ => rfl) haa (List.getElem?_eq_getElem (by first | omega | (simp only [List.length_set, List.length_map, List.length_replicate, List.length_append, List.length_cons, List.length_nil, List.length_reverse, List.length_range]; omega) | (simp; omega))) rfl ?_; simp only [mBind_ap])
    refine (find1_s (p := l[k]) hs).mono ?_
    rintro v h ⟨rfl, hs⟩
    (simp only [unB_bool])
    rw [List.drop_eq_getElem_cons hkl]
    unfold fnd
    refine mIf_intro (fun hc => ?_) (fun hc => ?_)
    · rw [if_pos (by simpa using hc)]
      exact ⟨rfl, hs⟩
    · rw [if_neg (by simpa using hc)]
      rw [wrap64 _ (by omega)]
      exact ih h hs
theorem find_s (hs : Sep h0 h (aAg b step x :: aRow G.enc 3 x l :: R)) (hn : l.length ≤ 1000) (who : Int) : N_aging_Line_find (some ⟨b, 0, none⟩) who h (fun v h' => v = .int .i64 (fnd who l 0) ∧ Sep h0 h' (aAg b step x :: aRow G.enc 3 x l :: R)) := by
  apply S_aging_Line_find
  unfold B_aging_Line_find
  ((refine Sep.new hs fun nb h hs => ?_; try simp only [List.toList_toArray] at hs); simp only [Option.isNone_some, mNil_some, add_mk, Nat.zero_add, mIf_false]; refine Sep.ldL hs 1 rfl rfl ?_; simp only [mBind_ap])
  apply S_slices_IndexFunc_aging_party_aging_party
  unfold B_slices_IndexFunc_aging_party_aging_party
  refine (idx2 hn l.length 0 _ (by omega) hs).mono ?_
  rintro v h' ⟨rfl, hs⟩
  simp only [unI_int]
  exact ⟨rfl, hs.drop⟩
theorem pri_s {p : G} (hs : Sep h0 h (aAg b step x :: R)) (hst : 1 ≤ step) (hp : p.ok) : N_aging_Line_priority (some ⟨b, 0, none⟩) p.who p.base p.wt h (fun v h' => v = .int .i64 (pri step p) ∧ Sep h0 h' (aAg b step x :: R)) := by
  have hb := pri_b hst hp
  obtain ⟨h1, h2, h3, h4⟩ := hp
  apply S_aging_Line_priority
  unfold B_aging_Line_priority
  ((refine Sep.new hs fun nb h hs => ?_; try simp only [List.toList_toArray] at hs); refine Sep.ldI hs 0 rfl rfl ?_; refine Sep.ldI hs 0 rfl rfl ?_; simp only [mNil_some]; refine Sep.ldI hs 1 rfl rfl ?_)
  refine ⟨by omega, ?_⟩
  rw [Int.tdiv_eq_ediv_of_nonneg h3, wrap64 (p.wt / step) (by omega), wrap64 (p.base + p.wt / step) (by omega)]
  exact ⟨rfl, hs.drop⟩
theorem bef2 {a c : G} {ab cb : Nat} {u v : Int} (hs : Sep h0 h (aBlk cb c.enc :: aBlk ab a.enc :: R)) : K_aging_Line_before_2 ⟨ab, 0, none⟩ ⟨cb, 0, none⟩ u v h (fun w h' => w = .bool (decide (u > v) || (u == v && decide (a.wt > c.wt))) ∧ Sep h0 h' R) := by
  apply S_aging_Line_before_2
  unfold B_aging_Line_before_2
  rw [mBind_ap]
  refine mIf_intro (fun hc => ?_) (fun hc => ?_)
  · rw [hc]
    exact ⟨rfl, hs.drop.drop⟩
  · rw [hc, mBind_ap]
    refine mIf_intro (fun hc2 => ?_) (fun hc2 => ?_)
    · rw [hc2]
      (refine Sep.ldI hs 1 rfl rfl ?_; refine Sep.ldI hs 0 rfl rfl ?_; rw [mRet_ap]; rw [mRet_ap])
      exact ⟨rfl, hs.drop.drop⟩
    · rw [hc2]
      exact ⟨rfl, hs.drop.drop⟩
theorem bef_s {a c : G} (hs : Sep h0 h (aAg b step x :: R)) (hst : 1 ≤ step) (ha : a.ok) (hc : c.ok) : N_aging_Line_before (some ⟨b, 0, none⟩) a.who a.base a.wt c.who c.base c.wt h (fun v h' => v = .bool (bef step a c) ∧ Sep h0 h' (aAg b step x :: R)) := by
  apply S_aging_Line_before
  unfold B_aging_Line_before
  have pa : ∀ h ab cb, Sep h0 h (aBlk cb c.enc :: aBlk ab a.enc :: aAg b step x :: R) → N_aging_Line_priority (some ⟨b, 0, none⟩) a.who a.base a.wt h (fun v h' => v = .int .i64 (pri step a) ∧ Sep h0 h' (aBlk cb c.enc :: aBlk ab a.enc :: aAg b step x :: R)) := by
    intro h ab cb hs
    refine (pri_s (hs.reT 3 [2, 0, 1] rfl (by simp)) hst ha).mono ?_
    rintro v h ⟨rfl, hs⟩
    exact ⟨rfl, hs.reT 3 [1, 2, 0] rfl (by simp)⟩
  have pc : ∀ h ab cb, Sep h0 h (aBlk cb c.enc :: aBlk ab a.enc :: aAg b step x :: R) → N_aging_Line_priority (some ⟨b, 0, none⟩) c.who c.base c.wt h (fun v h' => v = .int .i64 (pri step c) ∧ Sep h0 h' (aBlk cb c.enc :: aBlk ab a.enc :: aAg b step x :: R)) := by
    intro h ab cb hs
    refine (pri_s (hs.reT 3 [2, 0, 1] rfl (by simp)) hst hc).mono ?_
    rintro v h ⟨rfl, hs⟩
    exact ⟨rfl, hs.reT 3 [1, 2, 0] rfl (by simp)⟩
  have fin : ∀ h ab cb, Sep h0 h (aBlk cb c.enc :: aBlk ab a.enc :: aAg b step x :: R) → K_aging_Line_before_2 ⟨ab, 0, none⟩ ⟨cb, 0, none⟩ (pri step a) (pri step c) h (fun v h' => v = .bool (bef step a c) ∧ Sep h0 h' (aAg b step x :: R)) := fun h ab cb hs => bef2 hs
  ((refine Sep.new hs fun nb h hs => ?_; try simp only [List.toList_toArray] at hs); (refine Sep.new hs fun nb_1 h hs => ?_; try simp only [List.toList_toArray] at hs); simp only [add_mk, Nat.zero_add])
  repeat' (first | with_reducible refine mAnd_intro ?_ ?_ | (first | (((with_reducible refine gd_mLdI ?_); refine Sep.ldI hs 1 rfl rfl ?_)) | ((simp only [mBind_ap])) | ((simp only [unI_int])) | (((with_reducible refine gd_mLdI ?_); refine Sep.ldI hs 0 rfl rfl ?_)) | ((simp only [unI_int, mBind_ap]))) | (refine (pa _ _ _ hs).mono ?_; rintro v h ⟨rfl, hs⟩) | (refine (pc _ _ _ hs).mono ?_; rintro v h ⟨rfl, hs⟩))
  all_goals exact fin _ _ _ hs
abbrev gd (l : List G) (i : Nat) : G := l.getD i ⟨0, 0, 0⟩
theorem gd_at {l : List G} {i : Nat} (hi : i < l.length) : gd l i = l[i] := by
  unfold gd; rw [List.getD_eq_getElem?_getD, List.getElem?_eq_getElem hi]; rfl
def bst (step : Int) (l : List G) : Nat → Nat → Nat → Nat
  | 0, _, best => best
  | d + 1, k, best => bst step l d (k + 1) (if bef step (gd l k) (gd l best) then k else best)
theorem bst_lt {step : Int} {l : List G} : ∀ (d k best : Nat), k + d = l.length → best < l.length → bst step l d k best < l.length
  | 0, k, best, _, hb => hb
  | d + 1, k, best, hk, hb => by
    unfold bst
    refine bst_lt d (k + 1) _ (by omega) ?_
    split <;> omega
theorem delete_s {s : Sl} (hs : Sep h0 h (aRow G.enc 3 s l :: R)) {i : Nat} (hi : i < l.length) : N_slices_Delete_aging_party_aging_party s i ((i : Int) + 1) h (fun v h' => ∃ o : Sl, v = .slice o.p o.n o.c ∧ Sep h0 h' (aRow G.enc 3 o (l.eraseIdx i) :: R)) := by
  apply S_slices_Delete_aging_party_aging_party
  unfold B_slices_Delete_aging_party_aging_party
  refine hs.delete 0 rfl (fun _ => rfl) hi ⟨0, 0, 0⟩ rfl G.one fun s' h' _ hs => ?_
  exact ⟨s', rfl, hs⟩
/-- what stands in a line -/
def Ln (h0 : Hp) (R : List As) (b : Nat) (step : Int) (l : List G) (h : Hp) : Prop := ∃ x : Sl, Sep h0 h (aAg b step x :: aRow G.enc 3 x l :: R)
theorem drop_s (hs : Sep h0 h (aAg b step x :: aRow G.enc 3 x l :: R)) (hn : l.length ≤ 1000) {i : Nat} (hi : i < l.length) : N_aging_Line_drop (some ⟨b, 0, none⟩) (i : Int) h (fun v h' => v = .agg #[.int .i64 l[i].who, .int .i64 l[i].base, .int .i64 l[i].wt] ∧ Ln h0 R b step (l.eraseIdx i) h') := by
  have hxn := hs.rowLen 1 rfl
  apply S_aging_Line_drop
  unfold B_aging_Line_drop
  ((refine Sep.new hs fun nb h hs => ?_; try simp only [List.toList_toArray] at hs); simp only [add_mk, Nat.zero_add, mNil_some]; refine Sep.ldL hs 1 rfl rfl ?_; (refine Sep.idx hs 2 rfl (by first | omega | (simp only [List.length_set, List.length_map, List.length_replicate, List.length_append, List.length_cons, List.length_nil, List.length_reverse, List.length_range]; omega) | (simp; omega)) (by first | omega | (simp only [List.length_set, List.length_map, List.length_replicate, List.length_append, List.length_cons, List.length_nil, List.length_reverse, List.length_range]; omega) | (simp; omega)) fun aa haa => ?_; try simp only [Int.toNat_natCast] at haa); refine Sep.rldI0 hs 2 rfl (fun _ => rfl) haa (List.getElem?_eq_getElem (by first | omega | (simp only [List.length_set, List.length_map, List.length_replicate, List.length_append, List.length_cons, List.length_nil, List.length_reverse, List.length_range]; omega) | (simp; omega))) rfl ?_; refine Sep.rldI hs 2 rfl (fun _ => rfl) haa (List.getElem?_eq_getElem (by first | omega | (simp only [List.length_set, List.length_map, List.length_replicate, List.length_append, List.length_cons, List.length_nil, List.length_reverse, List.length_range]; omega) | (simp; omega))) rfl ?_; refine Sep.rldI hs 2 rfl (fun _ => rfl) haa (List.getElem?_eq_getElem (by first | omega | (simp only [List.length_set, List.length_map, List.length_replicate, List.length_append, List.length_cons, List.length_nil, List.length_reverse, List.length_range]; omega) | (simp; omega))) rfl ?_; (refine Sep.new hs fun nb_1 h hs => ?_; try simp only [List.toList_toArray] at hs); (refine Sep.st hs 0 rfl rfl rfl fun h hs => ?_; simp only [List.set_cons_zero, List.set_cons_succ] at hs); (refine Sep.st hs 0 rfl rfl rfl fun h hs => ?_; simp only [List.set_cons_zero, List.set_cons_succ] at hs); (refine Sep.st hs 0 rfl rfl rfl fun h hs => ?_; simp only [List.set_cons_zero, List.set_cons_succ] at hs); refine Sep.ldL hs 2 rfl rfl ?_; simp only [add_mk, Nat.zero_add, mBind_ap])
  rw [wrap64 _ (by omega)]
  have hs : Sep h0 h (aRow G.enc 3 x l :: aBlk nb_1 (G.enc l[i]) :: aBlk nb [.int .i64 0, .int .i64 0, .int .i64 0] :: aAg b step x :: R) := hs.reT 4 [3, 0, 1, 2] rfl (by simp)
  refine (delete_s hs hi).mono ?_
  rintro v h ⟨o, rfl, hs⟩
  generalize l[i] = p at hs ⊢
  (simp only [unL_slice]; (refine Sep.st hs 3 rfl rfl rfl fun h hs => ?_; simp only [List.set_cons_zero, List.set_cons_succ] at hs); refine Sep.ldI hs 1 rfl rfl ?_; refine Sep.ldI hs 1 rfl rfl ?_; refine Sep.ldI hs 1 rfl rfl ?_; (refine Sep.st hs 2 rfl rfl rfl fun h hs => ?_; simp only [List.set_cons_zero, List.set_cons_succ] at hs); (refine Sep.st hs 2 rfl rfl rfl fun h hs => ?_; simp only [List.set_cons_zero, List.set_cons_succ] at hs); (refine Sep.st hs 2 rfl rfl rfl fun h hs => ?_; simp only [List.set_cons_zero, List.set_cons_succ] at hs); refine Sep.ldI hs 2 rfl rfl ?_; refine Sep.ldI hs 2 rfl rfl ?_; refine Sep.ldI hs 2 rfl rfl ?_)
  have hs : Sep h0 h (aBlk nb_1 p.enc :: aBlk nb p.enc :: aAg b step o :: aRow G.enc 3 o (l.eraseIdx i) :: R) := hs.reT 4 [1, 2, 3, 0] rfl (by simp)
  exact ⟨rfl, o, hs.drop.drop⟩
theorem turn12 {pb : Nat} {p : G} (hn : l.length ≤ 1000) (hok : ∀ q ∈ l, 0 ≤ q.wt ∧ q.wt ≤ 100000) : ∀ (d k : Nat) (h : Hp), k + d = l.length → Sep h0 h (aBlk pb p.enc :: aAg b step x :: aRow G.enc 3 x ((l.take k).map bump ++ l.drop k) :: R) →
    K_aging_Line_Turn_12 (some ⟨b, 0, none⟩) ⟨pb, 0, none⟩ (l.length : Int) (k : Int) h (fun v h' => v = .tuple #[.int .i64 p.who, .bool true] ∧ Ln h0 R b step (l.map bump) h')
  | 0, k, h, hk, hs => by
    apply S_aging_Line_Turn_12
    unfold B_aging_Line_Turn_12
    refine mIf_neg (by simp; omega) ?_
    rw [List.take_of_length_le (by omega), List.drop_of_length_le (by omega), List.append_nil] at hs
    (refine Sep.ldI hs 0 rfl rfl ?_)
    exact ⟨rfl, x, hs.drop⟩
  | d + 1, k, h, hk, hs => by
    have ih := fun h => turn12 (pb := pb) (p := p) hn hok d (k + 1) h (by omega)
    have hkl : k < l.length := by omega
    have hq := hok l[k] (List.getElem_mem _)
    have hlen : ((l.take k).map bump ++ l.drop k).length = l.length := by simp; omega
    have hgk : ((l.take k).map bump ++ l.drop k)[k]? = some l[k] := by
      rw [List.getElem?_append_right (by simp; omega)]
      simp [Nat.min_eq_left (Nat.le_of_lt hkl)]
    have hset : ((l.take k).map bump ++ l.drop k).set k (bump l[k]) = (l.take (k + 1)).map bump ++ l.drop (k + 1) := by
      rw [List.set_append_right _ _ (by simp; omega)]
      simp only [List.length_map, List.length_take, Nat.min_eq_left (Nat.le_of_lt hkl), Nat.sub_self]
      rw [List.drop_eq_getElem_cons hkl, List.set_cons_zero, List.take_succ_eq_append_getElem hkl, List.map_append, List.append_assoc]
      rfl
    generalize hcur : (l.take k).map bump ++ l.drop k = cur at *
    obtain ⟨hck, hce⟩ := List.getElem?_eq_some_iff.1 hgk
    apply S_aging_Line_Turn_12
    unfold B_aging_Line_Turn_12
    refine mIf_pos (by simp; omega) ?_
    (simp only [mNil_some, add_mk, Nat.zero_add]; refine Sep.ldL hs 1 rfl rfl ?_; (refine Sep.idx hs 2 rfl (by first | omega | (simp only [List.length_set, List.length_map, List.length_replicate, List.length_append, List.length_cons, List.length_nil, List.length_reverse, List.length_range]; omega) | (simp; omega)) (by first | omega | (simp only [List.length_set, List.length_map, List.length_replicate, List.length_append, List.length_cons, List.length_nil, List.length_reverse, List.length_range]; omega) | (simp; omega)) fun aa haa => ?_; try simp only [Int.toNat_natCast] at haa); refine Sep.rldI hs 2 rfl (fun _ => rfl) haa (List.getElem?_eq_getElem (by first | omega | (simp only [List.length_set, List.length_map, List.length_replicate, List.length_append, List.length_cons, List.length_nil, List.length_reverse, List.length_range]; omega) | (simp; omega))) rfl ?_; (refine Sep.idx hs 2 rfl (by first | omega | (simp only [List.length_set, List.length_map, List.length_replicate, List.length_append, List.length_cons, List.length_nil, List.length_reverse, List.length_range]; omega) | (simp; omega)) (by first | omega | (simp only [List.length_set, List.length_map, List.length_replicate, List.length_append, List.length_cons, List.length_nil, List.length_reverse, List.length_range]; omega) | (simp; omega)) fun aa_1 haa_1 => ?_; try simp only [Int.toNat_natCast] at haa_1))
    rw [wrap64 _ (by rw [hce]; omega), show IntKind.i64.wrap ((k : Int) + 1) = ((k + 1 : Nat) : Int) by rw [wrap64 _ (by omega)]; omega]
    refine hs.rst 2 (bump cur[k]) rfl (fun _ => rfl) haa_1 (List.getElem?_eq_getElem hck) (by decide) rfl rfl fun h hs => ?_
    simp only [List.set_cons_succ, List.set_cons_zero] at hs
    have e : cur.set k (bump cur[k]) = (l.take (k + 1)).map bump ++ l.drop (k + 1) := by rw [hce]; exact hset
    rw [e] at hs
    exact ih h hs
theorem turn5 (hst : 1 ≤ step) (hn : l.length ≤ 1000) (hok : ∀ q ∈ l, q.ok) : ∀ (d k best : Nat) (h : Hp), k + d = l.length → best < l.length → Sep h0 h (aAg b step x :: aRow G.enc 3 x l :: R) →
    K_aging_Line_Turn_5 (some ⟨b, 0, none⟩) (best : Int) x (x.n : Int) (k : Int) h (fun v h' => v = .tuple #[.int .i64 (gd l (bst step l d k best)).who, .bool true] ∧ Ln h0 R b step ((l.eraseIdx (bst step l d k best)).map bump) h')
  | 0, k, best, h, hk, hb, hs => by
    have hxn := hs.rowLen 1 rfl
    apply S_aging_Line_Turn_5
    unfold B_aging_Line_Turn_5
    refine mIf_neg (by simp; omega) ?_
    unfold bst
    rw [mBind_ap]
    refine (drop_s hs hn hb).mono ?_
    rintro v h ⟨rfl, x, hs⟩
    have hxn := hs.rowLen 1 rfl
    (simp only [mNil_some, add_mk, Nat.zero_add, unA_agg, unC_cons, unE_nil, unI_int]; (refine Sep.new hs fun nb h hs => ?_; try simp only [List.toList_toArray] at hs); (refine Sep.st hs 0 rfl rfl rfl fun h hs => ?_; simp only [List.set_cons_zero, List.set_cons_succ] at hs); (refine Sep.st hs 0 rfl rfl rfl fun h hs => ?_; simp only [List.set_cons_zero, List.set_cons_succ] at hs); (refine Sep.st hs 0 rfl rfl rfl fun h hs => ?_; simp only [List.set_cons_zero, List.set_cons_succ] at hs); refine Sep.ldL hs 1 rfl rfl ?_)
    rw [hxn]
    refine (turn12 (p := l[best]) (l := l.eraseIdx best) (by rw [List.length_eraseIdx_of_lt hb]; omega) (fun q hq => (hok q (List.mem_of_mem_eraseIdx hq)).2.2) _ 0 h (Nat.zero_add _) (by simpa [G.enc] using hs)).mono ?_
    rintro v h ⟨rfl, hs⟩
    exact ⟨by rw [gd_at hb], hs⟩
  | d + 1, k, best, h, hk, hb, hs => by
    have ih := fun best h => turn5 hst hn hok d (k + 1) best h (by omega)
    have hxn := hs.rowLen 1 rfl
    have hkl : k < l.length := by omega
    unfold bst
    have hbf : ∀ h nb, Sep h0 h (aBlk nb (G.enc l[k]) :: aAg b step x :: aRow G.enc 3 x l :: R) → N_aging_Line_before (some ⟨b, 0, none⟩) l[k].who l[k].base l[k].wt l[best].who l[best].base l[best].wt h (fun v h' => v = .bool (bef step (gd l k) (gd l best)) ∧ Sep h0 h' (aBlk nb (G.enc l[k]) :: aAg b step x :: aRow G.enc 3 x l :: R)) := by
      intro h nb hs
      refine (bef_s hs.swap hst (hok _ (List.getElem_mem hkl)) (hok _ (List.getElem_mem hb))).mono ?_
      rintro v h ⟨rfl, hs⟩
      rw [gd_at hkl, gd_at hb]
      exact ⟨rfl, hs.swap⟩
    have hiw : IntKind.i64.wrap ((k : Int) + 1) = ((k + 1 : Nat) : Int) := by rw [wrap64 _ (by omega)]; omega
    apply S_aging_Line_Turn_5
    unfold B_aging_Line_Turn_5
    refine mIf_pos (by simp; omega) ?_
    rw [hiw]
    have fin : ∀ h, Sep h0 h (aAg b step x :: aRow G.enc 3 x l :: R) → ∀ best', best' = (if bef step (gd l k) (gd l best) = true then k else best) → best' < l.length →
        K_aging_Line_Turn_5 (some ⟨b, 0, none⟩) (best' : Int) x (x.n : Int) ((k + 1 : Nat) : Int) h (fun v h' => v = .tuple #[.int .i64 (gd l (bst step l d (k + 1) (if bef step (gd l k) (gd l best) = true then k else best))).who, .bool true] ∧ Ln h0 R b step ((l.eraseIdx (bst step l d (k + 1) (if bef step (gd l k) (gd l best) = true then k else best))).map bump) h') := by
      intro h hs best' he hb'
      rw [← he]
      exact ih best' h hb' hs
    ((refine Sep.idx hs 1 rfl (by first | omega | (simp only [List.length_set, List.length_map, List.length_replicate, List.length_append, List.length_cons, List.length_nil, List.length_reverse, List.length_range]; omega) | (simp; omega)) (by first | omega | (simp only [List.length_set, List.length_map, List.length_replicate, List.length_append, List.length_cons, List.length_nil, List.length_reverse, List.length_range]; omega) | (simp; omega)) fun aa haa => ?_; try simp only [Int.toNat_natCast] at haa); refine Sep.rldI0 hs 1 rfl (fun _ => rfl) haa (List.getElem?_eq_getElem (by first | omega | (simp only [List.length_set, List.length_map, List.length_replicate, List.length_append, List.length_cons, List.length_nil, List.length_reverse, List.length_range]; omega) | (simp; omega))) rfl ?_; refine Sep.rldI hs 1 rfl (fun _ => rfl) haa (List.getElem?_eq_getElem (by first | omega | (simp only [List.length_set, List.length_map, List.length_replicate, List.length_append, List.length_cons, List.length_nil, List.length_reverse, List.length_range]; omega) | (simp; omega))) rfl ?_; refine Sep.rldI hs 1 rfl (fun _ => rfl) haa (List.getElem?_eq_getElem (by first | omega | (simp only [List.length_set, List.length_map, List.length_replicate, List.length_append, List.length_cons, List.length_nil, List.length_reverse, List.length_range]; omega) | (simp; omega))) rfl ?_; (refine Sep.new hs fun nb h hs => ?_; try simp only [List.toList_toArray] at hs); (refine Sep.st hs 0 rfl rfl rfl fun h hs => ?_; simp only [List.set_cons_zero, List.set_cons_succ] at hs); (refine Sep.st hs 0 rfl rfl rfl fun h hs => ?_; simp only [List.set_cons_zero, List.set_cons_succ] at hs); (refine Sep.st hs 0 rfl rfl rfl fun h hs => ?_; simp only [List.set_cons_zero, List.set_cons_succ] at hs); simp only [add_mk, Nat.zero_add, mNil_some])
    repeat' (first | with_reducible refine mAnd_intro ?_ ?_ | (first | (((with_reducible refine gd_mLdI ?_); refine Sep.ldI hs 0 rfl rfl ?_)) | (((with_reducible refine gd_mLdL ?_); refine Sep.ldL hs 1 rfl rfl ?_)) | (((with_reducible refine gd_mIdx ?_); (refine Sep.idx hs 2 rfl (by first | omega | (simp only [List.length_set, List.length_map, List.length_replicate, List.length_append, List.length_cons, List.length_nil, List.length_reverse, List.length_range]; omega) | (simp; omega)) (by first | omega | (simp only [List.length_set, List.length_map, List.length_replicate, List.length_append, List.length_cons, List.length_nil, List.length_reverse, List.length_range]; omega) | (simp; omega)) fun aa_1 haa_1 => ?_; try simp only [Int.toNat_natCast] at haa_1))) | (((with_reducible refine gd_mLdI ?_); refine Sep.rldI0 hs 2 rfl (fun _ => rfl) (by assumption) (List.getElem?_eq_getElem (by first | omega | (simp only [List.length_set, List.length_map, List.length_replicate, List.length_append, List.length_cons, List.length_nil, List.length_reverse, List.length_range]; omega) | (simp; omega))) rfl ?_)) | (((with_reducible refine gd_mLdI ?_); refine Sep.rldI hs 2 rfl (fun _ => rfl) (by assumption) (List.getElem?_eq_getElem (by first | omega | (simp only [List.length_set, List.length_map, List.length_replicate, List.length_append, List.length_cons, List.length_nil, List.length_reverse, List.length_range]; omega) | (simp; omega))) rfl ?_)) | ((simp only [mBind_ap])) | ((simp only [unB_bool]))) | (refine (hbf _ _ hs).mono ?_; rintro v h ⟨rfl, hs⟩) | (refine mIf_intro (fun hc => ?_) (fun hc => ?_)))
    all_goals first | exact fin _ hs.drop k (by rw [if_pos hc]) hkl | exact fin _ hs.drop best (by rw [if_neg (by rw [hc]; decide)]) hb
theorem Turn_0 (hs : Ln h0 R b step [] h) :
    N_aging_Line_Turn (some ⟨b, 0, none⟩) h (fun v h' => v = .tuple #[.int .i64 0, .bool false] ∧ Ln h0 R b step [] h') := by
  obtain ⟨x, hs⟩ := hs
  have hxn := hs.rowLen 1 rfl
  apply S_aging_Line_Turn
  unfold B_aging_Line_Turn
  (simp only [Option.isNone_some, mNil_some, add_mk, Nat.zero_add, mIf_false, mBind_ap]; refine Sep.ldL hs 0 rfl rfl ?_; rw [mRet_ap])
  refine mIf_pos (by rw [hxn]; rfl) ?_
  exact ⟨rfl, x, hs⟩
theorem Turn_s (hs : Ln h0 R b step l h) (hst : 1 ≤ step) (hn : l.length ≤ 1000) (hok : ∀ q ∈ l, q.ok) (hpos : 0 < l.length) :
    N_aging_Line_Turn (some ⟨b, 0, none⟩) h (fun v h' => v = .tuple #[.int .i64 (gd l (bst step l l.length 0 0)).who, .bool true] ∧ Ln h0 R b step ((l.eraseIdx (bst step l l.length 0 0)).map bump) h') := by
  obtain ⟨x, hs⟩ := hs
  have hxn := hs.rowLen 1 rfl
  apply S_aging_Line_Turn
  unfold B_aging_Line_Turn
  (simp only [Option.isNone_some, mNil_some, add_mk, Nat.zero_add, mIf_false, mBind_ap]; refine Sep.ldL hs 0 rfl rfl ?_; rw [mRet_ap])
  refine mIf_neg (by rw [hxn]; simpa using List.length_pos_iff.1 hpos) ?_
  (refine Sep.ldL hs 0 rfl rfl ?_)
  exact turn5 hst hn hok l.length 0 0 h (by omega) hpos hs
theorem New_s (hs : Sep h0 h R) (hst : 1 ≤ step ∧ step ≤ 1024) : N_aging_New step h (fun v h' => ∃ b, v = .pointer (some ⟨b, 0, none⟩) ∧ Ln h0 R b step [] h') := by
  have hs := hs.nilRow' G.enc 3 ⟨none, 0, 0⟩ rfl rfl
  apply S_aging_New
  unfold B_aging_New
  refine mIf_neg (by simp; omega) ?_
  ((refine Sep.new hs fun nb h hs => ?_; try simp only [List.toList_toArray] at hs))
  exact ⟨_, rfl, ⟨none, 0, 0⟩, hs⟩
theorem New_bad (h : Hp) (hst : step < 1 ∨ step > 1024) : N_aging_New step h (fun v h' => v = .pointer none ∧ h' = h) := by
  apply S_aging_New
  unfold B_aging_New
  exact mIf_pos (by simpa using hst) ⟨rfl, rfl⟩
def joinR (l : List G) (who base : Int) : Int × List G := if base < 0 ∨ base > 63 then (5, l) else if fnd who l 0 ≥ 0 then (10, l) else if l.length ≥ 256 then (7, l) else (0, l ++ [⟨who, base, 0⟩])
theorem Join_s (hs : Ln h0 R b step l h) (hn : l.length ≤ 1000) (who base : Int) :
    N_aging_Line_Join (some ⟨b, 0, none⟩) who base h (fun v h' => v = .int .i64 (joinR l who base).1 ∧ Ln h0 R b step (joinR l who base).2 h') := by
  obtain ⟨x, hs⟩ := hs
  have hxn := hs.rowLen 1 rfl
  apply S_aging_Line_Join
  unfold B_aging_Line_Join joinR
  (simp only [Option.isNone_some, mNil_some, add_mk, Nat.zero_add, mIf_false])
  refine mIf_intro (fun hc => ?_) (fun hc => ?_)
  · rw [if_pos (by simpa using hc)]
    exact ⟨rfl, x, hs⟩
  · rw [if_neg (by simpa using hc)]
    rw [mBind_ap]
    refine (find_s hs hn who).mono ?_
    rintro v h ⟨rfl, hs⟩
    (simp only [unI_int])
    refine mIf_dec (fun hc2 => ?_) (fun hc2 => ?_)
    · rw [if_pos hc2]
      exact ⟨rfl, x, hs⟩
    · rw [if_neg hc2]
      (refine Sep.ldL hs 0 rfl rfl ?_)
      refine mIf_dec (fun hc3 => ?_) (fun hc3 => ?_)
      · rw [if_pos (by omega)]
        exact ⟨rfl, x, hs⟩
      · rw [if_neg (by omega)]
        (refine Sep.ldL hs 0 rfl rfl ?_; (refine Sep.new hs fun nb h hs => ?_; try simp only [List.toList_toArray] at hs); simp only)
        refine hs.app1 2 0 ⟨who, base, 0⟩ rfl rfl (fun _ => rfl) (G.one _) rfl (by omega) (by omega) fun s' h hn' hs => ?_
        simp only [List.set_cons_succ, List.set_cons_zero] at hs
        ((refine Sep.st hs 1 rfl rfl rfl fun h hs => ?_; simp only [List.set_cons_zero, List.set_cons_succ] at hs))
        exact ⟨rfl, s', hs.drop⟩
theorem Leave_s (hs : Ln h0 R b step l h) (hn : l.length ≤ 1000) (who : Int) :
    N_aging_Line_Leave (some ⟨b, 0, none⟩) who h (fun v h' => v = .bool (decide (fnd who l 0 ≥ 0)) ∧ Ln h0 R b step (if fnd who l 0 ≥ 0 then l.eraseIdx (fnd who l 0).toNat else l) h') := by
  obtain ⟨x, hs⟩ := hs
  apply S_aging_Line_Leave
  unfold B_aging_Line_Leave
  rw [mBind_ap]
  refine (find_s hs hn who).mono ?_
  rintro v h ⟨rfl, hs⟩
  (simp only [unI_int])
  refine mIf_dec (fun hc => ?_) (fun hc => ?_)
  · rw [decide_eq_false (by omega), if_neg (by omega)]
    exact ⟨rfl, x, hs⟩
  · rw [decide_eq_true (by omega), if_pos (by omega)]
    obtain ⟨i, hi, hf⟩ : ∃ i, i < l.length ∧ fnd who l 0 = (i : Nat) := by
      rcases fnd_spec who l 0 with ⟨h1, _⟩ | ⟨i, hi, h1, _⟩
      · omega
      · exact ⟨i, hi, by omega⟩
    rw [hf, Int.toNat_natCast, mBind_ap]
    refine (drop_s hs hn hi).mono ?_
    rintro v h ⟨rfl, hs⟩
    (simp only [unA_agg, unC_cons, unE_nil, unI_int])
    exact ⟨rfl, hs⟩
theorem Priority_s (hs : Ln h0 R b step l h) (hst : 1 ≤ step) (hn : l.length ≤ 1000) (hok : ∀ q ∈ l, q.ok) (who : Int) :
    N_aging_Line_Priority (some ⟨b, 0, none⟩) who h (fun v h' => v = (if fnd who l 0 ≥ 0 then .tuple #[.int .i64 (pri step (gd l (fnd who l 0).toNat)), .bool true] else .tuple #[.int .i64 0, .bool false]) ∧ Ln h0 R b step l h') := by
  obtain ⟨x, hs⟩ := hs
  have hxn := hs.rowLen 1 rfl
  apply S_aging_Line_Priority
  unfold B_aging_Line_Priority
  rw [mBind_ap]
  refine (find_s hs hn who).mono ?_
  rintro v h ⟨rfl, hs⟩
  (simp only [mNil_some, add_mk, Nat.zero_add, unI_int])
  refine mIf_dec (fun hc => ?_) (fun hc => ?_)
  · rw [if_neg (by omega)]
    exact ⟨rfl, x, hs⟩
  · rw [if_pos (by omega)]
    obtain ⟨i, hi, hf⟩ : ∃ i, i < l.length ∧ fnd who l 0 = (i : Nat) := by
      rcases fnd_spec who l 0 with ⟨h1, _⟩ | ⟨i, hi, h1, _⟩
      · omega
      · exact ⟨i, hi, by omega⟩
    rw [hf, Int.toNat_natCast, gd_at hi]
    (refine Sep.ldL hs 0 rfl rfl ?_; (refine Sep.idx hs 1 rfl (by first | omega | (simp only [List.length_set, List.length_map, List.length_replicate, List.length_append, List.length_cons, List.length_nil, List.length_reverse, List.length_range]; omega) | (simp; omega)) (by first | omega | (simp only [List.length_set, List.length_map, List.length_replicate, List.length_append, List.length_cons, List.length_nil, List.length_reverse, List.length_range]; omega) | (simp; omega)) fun aa haa => ?_; try simp only [Int.toNat_natCast] at haa); refine Sep.rldI0 hs 1 rfl (fun _ => rfl) haa (List.getElem?_eq_getElem (by first | omega | (simp only [List.length_set, List.length_map, List.length_replicate, List.length_append, List.length_cons, List.length_nil, List.length_reverse, List.length_range]; omega) | (simp; omega))) rfl ?_; refine Sep.rldI hs 1 rfl (fun _ => rfl) haa (List.getElem?_eq_getElem (by first | omega | (simp only [List.length_set, List.length_map, List.length_replicate, List.length_append, List.length_cons, List.length_nil, List.length_reverse, List.length_range]; omega) | (simp; omega))) rfl ?_; refine Sep.rldI hs 1 rfl (fun _ => rfl) haa (List.getElem?_eq_getElem (by first | omega | (simp only [List.length_set, List.length_map, List.length_replicate, List.length_append, List.length_cons, List.length_nil, List.length_reverse, List.length_range]; omega) | (simp; omega))) rfl ?_; simp only [mBind_ap])
    refine (pri_s hs hst (hok _ (List.getElem_mem hi))).mono ?_
    rintro v h ⟨rfl, hs⟩
    (simp only [unI_int])
    exact ⟨rfl, x, hs⟩
theorem all4 (hn : l.length ≤ 1000) : ∀ (d k : Nat) (h : Hp) (out : Sl), k + d = l.length → Sep h0 h (aRow encZ 1 out ((l.take k).map (·.who)) :: aAg b step x :: aRow G.enc 3 x l :: R) →
    K_aging_Line_All_4 out x (x.n : Int) (k : Int) h (fun v h' => ∃ o : Sl, v = .slice o.p o.n o.c ∧ Ln h0 (aRow encZ 1 o (l.map (·.who)) :: R) b step l h')
  | 0, k, h, out, hk, hs => by
    have hln := hs.rowLen 2 rfl
    apply S_aging_Line_All_4
    unfold B_aging_Line_All_4
    refine mIf_neg (by simp; omega) ?_
    rw [List.take_of_length_le (by omega)] at hs
    exact ⟨_, rfl, x, hs.reT 3 [1, 2, 0] rfl (by simp)⟩
  | d + 1, k, h, out, hk, hs => by
    have ih := fun h out => all4 hn d (k + 1) h out (by omega)
    have hln := hs.rowLen 2 rfl
    have hkl : k < l.length := by omega
    have hlen : ((l.take k).map (·.who)).length ≤ 1000 := by simp; omega
    apply S_aging_Line_All_4
    unfold B_aging_Line_All_4
    refine mIf_pos (by simp; omega) ?_
    ((refine Sep.idx hs 2 rfl (by first | omega | (simp only [List.length_set, List.length_map, List.length_replicate, List.length_append, List.length_cons, List.length_nil, List.length_reverse, List.length_range]; omega) | (simp; omega)) (by first | omega | (simp only [List.length_set, List.length_map, List.length_replicate, List.length_append, List.length_cons, List.length_nil, List.length_reverse, List.length_range]; omega) | (simp; omega)) fun aa haa => ?_; try simp only [Int.toNat_natCast] at haa); refine Sep.rldI0 hs 2 rfl (fun _ => rfl) haa (List.getElem?_eq_getElem (by first | omega | (simp only [List.length_set, List.length_map, List.length_replicate, List.length_append, List.length_cons, List.length_nil, List.length_reverse, List.length_range]; omega) | (simp; omega))) rfl ?_; refine Sep.rldI hs 2 rfl (fun _ => rfl) haa (List.getElem?_eq_getElem (by first | omega | (simp only [List.length_set, List.length_map, List.length_replicate, List.length_append, List.length_cons, List.length_nil, List.length_reverse, List.length_range]; omega) | (simp; omega))) rfl ?_; refine Sep.rldI hs 2 rfl (fun _ => rfl) haa (List.getElem?_eq_getElem (by first | omega | (simp only [List.length_set, List.length_map, List.length_replicate, List.length_append, List.length_cons, List.length_nil, List.length_reverse, List.length_range]; omega) | (simp; omega))) rfl ?_; (refine Sep.new hs fun nb h hs => ?_; try simp only [List.toList_toArray] at hs); (refine Sep.st hs 0 rfl rfl rfl fun h hs => ?_; simp only [List.set_cons_zero, List.set_cons_succ] at hs); (refine Sep.st hs 0 rfl rfl rfl fun h hs => ?_; simp only [List.set_cons_zero, List.set_cons_succ] at hs); (refine Sep.st hs 0 rfl rfl rfl fun h hs => ?_; simp only [List.set_cons_zero, List.set_cons_succ] at hs); refine Sep.ldI hs 0 rfl rfl ?_; (refine Sep.new hs fun nb_1 h hs => ?_; try simp only [List.toList_toArray] at hs); (refine Sep.app1 hs 2 0 _ rfl rfl (fun _ => rfl) (by simp [Value.oneCell']) rfl (by omega) (by first | omega | (simp only [List.length_set, List.length_map, List.length_replicate, List.length_append, List.length_cons, List.length_nil, List.length_reverse, List.length_range]; omega) | (simp; omega)) fun sl h hn_sl hs => ?_; simp only [List.set_cons_zero, List.set_cons_succ] at hs))
    rw [wrap64 _ (by omega), show (k : Int) + 1 = ((k + 1 : Nat) : Int) by omega]
    refine ih h _ ?_
    rw [List.take_succ_eq_append_getElem hkl, List.map_append]
    exact hs.drop.drop
theorem All_s (hs : Ln h0 R b step l h) (hn : l.length ≤ 1000) : N_aging_Line_All (some ⟨b, 0, none⟩) h (fun v h' => ∃ o : Sl, v = .slice o.p o.n o.c ∧ Ln h0 (aRow encZ 1 o (l.map (·.who)) :: R) b step l h') := by
  obtain ⟨x, hs⟩ := hs
  apply S_aging_Line_All
  unfold B_aging_Line_All
  (simp only [Option.isNone_some, Bool.not_false, mNil_some, add_mk, Nat.zero_add, mIf_true]; refine Sep.ldL hs 0 rfl rfl ?_)
  have hs := hs.nilRow' encZ 1 ⟨none, 0, 0⟩ rfl rfl
  exact all4 hn l.length 0 h _ (by omega) hs
theorem Bound_s (hs : Ln h0 R b step l h) (hst : 1 ≤ step ∧ step ≤ 1024) (hn : l.length ≤ 1000) (hok : ∀ q ∈ l, q.ok) (who : Int) :
    N_aging_Line_Bound (some ⟨b, 0, none⟩) who h (fun v h' => v = (if fnd who l 0 ≥ 0 then .tuple #[.int .i64 (max 0 (64 - pri step (gd l (fnd who l 0).toNat)) * step + l.length), .bool true] else .tuple #[.int .i64 0, .bool false]) ∧ Ln h0 R b step l h') := by
  apply S_aging_Line_Bound
  unfold B_aging_Line_Bound
  rw [mBind_ap]
  refine (Priority_s hs hst.1 hn hok who).mono ?_
  rintro v h ⟨rfl, x, hs⟩
  have hxn := hs.rowLen 1 rfl
  by_cases hc : fnd who l 0 ≥ 0
  · rw [if_pos hc, if_pos hc]
    obtain ⟨i, hi, hf⟩ : ∃ i, i < l.length ∧ fnd who l 0 = (i : Nat) := by
      rcases fnd_spec who l 0 with ⟨h1, _⟩ | ⟨i, hi, h1, _⟩
      · omega
      · exact ⟨i, hi, by omega⟩
    rw [hf, Int.toNat_natCast, gd_at hi]
    have hb := pri_b hst.1 (hok _ (List.getElem_mem hi))
    generalize pri step l[i] = q at *
    (simp only [mNil_some, add_mk, Nat.zero_add, un2_tuple, unB_bool, Bool.not_true, mIf_false, unI_int]; refine Sep.ldI hs 0 rfl rfl ?_; refine Sep.ldL hs 0 rfl rfl ?_)
    rw [wrap64 (64 - q) (by omega), show (if (0 : Int) > 64 - q then (0 : Int) else 64 - q) = max 0 (64 - q) by omega]
    have hm1 := Int.mul_le_mul (show max 0 (64 - q) ≤ 64 by omega) hst.2 (show 0 ≤ step by omega) (by omega)
    have hm0 := Int.mul_nonneg (show 0 ≤ max 0 (64 - q) by omega) (show 0 ≤ step by omega)
    rw [wrap64 (max 0 (64 - q) * step) (by omega), hxn, wrap64 _ (by omega)]
    exact ⟨rfl, x, hs⟩
  · rw [if_neg hc, if_neg hc]
    (simp only [mNil_some, add_mk, Nat.zero_add, un2_tuple, unB_bool, Bool.not_false, mIf_true, unI_int])
    exact ⟨rfl, x, hs⟩
end
end Go.Proofs.Ytbpnpmknamghkaa
