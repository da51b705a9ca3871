/- Timers: the plain rows, and TimersPlay. Conditions: none. -/
import Derived.Test.YtinjifhjjkdmoaaTimR
import Derived.Test.YtinjifhjjkdmoaaSbW
namespace Go.Proofs.Ytinjifhjjkdmoaa
open Go Go.Sb
set_option linter.unusedSimpArgs false
set_option linter.unusedVariables false
theorem Tr_one (x : Tr) : ∀ v ∈ x.enc, v.oneCell' = true := by
  intro v hv
  simp only [Tr.enc, List.mem_cons, List.not_mem_nil, or_false] at hv
  rcases hv with rfl | rfl | rfl <;> rfl
def fidT (id : Int) : List Tr → Int → Int
  | [], _ => -1
  | p :: r, i => if p.id = id then i else fidT id r (i + 1)
section
variable {h0 h : Hp} {R X : List As} {tb : Nat} {l : DL} {per : Int → Int} {S : List Int} {now : Int} {r : Sl} {rows : List Tr}
theorem place2 {id : Int} (hn : rows.length ≤ 1000) : ∀ (e k : Nat) (h : Hp), k + e = rows.length → Sep h0 h (aRow Tr.enc 3 r rows :: R) →
    K_signalboxlaw47_place_2 id r (r.n : Int) (k : Int) h (fun v h' => v = .int .i64 (fidT id (rows.drop k) k) ∧ Sep h0 h' (aRow Tr.enc 3 r rows :: R))
  | 0, k, h, hk, hs => by
    have hrn := hs.rowLen 0 rfl
    apply S_signalboxlaw47_place_2
    unfold B_signalboxlaw47_place_2
    refine mIf_neg (by simp; omega) ?_
    rw [List.drop_of_length_le (by omega)]
    exact ⟨rfl, hs⟩
  | e + 1, k, h, hk, hs => by
    have ih := place2 (id := id) hn e (k + 1)
    have hrn := hs.rowLen 0 rfl
    have hkl : k < rows.length := by omega
    rw [List.drop_eq_getElem_cons hkl]
    apply S_signalboxlaw47_place_2
    unfold B_signalboxlaw47_place_2
    refine mIf_pos (by simp; omega) ?_
    ((refine Sep.idx hs 0 rfl (by first | omega | (simp only [List.length_set, List.length_map, List.length_replicate, List.length_append, List.length_cons, List.length_nil, List.length_reverse, List.length_range]; omega) | (simp; omega)) (by first | omega | (simp only [List.length_set, List.length_map, List.length_replicate, List.length_append, List.length_cons, List.length_nil, List.length_reverse, List.length_range]; omega) | (simp; omega)) fun aa haa => ?_; try simp only [Int.toNat_natCast] at haa); refine Sep.rldI0 hs 0 rfl (fun _ => rfl) haa (List.getElem?_eq_getElem (by first | omega | (simp only [List.length_set, List.length_map, List.length_replicate, List.length_append, List.length_cons, List.length_nil, List.length_reverse, List.length_range]; omega) | (simp; omega))) rfl ?_; refine Sep.rldI hs 0 rfl (fun _ => rfl) haa (List.getElem?_eq_getElem (by first | omega | (simp only [List.length_set, List.length_map, List.length_replicate, List.length_append, List.length_cons, List.length_nil, List.length_reverse, List.length_range]; omega) | (simp; omega))) rfl ?_; refine Sep.rldI hs 0 rfl (fun _ => rfl) haa (List.getElem?_eq_getElem (by first | omega | (simp only [List.length_set, List.length_map, List.length_replicate, List.length_append, List.length_cons, List.length_nil, List.length_reverse, List.length_range]; omega) | (simp; omega))) rfl ?_; (refine Sep.new hs fun nb h hs => ?_; try simp only [List.toList_toArray] at hs); (refine Sep.st hs 0 rfl rfl rfl fun h hs => ?_; simp only [List.set_cons_zero, List.set_cons_succ] at hs); (refine Sep.st hs 0 rfl rfl rfl fun h hs => ?_; simp only [List.set_cons_zero, List.set_cons_succ] at hs); (refine Sep.st hs 0 rfl rfl rfl fun h hs => ?_; simp only [List.set_cons_zero, List.set_cons_succ] at hs); refine Sep.ldI hs 0 rfl rfl ?_)
    rw [wrap64 ((k : Int) + 1) (by omega), show ((k : Int) + 1) = ((k + 1 : Nat) : Int) by omega]
    unfold fidT
    refine mIf_intro (fun hc => ?_) (fun hc => ?_)
    · rw [if_pos (by simpa using hc)]
      exact ⟨rfl, hs.drop⟩
    · rw [if_neg (by simpa using hc)]
      exact ih _ (by omega) hs.drop
theorem place_s {id : Int} (hn : rows.length ≤ 1000) (hs : Sep h0 h (aRow Tr.enc 3 r rows :: R)) : N_signalboxlaw47_place r id h (fun v h' => v = .int .i64 (fidT id rows 0) ∧ Sep h0 h' (aRow Tr.enc 3 r rows :: R)) := by
  apply S_signalboxlaw47_place
  unfold B_signalboxlaw47_place
  exact place2 hn rows.length 0 h (Nat.zero_add _) hs
theorem app_viewT {x s : Sl} {lo m : Nat} {ys : List Tr} {L : List As} {α : Type} {Q : α → Hp → Prop} {K : Sl → M α} (hs : Sep h0 h L) (k k2 : Nat) (hk : L[k]? = some (aRow Tr.enc 3 s ys)) (hk2 : L[k2]? = some (aRow Tr.enc 3 r rows)) (hv : Vw r x 3 lo) (hm : x.n = m) (hlo : lo + m ≤ rows.length) (hn : ys.length + rows.length ≤ 100000)
    (hK : ∀ s' h', Sep h0 h' (L.set k (aRow Tr.enc 3 s' (ys ++ (rows.drop lo).take m))) → K s' h' Q) : mApp 87 3 24 #[.int .i64 (0 : Int), .int .i64 (0 : Int), .int .i64 (0 : Int)] s x K h Q := by
  have hc := hs.vcells k2 (x := x) (m := x.n) hk2 (fun _ => rfl) hv (Nat.le_refl _) (by omega)
  rw [hm] at hc
  refine hs.app_ k ((rows.drop lo).take m) hk (fun _ => rfl) (by rw [hm]; exact hc) (by rw [hm, List.length_take, List.length_drop]; omega) (by intro v hv; obtain ⟨w, _, hw⟩ := List.mem_flatMap.1 hv; exact Tr_one w v hw) rfl (by omega) (by rw [List.length_take, List.length_drop]; omega) fun s' h' _ hs => hK s' h' hs
theorem tput2 {t : Tr} {tb : Nat} (hn : rows.length ≤ 1000) : ∀ (e k : Nat) (h : Hp), k + e = rows.length → k + cleT t.due (rows.drop k) = cleT t.due rows → Sep h0 h (aBlk tb t.enc :: aRow Tr.enc 3 r rows :: R) →
    K_signalboxlaw47_put_2 r ⟨tb, 0, none⟩ (k : Int) h (fun v h' => ∃ o : Sl, v = .slice o.p o.n o.c ∧ Sep h0 h' (aRow Tr.enc 3 o (putT t rows) :: R)) := by
  have stop : ∀ (k : Nat) (h : Hp), k = cleT t.due rows → Sep h0 h (aBlk tb t.enc :: aRow Tr.enc 3 r rows :: R) → (
    mSlc r 3 (0 : Int) (k : Int) (r.c : Int) fun (x25 : Sl) =>
    mSlc r 3 (k : Int) (r.n : Int) (r.c : Int) fun (x32 : Sl) =>
    mAnd (
      mNew #[] 87 fun (x22_25 : Addr) =>
      mAnd (
        mApp 87 3 24 #[.int .i64 (0 : Int), .int .i64 (0 : Int), .int .i64 (0 : Int)] ⟨(some x22_25), 0, 0⟩ x25 fun (x26_35 : Sl) =>
        mLdI .i64 (⟨tb, 0, none⟩ : Addr) fun (x27_36_0 : Int) =>
        mLdI .i64 ((⟨tb, 0, none⟩ : Addr).add 1) fun (x27_36_1 : Int) =>
        mLdI .i64 ((⟨tb, 0, none⟩ : Addr).add 2) fun (x27_36_2 : Int) =>
        mNew #[.int .i64 x27_36_0, .int .i64 x27_36_1, .int .i64 x27_36_2] 87 fun (x28_37 : Addr) =>
        mApp 87 3 24 #[.int .i64 (0 : Int), .int .i64 (0 : Int), .int .i64 (0 : Int)] x26_35 ⟨(some x28_37), 1, 1⟩ fun (x29_38 : Sl) =>
        mApp 87 3 24 #[.int .i64 (0 : Int), .int .i64 (0 : Int), .int .i64 (0 : Int)] x29_38 x32 fun (x33_39 : Sl) =>
        mRet (Value.slice x33_39.p x33_39.n x33_39.c)) (
        mLdI .i64 (⟨tb, 0, none⟩ : Addr) fun (x27_26_0 : Int) =>
        mLdI .i64 ((⟨tb, 0, none⟩ : Addr).add 1) fun (x27_26_1 : Int) =>
        mLdI .i64 ((⟨tb, 0, none⟩ : Addr).add 2) fun (x27_26_2 : Int) =>
        mAnd (
          mApp 87 3 24 #[.int .i64 (0 : Int), .int .i64 (0 : Int), .int .i64 (0 : Int)] ⟨(some x22_25), 0, 0⟩ x25 fun (x26_31 : Sl) =>
          mNew #[.int .i64 x27_26_0, .int .i64 x27_26_1, .int .i64 x27_26_2] 87 fun (x28_32 : Addr) =>
          mApp 87 3 24 #[.int .i64 (0 : Int), .int .i64 (0 : Int), .int .i64 (0 : Int)] x26_31 ⟨(some x28_32), 1, 1⟩ fun (x29_33 : Sl) =>
          mApp 87 3 24 #[.int .i64 (0 : Int), .int .i64 (0 : Int), .int .i64 (0 : Int)] x29_33 x32 fun (x33_34 : Sl) =>
          mRet (Value.slice x33_34.p x33_34.n x33_34.c)) (
          mNew #[.int .i64 x27_26_0, .int .i64 x27_26_1, .int .i64 x27_26_2] 87 fun (x28_27 : Addr) =>
          mApp 87 3 24 #[.int .i64 (0 : Int), .int .i64 (0 : Int), .int .i64 (0 : Int)] ⟨(some x22_25), 0, 0⟩ x25 fun (x26_28 : Sl) =>
          mApp 87 3 24 #[.int .i64 (0 : Int), .int .i64 (0 : Int), .int .i64 (0 : Int)] x26_28 ⟨(some x28_27), 1, 1⟩ fun (x29_29 : Sl) =>
          mApp 87 3 24 #[.int .i64 (0 : Int), .int .i64 (0 : Int), .int .i64 (0 : Int)] x29_29 x32 fun (x33_30 : Sl) =>
          mRet (Value.slice x33_30.p x33_30.n x33_30.c)))) (
      mLdI .i64 (⟨tb, 0, none⟩ : Addr) fun (x27_0 : Int) =>
      mLdI .i64 ((⟨tb, 0, none⟩ : Addr).add 1) fun (x27_1 : Int) =>
      mLdI .i64 ((⟨tb, 0, none⟩ : Addr).add 2) fun (x27_2 : Int) =>
      mAnd (
        mNew #[] 87 fun (x22_16 : Addr) =>
        mAnd (
          mApp 87 3 24 #[.int .i64 (0 : Int), .int .i64 (0 : Int), .int .i64 (0 : Int)] ⟨(some x22_16), 0, 0⟩ x25 fun (x26_21 : Sl) =>
          mNew #[.int .i64 x27_0, .int .i64 x27_1, .int .i64 x27_2] 87 fun (x28_22 : Addr) =>
          mApp 87 3 24 #[.int .i64 (0 : Int), .int .i64 (0 : Int), .int .i64 (0 : Int)] x26_21 ⟨(some x28_22), 1, 1⟩ fun (x29_23 : Sl) =>
          mApp 87 3 24 #[.int .i64 (0 : Int), .int .i64 (0 : Int), .int .i64 (0 : Int)] x29_23 x32 fun (x33_24 : Sl) =>
          mRet (Value.slice x33_24.p x33_24.n x33_24.c)) (
          mNew #[.int .i64 x27_0, .int .i64 x27_1, .int .i64 x27_2] 87 fun (x28_17 : Addr) =>
          mApp 87 3 24 #[.int .i64 (0 : Int), .int .i64 (0 : Int), .int .i64 (0 : Int)] ⟨(some x22_16), 0, 0⟩ x25 fun (x26_18 : Sl) =>
          mApp 87 3 24 #[.int .i64 (0 : Int), .int .i64 (0 : Int), .int .i64 (0 : Int)] x26_18 ⟨(some x28_17), 1, 1⟩ fun (x29_19 : Sl) =>
          mApp 87 3 24 #[.int .i64 (0 : Int), .int .i64 (0 : Int), .int .i64 (0 : Int)] x29_19 x32 fun (x33_20 : Sl) =>
          mRet (Value.slice x33_20.p x33_20.n x33_20.c))) (
        mNew #[.int .i64 x27_0, .int .i64 x27_1, .int .i64 x27_2] 87 fun (x28 : Addr) =>
        mNew #[] 87 fun (x22 : Addr) =>
        mApp 87 3 24 #[.int .i64 (0 : Int), .int .i64 (0 : Int), .int .i64 (0 : Int)] ⟨(some x22), 0, 0⟩ x25 fun (x26 : Sl) =>
        mApp 87 3 24 #[.int .i64 (0 : Int), .int .i64 (0 : Int), .int .i64 (0 : Int)] x26 ⟨(some x28), 1, 1⟩ fun (x29 : Sl) =>
        mApp 87 3 24 #[.int .i64 (0 : Int), .int .i64 (0 : Int), .int .i64 (0 : Int)] x29 x32 fun (x33 : Sl) =>
        mRet (Value.slice x33.p x33.n x33.c)))) h (fun v h' => ∃ o : Sl, v = .slice o.p o.n o.c ∧ Sep h0 h' (aRow Tr.enc 3 o (putT t rows) :: R)) := by
    intro k h hk hs
    have hrn := hs.rowLen 1 rfl
    have hrc := hs.rowCap 1 rfl
    have hkl := cleT_le t.due rows
    rw [← hk] at hkl
    refine vslc (sz := 3) (by omega) (by omega) (by omega) (by omega) fun x25 hv1 hn1 _ => ?_
    refine vslc (sz := 3) (by omega) (by omega) (by omega) (by omega) fun x32 hv2 hn2 _ => ?_
    rw [show (0 : Int).toNat = 0 from rfl] at hv1 hn1
    rw [Int.toNat_natCast] at hv2 hn1 hn2
    rw [hrn, Int.toNat_natCast] at hn2
    have hs : Sep h0 h (aBlk tb [.int .i64 t.id, .int .i64 t.due, .int .i64 t.gap] :: aRow Tr.enc 3 r rows :: R) := hs
    have e2 : ([] : List Tr) ++ (rows.drop 0).take (k - 0) ++ [t] ++ (rows.drop k).take (rows.length - k) = putT t rows := by
      have e3 : (rows.drop k).take (rows.length - k) = rows.drop k := List.take_of_length_le (by rw [List.length_drop]; omega)
      unfold putT
      rw [← hk, e3, List.nil_append, List.drop_zero, Nat.sub_zero, List.append_assoc]
      rfl
    have hl1 : (([] : List Tr) ++ (rows.drop 0).take (k - 0)).length ≤ 1000 := by simp; omega
    repeat' (first
      | with_reducible refine mAnd_intro ?_ ?_
      | (refine Sep.new (cells := #[]) hs fun nb h hs => ?_; replace hs := Blk.row (enc := Tr.enc) (xs := ([] : List Tr)) (sz := 3) (n := 0) hs 0 rfl rfl rfl; simp only [List.set_cons_zero] at hs)
      | (first | (((with_reducible refine gd_mApp ?_); simp only [add_mk, Nat.zero_add])) | (((with_reducible refine gd_mLdI ?_); refine Sep.ldI hs 1 rfl rfl ?_)) | (((with_reducible refine gd_mNew ?_); (refine Sep.new hs fun nb_1 h hs => ?_; try simp only [List.toList_toArray] at hs))) | (((with_reducible refine gd_mLdI ?_); refine Sep.ldI hs 0 rfl rfl ?_)) | (((with_reducible refine gd_mNew ?_); (refine Sep.new hs fun nb h hs => ?_; try simp only [List.toList_toArray] at hs))))
      | (refine app_viewT hs 0 2 rfl rfl hv1 hn1 (by omega) (by simp; omega) fun s1 h hs => ?_; simp only [List.set_cons_zero, List.set_cons_succ] at hs)
      | (refine app_viewT hs 0 3 rfl rfl hv1 hn1 (by omega) (by simp; omega) fun s1 h hs => ?_; simp only [List.set_cons_zero, List.set_cons_succ] at hs)
      | (refine app_viewT hs 1 3 rfl rfl hv1 hn1 (by omega) (by simp; omega) fun s1 h hs => ?_; simp only [List.set_cons_zero, List.set_cons_succ] at hs)
      | (refine app_viewT hs 0 3 rfl rfl hv2 hn2 (by omega) (by simp; omega) fun s1 h hs => ?_; simp only [List.set_cons_zero, List.set_cons_succ] at hs)
      | (refine app_viewT hs 1 3 rfl rfl hv2 hn2 (by omega) (by simp; omega) fun s1 h hs => ?_; simp only [List.set_cons_zero, List.set_cons_succ] at hs)
      | (refine hs.app1 1 0 t rfl rfl (fun _ => rfl) (Tr_one _) rfl (by omega) (by omega) fun s2 h _ hs => ?_; simp only [List.set_cons_zero, List.set_cons_succ] at hs)
      | (refine hs.app1 0 1 t rfl rfl (fun _ => rfl) (Tr_one _) rfl (by omega) (by omega) fun s2 h _ hs => ?_; simp only [List.set_cons_zero, List.set_cons_succ] at hs))
    all_goals rw [e2] at hs
    all_goals first
      | exact ⟨_, rfl, (hs.reT 4 [1, 2, 3, 0] rfl (by simp)).drop.drop.drop⟩
      | exact ⟨_, rfl, (hs.reT 4 [0, 2, 3, 1] rfl (by simp)).drop.drop.drop⟩
  intro e
  induction e with
  | zero =>
    intro k h hk hc hs
    have hrn := hs.rowLen 1 rfl
    apply S_signalboxlaw47_put_2
    unfold B_signalboxlaw47_put_2
    rw [mBind_ap]
    refine mIf_neg (by simp; omega) ?_
    rw [mRet_ap]
    refine mIf_neg rfl ?_
    rw [List.drop_of_length_le (by omega)] at hc
    exact stop k h (by simpa [cleT] using hc) hs
  | succ e ih =>
    intro k h hk hc hs
    have hrn := hs.rowLen 1 rfl
    have hkl : k < rows.length := by omega
    rw [List.drop_eq_getElem_cons hkl] at hc
    rw [show cleT t.due (rows[k] :: rows.drop (k + 1)) = if rows[k].due ≤ t.due then cleT t.due (rows.drop (k + 1)) + 1 else 0 from rfl] at hc
    apply S_signalboxlaw47_put_2
    unfold B_signalboxlaw47_put_2
    rw [mBind_ap]
    refine mIf_pos (by simp; omega) ?_
    refine hs.idx 1 rfl (by omega) (by omega) fun a ha => ?_
    simp only [Int.toNat_natCast] at ha
    refine hs.rldI 1 (j := 1) rfl (fun _ => rfl) ha (List.getElem?_eq_getElem hkl) rfl ?_
    rw [add_mk]
    refine hs.ldI 0 rfl rfl ?_
    rw [mRet_ap]
    refine mIf_dec (fun hc1 => ?_) (fun hc1 => ?_)
    · rw [if_pos hc1] at hc
      rw [wrap64 ((k : Int) + 1) (by omega), show ((k : Int) + 1) = ((k + 1 : Nat) : Int) by omega]
      exact ih (k + 1) h (by omega) (by omega) hs
    · rw [if_neg hc1] at hc
      exact stop k h (by omega) hs
theorem tput_s {t : Tr} (hn : rows.length ≤ 1000) (hs : Sep h0 h (aRow Tr.enc 3 r rows :: R)) : N_signalboxlaw47_put r t.id t.due t.gap h (fun v h' => ∃ o : Sl, v = .slice o.p o.n o.c ∧ Sep h0 h' (aRow Tr.enc 3 o (putT t rows) :: R)) := by
  apply S_signalboxlaw47_put
  unfold B_signalboxlaw47_put
  refine Sep.new hs fun nb h hs => ?_
  exact tput2 hn rows.length 0 h (Nat.zero_add _) (by rw [List.drop_zero, Nat.zero_add]) hs
end
end Go.Proofs.Ytinjifhjjkdmoaa
