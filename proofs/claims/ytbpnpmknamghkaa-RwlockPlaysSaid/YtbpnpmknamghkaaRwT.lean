/- Locks for many readers: the law RwlockPlays. Conditions: none. -/
import Derived.Test.YtbpnpmknamghkaaRwR
import Derived.Test.YtbpnpmknamghkaaRwA
import Derived.Test.YtbpnpmknamghkaaSbW
namespace Go.Proofs.Ytbpnpmknamghkaa
open Go Go.Sb
set_option linter.unusedSimpArgs false
set_option linter.unusedVariables false
structure RInv (k : Nat) (hold wait : List P) : Prop where
  st : wait = [] ∨ ∃ p W', wait = p :: W' ∧ may hold p = false
  wok : WOk hold
  nd : ((hold ++ wait).map (·.who)).Nodup
  len : hold.length + wait.length ≤ k
theorem inv_grant {k : Nat} {A B : List P} (hw : WOk A) (hnd : ((A ++ B).map (·.who)).Nodup) (hlen : A.length + B.length ≤ k) (outs : List Int) : RInv k (grantR A B outs).1 (grantR A B outs).2.1 := by
  obtain ⟨g, W, h1, h2, h3⟩ := grant_spec B A outs
  have hwg := hw.grant B A outs
  rw [h1] at hwg ⊢
  subst h2
  refine ⟨h3, hwg, ?_, ?_⟩
  · rw [List.append_assoc]; exact hnd
  · simp only [List.length_append] at hlen ⊢; omega
theorem inv_stay {k : Nat} {A B : List P} (hI : RInv k A B) (outs : List Int) : grantR A B outs = (A, B, outs) := by
  rcases hI.st with h | ⟨p, W', h, hm⟩
  · subst h; rfl
  · subst h
    unfold grantR
    rw [if_neg (by rw [hm]; decide)]
theorem fnd_at {H : List P} (hnd : (H.map (·.who)).Nodup) {i : Nat} (hi : i < H.length) : fnd H[i].who H 0 = i := by
  rcases fnd_spec H[i].who H 0 with ⟨_, h2⟩ | ⟨j, hj, h1, h2⟩
  · exact absurd rfl (h2 _ (List.getElem_mem hi))
  · have : j = i := by
      have h3 : (H.map (·.who))[j]'(by simpa using hj) = (H.map (·.who))[i]'(by simpa using hi) := by simpa using h2
      exact (List.getElem_inj hnd).1 h3
    omega
section
variable {h0 : Hp} {ls rh rw_ x y : Sl} {l : List RAct} {b ab : Nat} {hold wait H W : List P} {was e : Int} {k : Nat}
abbrev aLk (b : Nat) (x y : Sl) : As := aBlk b [.slice x.p x.n x.c, .slice y.p y.n y.c]
theorem k23 {act : List Value} (hk : k ≤ 120) : ∀ (B A : List P) (outs : List Int) (h : Hp) (rh rw_ : Sl), A.length + B.length ≤ 1000 →
    (∀ h rh rw_, Sep h0 h [aBlk ab act, aLk b x y, aRow P.enc 2 x hold, aRow P.enc 2 y wait, aRow P.enc 2 rh (grantR A B outs).1, aRow P.enc 2 rw_ (grantR A B outs).2.1] → K_signalboxlaw38_RwlockPlays_28 (some ⟨b, 0, none⟩) rh rw_ ⟨ab, 0, none⟩ was e ls (ls.n : Int) (k : Int) h (WFin h0)) →
    Sep h0 h [aBlk ab act, aLk b x y, aRow P.enc 2 x hold, aRow P.enc 2 y wait, aRow P.enc 2 rh A, aRow P.enc 2 rw_ B] →
    K_signalboxlaw38_RwlockPlays_23 (some ⟨b, 0, none⟩) rh rw_ ⟨ab, 0, none⟩ was e ls (ls.n : Int) (k : Int) h (WFin h0)
  | [], A, outs, h, rh, rw_, hn, next, hs => by
    have hrw := hs.rowLen 5 rfl
    apply S_signalboxlaw38_RwlockPlays_23
    unfold B_signalboxlaw38_RwlockPlays_23
    refine mIf_neg (by rw [hrw]; rfl) ?_
    exact next h rh rw_ hs
  | p :: B, A, outs, h, rh, rw_, hn, next, hs => by
    have ih := k23 (act := act) hk B
    have hrw := hs.rowLen 5 rfl
    have hrh := hs.rowLen 4 rfl
    simp only [List.length_cons] at hn hrw
    apply S_signalboxlaw38_RwlockPlays_23
    unfold B_signalboxlaw38_RwlockPlays_23
    refine mIf_pos (by rw [hrw]; simp) ?_
    unfold grantR at next
    have fin : may A p = true → ∀ (h : Hp) (nb : Nat) , Sep h0 h [aBlk nb p.enc, aBlk ab act, aLk b x y, aRow P.enc 2 x hold, aRow P.enc 2 y wait, aRow P.enc 2 rh A, aRow P.enc 2 rw_ (p :: B)] →
        (mApp 84 2 16 #[.int .i64 (0 : Int), .bool false] rh ⟨(some ⟨nb, 0, none⟩), 1, 1⟩ fun (x128 : Sl) =>
          mSlc rw_ 2 (1 : Int) (rw_.n : Int) (rw_.c : Int) fun (x130 : Sl) =>
          K_signalboxlaw38_RwlockPlays_23 (some ⟨b, 0, none⟩) x128 x130 ⟨ab, 0, none⟩ was e ls (ls.n : Int) (k : Int)) h (WFin h0) := by
      intro hm h nb hs
      rw [if_pos hm] at next
      refine hs.app1 5 0 p rfl rfl (fun _ => rfl) (P.one p) rfl (by omega) (by omega) fun s' h hn' hs => ?_
      simp only [List.set_cons_succ, List.set_cons_zero] at hs
      refine hs.drop.slc 5 (lo := 1) (hi := (rw_.n : Int)) (mx := (rw_.c : Int)) rfl (fun _ => rfl) (by omega) (by omega) (by rw [hrw]; simp) rfl fun s2 hn2 hs => ?_
      have e : (List.take (rw_.n : Int).toNat (p :: B)).drop (1 : Int).toNat = B := by
        rw [List.take_of_length_le (by simp; omega)]
        rfl
      rw [e] at hs
      simp only [List.set_cons_succ, List.set_cons_zero] at hs
      exact ih _ _ h _ _ (by simp; omega) next hs
    cases A with
    | nil =>
      rw [mBind_ap]
      refine mIf_neg (by rw [hrh]; rfl) ?_
      (rw [mRet_ap]; simp only [mIf_false]; (refine Sep.idx hs 5 rfl (by first | omega | (simp only [List.length_set, List.length_map, List.length_replicate, List.length_append, List.length_cons, List.length_nil, List.length_reverse, List.length_range]; omega) | (simp; omega)) (by first | omega | (simp only [List.length_set, List.length_map, List.length_replicate, List.length_append, List.length_cons, List.length_nil, List.length_reverse, List.length_range]; omega) | (simp; omega)) fun aa haa => ?_; try simp only [Int.toNat_natCast] at haa); refine Sep.rldI0 hs 5 rfl (fun _ => rfl) haa (List.getElem?_eq_getElem (by first | omega | (simp only [List.length_set, List.length_map, List.length_replicate, List.length_append, List.length_cons, List.length_nil, List.length_reverse, List.length_range]; omega) | (simp; omega))) rfl ?_; refine Sep.rldB hs 5 rfl (fun _ => rfl) haa (List.getElem?_eq_getElem (by first | omega | (simp only [List.length_set, List.length_map, List.length_replicate, List.length_append, List.length_cons, List.length_nil, List.length_reverse, List.length_range]; omega) | (simp; omega))) rfl ?_; (refine Sep.new hs fun nb h hs => ?_; try simp only [List.toList_toArray] at hs))
      exact fin rfl _ _ hs
    | cons q A =>
      rw [mBind_ap]
      refine mIf_pos (by rw [hrh]; simp; omega) ?_
      ((refine Sep.idx hs 5 rfl (by first | omega | (simp only [List.length_set, List.length_map, List.length_replicate, List.length_append, List.length_cons, List.length_nil, List.length_reverse, List.length_range]; omega) | (simp; omega)) (by first | omega | (simp only [List.length_set, List.length_map, List.length_replicate, List.length_append, List.length_cons, List.length_nil, List.length_reverse, List.length_range]; omega) | (simp; omega)) fun aa haa => ?_; try simp only [Int.toNat_natCast] at haa); refine Sep.rldB hs 5 rfl (fun _ => rfl) haa (List.getElem?_eq_getElem (by first | omega | (simp only [List.length_set, List.length_map, List.length_replicate, List.length_append, List.length_cons, List.length_nil, List.length_reverse, List.length_range]; omega) | (simp; omega))) rfl ?_; simp only [mBind_ap])
      refine mIf_intro (fun hc => ?_) (fun hc => ?_)
      · replace hc : p.w = true := hc
        (rw [mRet_ap]; rw [mRet_ap]; simp only [mIf_true])
        rw [if_neg (by simp [may, hc])] at next
        exact next _ _ _ hs
      · replace hc : p.w = false := hc
        ((refine Sep.idx hs 4 rfl (by first | omega | (simp only [List.length_set, List.length_map, List.length_replicate, List.length_append, List.length_cons, List.length_nil, List.length_reverse, List.length_range]; omega) | (simp; omega)) (by first | omega | (simp only [List.length_set, List.length_map, List.length_replicate, List.length_append, List.length_cons, List.length_nil, List.length_reverse, List.length_range]; omega) | (simp; omega)) fun aa_1 haa_1 => ?_; try simp only [Int.toNat_natCast] at haa_1); refine Sep.rldB hs 4 rfl (fun _ => rfl) haa_1 (List.getElem?_eq_getElem (by first | omega | (simp only [List.length_set, List.length_map, List.length_replicate, List.length_append, List.length_cons, List.length_nil, List.length_reverse, List.length_range]; omega) | (simp; omega))) rfl ?_; rw [mRet_ap]; rw [mRet_ap])
        refine mIf_intro (fun hc2 => ?_) (fun hc2 => ?_)
        · replace hc2 : q.w = true := hc2
          rw [if_neg (by simp [may, hc2])] at next
          exact next _ _ _ hs
        · replace hc2 : q.w = false := hc2
          ((refine Sep.idx hs 5 rfl (by first | omega | (simp only [List.length_set, List.length_map, List.length_replicate, List.length_append, List.length_cons, List.length_nil, List.length_reverse, List.length_range]; omega) | (simp; omega)) (by first | omega | (simp only [List.length_set, List.length_map, List.length_replicate, List.length_append, List.length_cons, List.length_nil, List.length_reverse, List.length_range]; omega) | (simp; omega)) fun aa_2 haa_2 => ?_; try simp only [Int.toNat_natCast] at haa_2); refine Sep.rldI0 hs 5 rfl (fun _ => rfl) haa_2 (List.getElem?_eq_getElem (by first | omega | (simp only [List.length_set, List.length_map, List.length_replicate, List.length_append, List.length_cons, List.length_nil, List.length_reverse, List.length_range]; omega) | (simp; omega))) rfl ?_; refine Sep.rldB hs 5 rfl (fun _ => rfl) haa_2 (List.getElem?_eq_getElem (by first | omega | (simp only [List.length_set, List.length_map, List.length_replicate, List.length_append, List.length_cons, List.length_nil, List.length_reverse, List.length_range]; omega) | (simp; omega))) rfl ?_; (refine Sep.new hs fun nb h hs => ?_; try simp only [List.toList_toArray] at hs))
          exact fin (by simp [may, hc, hc2]) _ _ hs
theorem k38 (next : ∀ h, Lk h0 [aRow P.enc 2 rh H, aRow P.enc 2 rw_ W] b H W h → K_signalboxlaw38_RwlockPlays_8 (some ⟨b, 0, none⟩) rh rw_ ls (ls.n : Int) (IntKind.i64.wrap ((k : Int) + 1)) h (WFin h0)) (hI : RInv (k + 1) H W) (hk : k ≤ 120) : ∀ (d i : Nat) (h : Hp), i + d = H.length →
    Lk h0 [aRow P.enc 2 rh H, aRow P.enc 2 rw_ W] b H W h → K_signalboxlaw38_RwlockPlays_38 (some ⟨b, 0, none⟩) rh rw_ ls (ls.n : Int) (k : Int) rh (rh.n : Int) (i : Int) h (WFin h0)
  | 0, i, h, hi, hs => by
    have hrh : rh.n = H.length := by obtain ⟨x, y, hs⟩ := hs; exact hs.rowLen 3 rfl
    apply S_signalboxlaw38_RwlockPlays_38
    unfold B_signalboxlaw38_RwlockPlays_38
    refine mIf_neg (by simp; omega) ?_
    exact next h hs
  | d + 1, i, h, hi, hs => by
    have ih := fun h => k38 next hI hk d (i + 1) h (by omega)
    have hrh : rh.n = H.length := by obtain ⟨x, y, hs⟩ := hs; exact hs.rowLen 3 rfl
    have hlen := hI.len
    have hil : i < H.length := by omega
    have hnd : (H.map (·.who)).Nodup := by
      have := hI.nd
      rw [List.map_append] at this
      exact (List.nodup_append.1 this).1
    have hf := fnd_at hnd hil
    obtain ⟨x, y, hs⟩ := hs
    apply S_signalboxlaw38_RwlockPlays_38
    unfold B_signalboxlaw38_RwlockPlays_38
    refine mIf_pos (by simp; omega) ?_
    ((refine Sep.idx hs 3 rfl (by first | omega | (simp only [List.length_set, List.length_map, List.length_replicate, List.length_append, List.length_cons, List.length_nil, List.length_reverse, List.length_range]; omega) | (simp; omega)) (by first | omega | (simp only [List.length_set, List.length_map, List.length_replicate, List.length_append, List.length_cons, List.length_nil, List.length_reverse, List.length_range]; omega) | (simp; omega)) fun aa haa => ?_; try simp only [Int.toNat_natCast] at haa); refine Sep.rldI0 hs 3 rfl (fun _ => rfl) haa (List.getElem?_eq_getElem (by first | omega | (simp only [List.length_set, List.length_map, List.length_replicate, List.length_append, List.length_cons, List.length_nil, List.length_reverse, List.length_range]; omega) | (simp; omega))) rfl ?_; refine Sep.rldB hs 3 rfl (fun _ => rfl) haa (List.getElem?_eq_getElem (by first | omega | (simp only [List.length_set, List.length_map, List.length_replicate, List.length_append, List.length_cons, List.length_nil, List.length_reverse, List.length_range]; omega) | (simp; omega))) rfl ?_; (refine Sep.new hs fun nb h hs => ?_; try simp only [List.toList_toArray] at hs); (refine Sep.st hs 0 rfl rfl rfl fun h hs => ?_; simp only [List.set_cons_zero, List.set_cons_succ] at hs); (refine Sep.st hs 0 rfl rfl rfl fun h hs => ?_; simp only [List.set_cons_zero, List.set_cons_succ] at hs); refine Sep.ldI hs 0 rfl rfl ?_; simp only [add_mk, Nat.zero_add, mBind_ap])
    have hs2 : Lk h0 [aBlk nb (P.enc H[i]), aRow P.enc 2 rh H, aRow P.enc 2 rw_ W] b H W h := ⟨x, y, hs.re [1, 2, 3, 0, 4, 5] rfl⟩
    refine (Holds_s hs2 (by omega) H[i].who).mono ?_
    rintro v h ⟨rfl, x, y, hs⟩
    rw [hf, decide_eq_true (by omega), Int.toNat_natCast, List.getElem?_eq_getElem hil]
    have hs : Sep h0 h [aBlk nb (P.enc H[i]), aLk b x y, aRow P.enc 2 x H, aRow P.enc 2 y W, aRow P.enc 2 rh H, aRow P.enc 2 rw_ W] := hs.re [3, 0, 1, 2, 4, 5] rfl
    have hs3 := hs
    have hwok := hI.wok
    have hwi : H[i].w = true → H.length ≤ 1 := by
      intro hw
      rcases hwok with h | h
      · exact h
      · have := h _ (List.getElem_mem hil)
        rw [hw] at this; cases this
    rw [show IntKind.i64.wrap ((i : Int) + 1) = ((i + 1 : Nat) : Int) by rw [wrap64 _ (by omega)]; omega]
    have ih' := ih h ⟨x, y, hs3.drop⟩
    simp only [Option.map_some, Option.getD_some, Bool.true_and]
    (simp only [un2_tuple, unB_bool, Bool.not_true, mIf_false, mBind_ap]; refine Sep.ldB hs 0 rfl rfl ?_; rw [mRet_ap])
    refine mIf_neg (by simp) ?_
    (refine Sep.ldB hs 0 rfl rfl ?_; simp only [mBind_ap])
    refine mIf_intro (fun hc => ?_) (fun hc => ?_)
    · have := hwi hc
      (rw [mRet_ap]; rw [mRet_ap])
      refine mIf_neg (by rw [hrh]; simp; omega) ?_
      exact ih'
    · (rw [mRet_ap]; rw [mRet_ap]; simp only [mIf_false])
      exact ih'
theorem k35 (next : ∀ h, Lk h0 [aRow P.enc 2 rh H, aRow P.enc 2 rw_ W] b H W h → K_signalboxlaw38_RwlockPlays_8 (some ⟨b, 0, none⟩) rh rw_ ls (ls.n : Int) (IntKind.i64.wrap ((k : Int) + 1)) h (WFin h0)) (hI : RInv (k + 1) H W) (hk : k ≤ 120) (h : Hp)
    (hs : Lk h0 [aRow P.enc 2 rh H, aRow P.enc 2 rw_ W] b H W h) : K_signalboxlaw38_RwlockPlays_35 (some ⟨b, 0, none⟩) rh rw_ ls (ls.n : Int) (k : Int) h (WFin h0) := by
  have hlen := hI.len
  apply S_signalboxlaw38_RwlockPlays_35
  unfold B_signalboxlaw38_RwlockPlays_35
  rw [mBind_ap]
  refine (Holders_s hs (by omega)).mono ?_
  rintro v h ⟨o, rfl, hs⟩
  simp only [unL_slice]
  rw [mBind_ap]
  have hx := hs
  obtain ⟨x, y, hx⟩ := hx
  refine (same_s (hx.rowE 4 rfl (fun _ => rfl) (by omega)) (hx.rowE 3 rfl (fun _ => rfl) (by omega)) rfl (by omega)).mono ?_
  rintro v h' ⟨rfl, rfl⟩
  simp only [unB_bool]
  rw [mBind_ap]
  refine mIf_neg rfl ?_
  rw [mBind_ap]
  refine (Waiting_s hs (by omega)).mono ?_
  rintro v h ⟨o2, rfl, x, y, hs⟩
  simp only [unL_slice]
  rw [mBind_ap]
  refine (same_s (hs.rowE 6 rfl (fun _ => rfl) (by omega)) (hs.rowE 3 rfl (fun _ => rfl) (by omega)) rfl (by omega)).mono ?_
  rintro v h' ⟨rfl, rfl⟩
  simp only [unB_bool]
  have hs : Sep h0 h' [aRow encZ 1 o2 (W.map (·.who)), aRow encZ 1 o (H.map (·.who)), aLk b x y, aRow P.enc 2 x H, aRow P.enc 2 y W, aRow P.enc 2 rh H, aRow P.enc 2 rw_ W] := hs.re [3, 4, 0, 1, 2, 5, 6] rfl
  have hk38 := k38 next hI hk H.length 0 h' (by omega) ⟨x, y, hs.drop.drop⟩
  (rw [mRet_ap]; simp only [Bool.not_true, mIf_false])
  exact hk38
theorem k28L {who : Int} {wrt : Bool} (next : ∀ h, Lk h0 [aRow P.enc 2 rh H, aRow P.enc 2 rw_ W] b H W h → K_signalboxlaw38_RwlockPlays_8 (some ⟨b, 0, none⟩) rh rw_ ls (ls.n : Int) (IntKind.i64.wrap ((k : Int) + 1)) h (WFin h0)) (hI : RInv (k + 1) H W) (hk : k ≤ 120) (hlen0 : hold.length + wait.length ≤ 256) (h : Hp)
    (hL : (e = 6 ∧ leaveR hold wait who = none ∧ H = hold ∧ W = wait) ∨ (e = 0 ∧ ∃ g, leaveR hold wait who = some (H, W, g) ∧ ∃ wn : Nat, was = wn ∧ wn ≤ H.length ∧ (H.drop wn).map (·.who) = g))
    (hs : Sep h0 h [aBlk ab (RAct.enc ⟨true, who, wrt⟩), aLk b x y, aRow P.enc 2 x hold, aRow P.enc 2 y wait, aRow P.enc 2 rh H, aRow P.enc 2 rw_ W]) :
    K_signalboxlaw38_RwlockPlays_28 (some ⟨b, 0, none⟩) rh rw_ ⟨ab, 0, none⟩ was e ls (ls.n : Int) (k : Int) h (WFin h0) := by
  have hlen := hI.len
  apply S_signalboxlaw38_RwlockPlays_28
  unfold B_signalboxlaw38_RwlockPlays_28
  (refine Sep.ldB hs 0 rfl rfl ?_; simp only [add_mk, Nat.zero_add, mIf_true]; refine Sep.ldI hs 0 rfl rfl ?_; simp only [mBind_ap])
  have hs : Lk h0 [aBlk ab (RAct.enc ⟨true, who, wrt⟩), aRow P.enc 2 rh H, aRow P.enc 2 rw_ W] b hold wait h := ⟨x, y, hs.re [1, 2, 3, 0, 4, 5] rfl⟩
  refine (Leave_s hs hlen0 who).mono ?_
  intro v h hv
  rcases hL with ⟨rfl, hn, rfl, rfl⟩ | ⟨rfl, g, hg, wn, rfl, hwn, hd⟩
  · rw [hn] at hv
    obtain ⟨rfl, x, y, hs⟩ := hv
    have hs : Sep h0 h [aBlk ab (RAct.enc ⟨true, who, wrt⟩), aLk b x y, aRow P.enc 2 x H, aRow P.enc 2 y W, aRow P.enc 2 rh H, aRow P.enc 2 rw_ W] := hs.re [3, 0, 1, 2, 4, 5] rfl
    have hk35 := k35 next hI hk h ⟨x, y, hs.drop⟩
    (simp only [un2_tuple, unI_int, unL_slice, mBind_ap])
    refine mIf_neg rfl ?_
    (simp only [mBind_ap])
    refine mIf_neg rfl ?_
    (rw [mRet_ap]; rw [mRet_ap]; simp only [mIf_false]; rw [mRet_ap])
    exact hk35
  · rw [hg] at hv
    obtain ⟨o, rfl, x, y, hs⟩ := hv
    have hs : Sep h0 h [aRow encZ 1 o g, aBlk ab (RAct.enc ⟨true, who, wrt⟩), aLk b x y, aRow P.enc 2 x H, aRow P.enc 2 y W, aRow P.enc 2 rh H, aRow P.enc 2 rw_ W] := hs.re [0, 4, 1, 2, 3, 5, 6] rfl
    have hk35 := k35 next hI hk h ⟨x, y, hs.drop.drop⟩
    have hrh := hs.rowLen 5 rfl
    simp only [un2_tuple, unL_slice, unI_int]
    rw [mBind_ap]
    refine mIf_neg rfl ?_
    rw [mBind_ap]
    refine mIf_pos rfl ?_
    refine hs.slc 5 (lo := (wn : Int)) (hi := (rh.n : Int)) (mx := (rh.c : Int)) rfl (fun _ => rfl) (by omega) (by omega) (by omega) rfl fun s' hn' hs' => ?_
    rw [mBind_ap]
    refine (same_s (hs'.rowE 5 rfl (fun _ => rfl) (by omega)) (hs'.rowE 0 rfl (fun _ => rfl) (by omega)) (by rw [List.take_of_length_le (by omega), Int.toNat_natCast]; exact hd) (by simp; omega)).mono ?_
    rintro v h' ⟨rfl, rfl⟩
    (simp only [mBind_ap, unB_bool, Bool.not_true]; rw [mRet_ap]; rw [mRet_ap]; simp only [mIf_false]; rw [mRet_ap])
    exact hk35
theorem k28A {who : Int} {wrt : Bool} (next : ∀ h, Lk h0 [aRow P.enc 2 rh H, aRow P.enc 2 rw_ W] b H W h → K_signalboxlaw38_RwlockPlays_8 (some ⟨b, 0, none⟩) rh rw_ ls (ls.n : Int) (IntKind.i64.wrap ((k : Int) + 1)) h (WFin h0)) (hI : RInv (k + 1) H W) (hk : k ≤ 120) (hlen0 : hold.length + wait.length ≤ 256) (h : Hp)
    (hA : (e = 10 ∧ askR hold wait ⟨who, wrt⟩ = ((false, 10), (hold, wait)) ∧ H = hold ∧ W = wait) ∨ (e = 0 ∧ askR hold wait ⟨who, wrt⟩ = ((decide (fnd who H 0 ≥ 0), 0), (H, W))))
    (hs : Sep h0 h [aBlk ab (RAct.enc ⟨false, who, wrt⟩), aLk b x y, aRow P.enc 2 x hold, aRow P.enc 2 y wait, aRow P.enc 2 rh H, aRow P.enc 2 rw_ W]) :
    K_signalboxlaw38_RwlockPlays_28 (some ⟨b, 0, none⟩) rh rw_ ⟨ab, 0, none⟩ was e ls (ls.n : Int) (k : Int) h (WFin h0) := by
  have hlen := hI.len
  apply S_signalboxlaw38_RwlockPlays_28
  unfold B_signalboxlaw38_RwlockPlays_28
  (refine Sep.ldB hs 0 rfl rfl ?_; simp only [add_mk, Nat.zero_add, mIf_false]; refine Sep.ldI hs 0 rfl rfl ?_; refine Sep.ldB hs 0 rfl rfl ?_; simp only [mBind_ap])
  have hs : Lk h0 [aBlk ab (RAct.enc ⟨false, who, wrt⟩), aRow P.enc 2 rh H, aRow P.enc 2 rw_ W] b hold wait h := ⟨x, y, hs.re [1, 2, 3, 0, 4, 5] rfl⟩
  refine (Ask_s hs hlen0 ⟨who, wrt⟩).mono ?_
  rintro v h ⟨rfl, hs⟩
  rcases hA with ⟨rfl, hn, rfl, rfl⟩ | ⟨rfl, hn⟩
  · rw [hn] at hs ⊢
    obtain ⟨x, y, hs⟩ := hs
    have hs : Sep h0 h [aBlk ab (RAct.enc ⟨false, who, wrt⟩), aLk b x y, aRow P.enc 2 x H, aRow P.enc 2 y W, aRow P.enc 2 rh H, aRow P.enc 2 rw_ W] := hs.re [3, 0, 1, 2, 4, 5] rfl
    have hk35 := k35 next hI hk h ⟨x, y, hs.drop⟩
    (simp only [un2_tuple, unI_int, unB_bool, mBind_ap])
    refine mIf_neg rfl ?_
    (simp only [mBind_ap])
    refine mIf_neg rfl ?_
    (rw [mRet_ap]; rw [mRet_ap])
    exact hk35
  · rw [hn] at hs ⊢
    obtain ⟨x, y, hs⟩ := hs
    have hs : Sep h0 h [aBlk ab (RAct.enc ⟨false, who, wrt⟩), aLk b x y, aRow P.enc 2 x H, aRow P.enc 2 y W, aRow P.enc 2 rh H, aRow P.enc 2 rw_ W] := hs.re [3, 0, 1, 2, 4, 5] rfl
    simp only [un2_tuple, unB_bool, unI_int]
    rw [mBind_ap]
    refine mIf_neg rfl ?_
    rw [mBind_ap]
    refine mIf_pos rfl ?_
    (refine Sep.ldI hs 0 rfl rfl ?_; simp only [mBind_ap])
    refine (place_s (hs.rowE 4 rfl (fun _ => rfl) (by omega)) (by omega)).mono ?_
    rintro v h ⟨rfl, hs'⟩
    have hs := hs.rebase hs'
    simp only [List.nil_append] at hs
    have hk35 := k35 next hI hk h ⟨x, y, hs.drop⟩
    (simp only [unI_int]; rw [mRet_ap]; rw [mRet_ap])
    refine mIf_neg (by simp) ?_
    exact hk35
theorem rm_yes {who : Int} {l : List P} {i : Nat} (hf : fnd who l 0 = i) : rm who l = l.eraseIdx i := by
  unfold rm
  rw [hf, if_neg (by omega), Int.toNat_natCast]
theorem fnd_ge {who : Int} {l : List P} {p : P} (hp : p ∈ l) (hw : p.who = who) : fnd who l 0 ≥ 0 := by
  rcases fnd_spec who l 0 with ⟨_, h2⟩ | ⟨i, hi, h1, _⟩
  · exact absurd hw (h2 p hp)
  · omega
theorem fnd_nat {who : Int} {l : List P} (h : ¬ fnd who l 0 < 0) : ∃ i : Nat, i < l.length ∧ fnd who l 0 = i ∧ ∃ p ∈ l, p.who = who := by
  rcases fnd_spec who l 0 with ⟨h1, _⟩ | ⟨i, hi, h1, h2⟩
  · omega
  · exact ⟨i, hi, by omega, _, List.getElem_mem hi, h2⟩
theorem k11 {leave wrt : Bool} {who : Int} (hk : k < 120)
    (next : ∀ h rh rw_ H W, RInv (k + 1) H W → Lk h0 [aRow P.enc 2 rh H, aRow P.enc 2 rw_ W] b H W h → K_signalboxlaw38_RwlockPlays_8 (some ⟨b, 0, none⟩) rh rw_ ls (ls.n : Int) (IntKind.i64.wrap ((k : Int) + 1)) h (WFin h0)) (hI : RInv k hold wait) (h : Hp)
    (hs : Sep h0 h [aBlk ab (RAct.enc ⟨leave, who, wrt⟩), aLk b x y, aRow P.enc 2 x hold, aRow P.enc 2 y wait, aRow P.enc 2 rh hold, aRow P.enc 2 rw_ wait]) :
    K_signalboxlaw38_RwlockPlays_11 (some ⟨b, 0, none⟩) rh rw_ ⟨ab, 0, none⟩ (fnd who hold 0) (fnd who wait 0) ls (ls.n : Int) (k : Int) h (WFin h0) := by
  have hlen := hI.len
  have hrh := hs.rowLen 4 rfl
  have hrw := hs.rowLen 5 rfl
  have hI' : RInv (k + 1) hold wait := ⟨hI.st, hI.wok, hI.nd, by omega⟩
  have stay := inv_stay hI []
  apply S_signalboxlaw38_RwlockPlays_11
  unfold B_signalboxlaw38_RwlockPlays_11
  cases leave with
  | true =>
    (refine Sep.ldB hs 0 rfl rfl ?_; simp only [Bool.true_and, add_mk, Nat.zero_add])
    refine mIf_intro (fun hc => ?_) (fun hc => ?_)
    · simp only [Bool.true_and, Bool.and_eq_true, decide_eq_true_eq] at hc
      refine k23 (by omega) wait hold [] h rh rw_ (by omega) (fun h rh rw_ hs => ?_) hs
      rw [stay] at hs
      exact k28L (fun h hs => next h rh rw_ hold wait hI' hs) hI' (by omega) (by omega) h (.inl ⟨rfl, by unfold leaveR; rw [if_neg (by omega), if_neg (by omega)], rfl, rfl⟩) hs
    · simp only [Bool.true_and, Bool.and_eq_false_iff, decide_eq_false_iff_not] at hc
      (refine Sep.ldB hs 0 rfl rfl ?_; simp only [Bool.true_and])
      refine mIf_intro (fun hc2 => ?_) (fun hc2 => ?_)
      · simp only [Bool.true_and, decide_eq_true_eq] at hc2
        obtain ⟨i, hi, hf, _⟩ := fnd_nat (who := who) (l := hold) (by omega)
        rw [hf, wrap64 _ (by omega), wrap64 _ (by omega)]
        refine refdel hs 4 rfl hi (by omega) fun s' h hs => ?_
        have hs : Sep h0 h [aRow P.enc 2 rh hold, aBlk ab (RAct.enc ⟨true, who, wrt⟩), aLk b x y, aRow P.enc 2 x hold, aRow P.enc 2 y wait, aRow P.enc 2 s' (hold.eraseIdx i), aRow P.enc 2 rw_ wait] := hs.re [5, 1, 2, 3, 4, 0, 6] rfl
        have hel : (hold.eraseIdx i).length = hold.length - 1 := List.length_eraseIdx_of_lt hi
        have hIg : RInv (k + 1) (grantR (hold.eraseIdx i) wait []).1 (grantR (hold.eraseIdx i) wait []).2.1 := by
          refine inv_grant ?_ ?_ (by omega) []
          · have := WOk.rm (who := who) hI.wok
            rwa [rm_yes hf] at this
          · have hsub : ((hold.eraseIdx i ++ wait).map (·.who)).Sublist ((hold ++ wait).map (·.who)) := ((List.eraseIdx_sublist hold i).append (List.Sublist.refl wait)).map _
            exact hI.nd.sublist hsub
        refine k23 (by omega) wait (hold.eraseIdx i) [] h s' rw_ (by omega) (fun h rh rw_ hs => ?_) hs.drop
        refine k28L (fun h hs => next h rh rw_ _ _ hIg hs) hIg (by omega) (by omega) h (.inr ⟨rfl, (grantR (hold.eraseIdx i) wait []).2.2, ?_, hold.length - 1, by omega, ?_, ?_⟩) hs
        · unfold leaveR
          rw [if_pos (by omega), rm_yes hf]
        · obtain ⟨g, W, h1, h2, h3⟩ := grant_spec wait (hold.eraseIdx i) []
          rw [h1]; simp only [List.length_append]; omega
        · obtain ⟨g, W, h1, h2, h3⟩ := grant_spec wait (hold.eraseIdx i) []
          rw [h1]
          show ((hold.eraseIdx i ++ g).drop (hold.length - 1)).map (·.who) = [] ++ g.map (·.who)
          rw [← hel, List.drop_left' rfl]
          rfl
      · simp only [Bool.true_and, decide_eq_false_iff_not] at hc2
        (refine Sep.ldB hs 0 rfl rfl ?_; simp only [mIf_true])
        obtain ⟨i, hi, hf, _⟩ := fnd_nat (who := who) (l := wait) (by omega)
        rw [hf, wrap64 _ (by omega)]
        refine refdel hs 5 rfl hi (by omega) fun s' h hs => ?_
        have hs : Sep h0 h [aRow P.enc 2 rw_ wait, aBlk ab (RAct.enc ⟨true, who, wrt⟩), aLk b x y, aRow P.enc 2 x hold, aRow P.enc 2 y wait, aRow P.enc 2 rh hold, aRow P.enc 2 s' (wait.eraseIdx i)] := hs.re [6, 1, 2, 3, 4, 5, 0] rfl
        have hel : (wait.eraseIdx i).length = wait.length - 1 := List.length_eraseIdx_of_lt hi
        have hIg : RInv (k + 1) (grantR hold (wait.eraseIdx i) []).1 (grantR hold (wait.eraseIdx i) []).2.1 := by
          refine inv_grant hI.wok ?_ (by omega) []
          have hsub : ((hold ++ wait.eraseIdx i).map (·.who)).Sublist ((hold ++ wait).map (·.who)) := ((List.Sublist.refl hold).append (List.eraseIdx_sublist wait i)).map _
          exact hI.nd.sublist hsub
        refine k23 (by omega) (wait.eraseIdx i) hold [] h rh s' (by omega) (fun h rh' rw_ hs => ?_) hs.drop
        refine k28L (fun h hs => next h rh' rw_ _ _ hIg hs) hIg (by omega) (by omega) h (.inr ⟨rfl, (grantR hold (wait.eraseIdx i) []).2.2, ?_, hold.length, by omega, ?_, ?_⟩) hs
        · unfold leaveR
          rw [if_neg (by omega), if_pos (by omega), rm_yes hf]
        · obtain ⟨g, W, h1, h2, h3⟩ := grant_spec (wait.eraseIdx i) hold []
          rw [h1]; simp only [List.length_append]; omega
        · obtain ⟨g, W, h1, h2, h3⟩ := grant_spec (wait.eraseIdx i) hold []
          rw [h1]
          show ((hold ++ g).drop hold.length).map (·.who) = [] ++ g.map (·.who)
          rw [List.drop_left' rfl]
          rfl
  | false =>
    (refine Sep.ldB hs 0 rfl rfl ?_; simp only [Bool.false_and, add_mk, Nat.zero_add, mIf_false]; refine Sep.ldB hs 0 rfl rfl ?_; simp only [Bool.false_and, mIf_false]; refine Sep.ldB hs 0 rfl rfl ?_; simp only [mIf_false])
    refine mIf_intro (fun hc => ?_) (fun hc => ?_)
    · simp only [Bool.or_eq_true, decide_eq_true_eq] at hc
      refine k23 (by omega) wait hold [] h rh rw_ (by omega) (fun h rh rw_ hs => ?_) hs
      rw [stay] at hs
      exact k28A (fun h hs => next h rh rw_ hold wait hI' hs) hI' (by omega) (by omega) h (.inl ⟨rfl, by unfold askR; rw [if_pos hc], rfl, rfl⟩) hs
    · simp only [Bool.or_eq_false_iff, decide_eq_false_iff_not] at hc
      (refine Sep.ldI hs 0 rfl rfl ?_; refine Sep.ldB hs 0 rfl rfl ?_; (refine Sep.new hs fun nb h hs => ?_; try simp only [List.toList_toArray] at hs))
      refine hs.app1 6 0 ⟨who, wrt⟩ rfl rfl (fun _ => rfl) (P.one ⟨who, wrt⟩) rfl (by omega) (by omega) fun s' h hn' hs => ?_
      simp only [List.set_cons_succ, List.set_cons_zero] at hs
      have hno : ∀ p ∈ hold ++ wait, p.who ≠ who := by
        intro p hp hw
        rcases List.mem_append.1 hp with hp | hp
        · exact hc.1 (fnd_ge hp hw)
        · exact hc.2 (fnd_ge hp hw)
      have hIg : RInv (k + 1) (grantR hold (wait ++ [⟨who, wrt⟩]) []).1 (grantR hold (wait ++ [⟨who, wrt⟩]) []).2.1 := by
        refine inv_grant hI.wok ?_ (by simp; omega) []
        rw [← List.append_assoc, List.map_append, List.nodup_append]
        refine ⟨hI.nd, by simp, ?_⟩
        intro z hz z' hz'
        obtain ⟨p, hp, rfl⟩ := List.mem_map.1 hz
        simp only [List.map_cons, List.map_nil, List.mem_singleton] at hz'
        rw [hz']
        exact hno p hp
      refine k23 (by omega) (wait ++ [⟨who, wrt⟩]) hold [] h rh s' (by simp; omega) (fun h rh' rw_ hs => ?_) hs.drop
      refine k28A (fun h hs => next h rh' rw_ _ _ hIg hs) hIg (by omega) (by omega) h (.inr ⟨rfl, ?_⟩) hs
      unfold askR
      rw [if_neg (by show ¬ (fnd who hold 0 ≥ 0 ∨ fnd who wait 0 ≥ 0); omega), if_neg (by omega)]
theorem k11s {a : RAct} (hk : k < 120)
    (next : ∀ h rh rw_ H W, RInv (k + 1) H W → Lk h0 [aRow P.enc 2 rh H, aRow P.enc 2 rw_ W] b H W h → K_signalboxlaw38_RwlockPlays_8 (some ⟨b, 0, none⟩) rh rw_ ls (ls.n : Int) (IntKind.i64.wrap ((k : Int) + 1)) h (WFin h0)) (hI : RInv k hold wait) (h : Hp)
    (hs : Sep h0 h [aBlk ab a.enc, aLk b x y, aRow P.enc 2 x hold, aRow P.enc 2 y wait, aRow P.enc 2 rh hold, aRow P.enc 2 rw_ wait]) :
    K_signalboxlaw38_RwlockPlays_11 (some ⟨b, 0, none⟩) rh rw_ ⟨ab, 0, none⟩ (fnd a.who hold 0) (fnd a.who wait 0) ls (ls.n : Int) (k : Int) h (WFin h0) := by
  obtain ⟨lv, who, wrt⟩ := a
  exact k11 hk next hI h hs
theorem k8 (hl : RdE h0.size h0 RAct.enc 3 ls l) (hlen : l.length ≤ 120) : ∀ (d k : Nat) (h : Hp) (rh rw_ : Sl) (hold wait : List P), k + d = l.length → RInv k hold wait → Lk h0 [aRow P.enc 2 rh hold, aRow P.enc 2 rw_ wait] b hold wait h →
    K_signalboxlaw38_RwlockPlays_8 (some ⟨b, 0, none⟩) rh rw_ ls (ls.n : Int) (k : Int) h (WFin h0)
  | 0, k, h, rh, rw_, hold, wait, hk, hI, hs => by
    have hln := hl.n
    have hil := hI.len
    apply S_signalboxlaw38_RwlockPlays_8
    unfold B_signalboxlaw38_RwlockPlays_8
    refine mIf_neg (by simp; omega) ?_
    rw [mBind_ap]
    refine (Holds_s hs (by omega) (-99999)).mono ?_
    rintro v h ⟨rfl, x, y, hs⟩
    simp only [un2_tuple, unB_bool]
    rw [mBind_ap]
    refine (place_s (hs.rowE 3 rfl (fun _ => rfl) (by omega)) (by omega)).mono ?_
    rintro v h ⟨rfl, hs'⟩
    have hs := hs.rebase hs'
    simp only [unI_int]
    exact ⟨by simp, hs.under⟩
  | d + 1, k, h, rh, rw_, hold, wait, hk, hI, hs => by
    have ih := k8 hl hlen d (k + 1)
    have hln := hl.n
    have hil := hI.len
    have hkl : k < l.length := by omega
    obtain ⟨x, y, hs⟩ := hs
    apply S_signalboxlaw38_RwlockPlays_8
    unfold B_signalboxlaw38_RwlockPlays_8
    refine mIf_pos (by simp; omega) ?_
    have fin : ∀ h ab, Sep h0 h [aBlk ab l[k].enc, aLk b x y, aRow P.enc 2 x hold, aRow P.enc 2 y wait, aRow P.enc 2 rh hold, aRow P.enc 2 rw_ wait] → K_signalboxlaw38_RwlockPlays_11 (some ⟨b, 0, none⟩) rh rw_ ⟨ab, 0, none⟩ (fnd l[k].who hold 0) (fnd l[k].who wait 0) ls (ls.n : Int) (k : Int) h (WFin h0) := by
      intro h ab hs
      refine k11s (by omega) ?_ hI h hs
      intro h rh rw_ H W hI2 hs2
      rw [show IntKind.i64.wrap ((k : Int) + 1) = ((k + 1 : Nat) : Int) by rw [wrap64 _ (by omega)]; omega]
      exact ih h rh rw_ H W (by omega) hI2 hs2
    (refine Sep.argEn hs hl (by first | omega | (simp only [List.length_set, List.length_map, List.length_replicate, List.length_append, List.length_cons, List.length_nil, List.length_reverse, List.length_range]; omega) | (simp; omega)) fun aa haa => ?_; refine Arg.ldB0 haa rfl ?_; refine Arg.ldI haa rfl ?_; refine Arg.ldB haa rfl ?_; (refine Sep.new hs fun nb h hs => ?_; try simp only [List.toList_toArray] at hs); (refine Sep.st hs 0 rfl rfl rfl fun h hs => ?_; simp only [List.set_cons_zero, List.set_cons_succ] at hs); (refine Sep.st hs 0 rfl rfl rfl fun h hs => ?_; simp only [List.set_cons_zero, List.set_cons_succ] at hs); (refine Sep.st hs 0 rfl rfl rfl fun h hs => ?_; simp only [List.set_cons_zero, List.set_cons_succ] at hs); simp only [add_mk, Nat.zero_add])
    repeat' (first | with_reducible refine mAnd_intro ?_ ?_ | (first | (((with_reducible refine gd_mLdI ?_); refine Sep.ldI hs 0 rfl rfl ?_)) | ((simp only [mBind_ap])) | ((simp only [unI_int])) | ((simp only [unI_int, mBind_ap]))) | (refine (place_s (hs.rowE 4 rfl (fun _ => rfl) (by omega)) (by omega)).mono ?_; rintro v h ⟨rfl, hs'⟩; have hs := hs.rebase hs'; simp only [List.nil_append] at hs) | (refine (place_s (hs.rowE 5 rfl (fun _ => rfl) (by omega)) (by omega)).mono ?_; rintro v h ⟨rfl, hs'⟩; have hs := hs.rebase hs'; simp only [List.nil_append] at hs))
    all_goals exact fin _ _ hs
theorem RwlockPlays_ok (hl : RdE h0.size h0 RAct.enc 3 ls l) (_ho : ∀ x ∈ l, x.ok h0) : N_signalboxlaw38_RwlockPlays ls h0 (WFin h0) := by
  have hs := Sep.init h0
  have hln := hl.n
  apply S_signalboxlaw38_RwlockPlays
  unfold B_signalboxlaw38_RwlockPlays
  rw [mBind_ap]
  refine (wfixed_s hs).mono ?_
  rintro v h ⟨rfl, hs⟩
  simp only [unB_bool]
  refine mIf_neg (by simp) ?_
  refine mIf_dec (fun hc => ⟨rfl, hs.under⟩) (fun hc => ?_)
  rw [mBind_ap]
  have hs := (hs.nilRow' P.enc 2 ⟨none, 0, 0⟩ rfl rfl).nilRow' P.enc 2 ⟨none, 0, 0⟩ rfl rfl
  refine (New_s hs).mono ?_
  rintro v h ⟨b, rfl, hs⟩
  simp only [unP_pointer]
  exact k8 hl (by omega) l.length 0 h _ _ [] [] (by omega) ⟨.inl rfl, .inl (by simp), by simp, by simp⟩ hs
end
end Go.Proofs.Ytbpnpmknamghkaa
