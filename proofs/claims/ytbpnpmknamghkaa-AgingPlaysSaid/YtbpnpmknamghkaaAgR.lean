/- Aging lines: the law AgingPlays. Conditions: none. -/
import Derived.Test.YtbpnpmknamghkaaAgP
import Derived.Test.YtbpnpmknamghkaaAgA
import Derived.Test.YtbpnpmknamghkaaSbW
namespace Go.Proofs.Ytbpnpmknamghkaa
open Go Go.Sb
set_option linter.unusedSimpArgs false
set_option linter.unusedVariables false
def cvT (T : Int) (p : G) : G := ⟨p.who, p.base, T - p.wt⟩
def cv (T : Int) (l : List G) : List G := l.map (cvT T)
theorem cv_len (T : Int) (l : List G) : (cv T l).length = l.length := by simp [cv]
theorem fnd_cv (who T : Int) : ∀ (l : List G) (k : Int), fnd who (cv T l) k = fnd who l k
  | [], _ => rfl
  | p :: l, k => by
    show (if (cvT T p).who = who then k else fnd who (cv T l) (k + 1)) = if p.who = who then k else fnd who l (k + 1)
    rw [fnd_cv who T l]
    rfl
theorem cv_bump (T : Int) (l : List G) : (cv T l).map bump = cv (T + 1) l := by
  unfold cv
  rw [List.map_map]
  congr 1
  funext p
  show (⟨p.who, p.base, T - p.wt + 1⟩ : G) = ⟨p.who, p.base, T + 1 - p.wt⟩
  congr 1
  omega
theorem cv_erase (T : Int) (l : List G) (i : Nat) : (cv T l).eraseIdx i = cv T (l.eraseIdx i) := by
  unfold cv
  rw [List.eraseIdx_eq_take_drop_succ, List.eraseIdx_eq_take_drop_succ, List.map_append, List.map_take, List.map_drop]
structure AInv (k : Nat) (T : Int) (ref : List G) : Prop where
  nd : (ref.map (·.who)).Nodup
  ok : ∀ p ∈ ref, 0 ≤ p.base ∧ p.base ≤ 63 ∧ 0 ≤ p.wt ∧ p.wt ≤ T
  tm : 0 ≤ T ∧ T ≤ k
  len : ref.length ≤ k
theorem AInv.gok {k : Nat} {T : Int} {ref : List G} (hI : AInv k T ref) (hk : k ≤ 1000) : ∀ q ∈ cv T ref, q.ok := by
  intro q hq
  obtain ⟨p, hp, rfl⟩ := List.mem_map.1 hq
  have h1 := hI.ok p hp
  have h2 := hI.tm
  exact ⟨h1.1, h1.2.1, by show 0 ≤ T - p.wt; omega, by show T - p.wt ≤ 100000; omega⟩
theorem AInv.erase {k : Nat} {T : Int} {ref : List G} (hI : AInv k T ref) (i : Nat) : AInv (k + 1) T (ref.eraseIdx i) := by
  refine ⟨hI.nd.sublist ((List.eraseIdx_sublist ref i).map _), fun p hp => hI.ok p (List.mem_of_mem_eraseIdx hp), by have := hI.tm; omega, ?_⟩
  have := hI.len
  rw [List.length_eraseIdx]
  split <;> omega
theorem AInv.eraseT {k : Nat} {T : Int} {ref : List G} (hI : AInv k T ref) (i : Nat) : AInv (k + 1) (T + 1) (ref.eraseIdx i) := by
  have := hI.erase i
  refine ⟨this.nd, fun p hp => ?_, by have := hI.tm; omega, this.len⟩
  have := this.ok p hp
  omega
theorem AInv.more {k : Nat} {T : Int} {ref : List G} (hI : AInv k T ref) : AInv (k + 1) T ref :=
  ⟨hI.nd, hI.ok, by have := hI.tm; omega, by have := hI.len; omega⟩
theorem fnd_at {H : List G} (hnd : (H.map (·.who)).Nodup) {i : Nat} (hi : i < H.length) : fnd H[i].who H 0 = i := by
  rcases fnd_spec H[i].who H 0 with ⟨_, h2⟩ | ⟨j, hj, h1, h2⟩
  · exact absurd rfl (h2 _ (List.getElem_mem hi))
  · have : j = i := by
      have h3 : (H.map (·.who))[j]'(by simpa using hj) = (H.map (·.who))[i]'(by simpa using hi) := by simpa using h2
      exact (List.getElem_inj hnd).1 h3
    omega
theorem fnd_ge {who : Int} {l : List G} {p : G} (hp : p ∈ l) (hw : p.who = who) : fnd who l 0 ≥ 0 := by
  rcases fnd_spec who l 0 with ⟨_, h2⟩ | ⟨i, hi, h1, _⟩
  · exact absurd hw (h2 p hp)
  · omega
theorem fnd_nat {who : Int} {l : List G} (h : fnd who l 0 ≥ 0) : ∃ i : Nat, i < l.length ∧ fnd who l 0 = i := by
  rcases fnd_spec who l 0 with ⟨h1, _⟩ | ⟨i, hi, h1, _⟩
  · omega
  · exact ⟨i, hi, by omega⟩
def lst (who : Int) : List G → Int → Int → Int
  | [], _, a => a
  | p :: l, k, a => lst who l (k + 1) (if p.who = who then k else a)
theorem lst_no {who : Int} : ∀ {l : List G} (k a : Int), (∀ p ∈ l, p.who ≠ who) → lst who l k a = a
  | [], _, _, _ => rfl
  | p :: l, k, a, h => by
    unfold lst
    rw [if_neg (h p (by simp)), lst_no _ _ fun q hq => h q (by simp [hq])]
theorem lst_fnd {who : Int} : ∀ {l : List G} (k : Int), (l.map (·.who)).Nodup → lst who l k (-1) = fnd who l k
  | [], _, _ => rfl
  | p :: l, k, hnd => by
    unfold lst fnd
    rw [List.map_cons, List.nodup_cons] at hnd
    by_cases hc : p.who = who
    · rw [if_pos hc, if_pos hc]
      refine lst_no _ _ fun q hq hw => hnd.1 ?_
      rw [hc, ← hw]
      exact List.mem_map_of_mem hq
    · rw [if_neg hc, if_neg hc, lst_fnd _ hnd.2]
section
variable {h0 : Hp} {ls rr x : Sl} {l : List AAct} {b ab : Nat} {ref : List G} {step T : Int} {k : Nat} {a : AAct}
theorem k59 {az : Sl} (hst : 1 ≤ step) (hk : k < 120) (hI : AInv (k + 1) T ref) (next : ∀ h, Ln h0 [aRow G.enc 3 rr ref] b step (cv T ref) h → K_signalboxlaw51_AgingPlays_13 step (some ⟨b, 0, none⟩) rr T ls (ls.n : Int) (IntKind.i64.wrap ((k : Int) + 1)) h (AFin h0)) : ∀ (d i : Nat) (h : Hp), i + d = ref.length → Ln h0 [aRow encZ 1 az (ref.map (·.who)), aRow G.enc 3 rr ref] b step (cv T ref) h →
    K_signalboxlaw51_AgingPlays_59 step (some ⟨b, 0, none⟩) rr T az ls (ls.n : Int) (k : Int) rr (rr.n : Int) (i : Int) h (AFin h0)
  | 0, i, h, hi, ⟨x, hs⟩ => by
    have hrr := hs.rowLen 3 rfl
    apply S_signalboxlaw51_AgingPlays_59
    unfold B_signalboxlaw51_AgingPlays_59
    refine mIf_neg (by simp; omega) ?_
    have hs : Sep h0 h [aRow encZ 1 az (ref.map (·.who)), aAg b step x, aRow G.enc 3 x (cv T ref), aRow G.enc 3 rr ref] := hs.re [2, 0, 1, 3] rfl
    exact next h ⟨x, hs.drop⟩
  | d + 1, i, h, hi, ⟨x, hs⟩ => by
    have ih := fun h => k59 (az := az) hst hk hI next d (i + 1) h (by omega)
    have hrr := hs.rowLen 3 rfl
    have hlen := hI.len
    have htm := hI.tm
    have hil : i < ref.length := by omega
    have hok := hI.ok _ (List.getElem_mem hil)
    have hf := fnd_at hI.nd hil
    have hg : gd (cv T ref) i = cvT T ref[i] := by
      rw [gd_at (by rw [cv_len]; exact hil)]
      simp [cv]
    have hpb := pri_b hst (hI.gok (by omega) (cvT T ref[i]) (List.mem_map_of_mem (List.getElem_mem hil)))
    have hil2 : i < (ref.map (·.who)).length := by simpa using hil
    have hew : (ref.map (·.who))[i] = ref[i].who := by simp
    apply S_signalboxlaw51_AgingPlays_59
    unfold B_signalboxlaw51_AgingPlays_59
    refine mIf_pos (by simp; omega) ?_
    ((refine Sep.idx hs 3 rfl (by first | omega | (simp only [List.length_set, List.length_map, List.length_replicate, List.length_append, List.length_cons, List.length_nil, List.length_reverse, List.length_range]; omega) | (simp; omega)) (by first | omega | (simp only [List.length_set, List.length_map, List.length_replicate, List.length_append, List.length_cons, List.length_nil, List.length_reverse, List.length_range]; omega) | (simp; omega)) fun aa haa => ?_; try simp only [Int.toNat_natCast] at haa); refine Sep.rldI0 hs 3 rfl (fun _ => rfl) haa (List.getElem?_eq_getElem (by first | omega | (simp only [List.length_set, List.length_map, List.length_replicate, List.length_append, List.length_cons, List.length_nil, List.length_reverse, List.length_range]; omega) | (simp; omega))) rfl ?_; refine Sep.rldI hs 3 rfl (fun _ => rfl) haa (List.getElem?_eq_getElem (by first | omega | (simp only [List.length_set, List.length_map, List.length_replicate, List.length_append, List.length_cons, List.length_nil, List.length_reverse, List.length_range]; omega) | (simp; omega))) rfl ?_; refine Sep.rldI hs 3 rfl (fun _ => rfl) haa (List.getElem?_eq_getElem (by first | omega | (simp only [List.length_set, List.length_map, List.length_replicate, List.length_append, List.length_cons, List.length_nil, List.length_reverse, List.length_range]; omega) | (simp; omega))) rfl ?_; (refine Sep.new hs fun nb h hs => ?_; try simp only [List.toList_toArray] at hs); (refine Sep.st hs 0 rfl rfl rfl fun h hs => ?_; simp only [List.set_cons_zero, List.set_cons_succ] at hs); (refine Sep.st hs 0 rfl rfl rfl fun h hs => ?_; simp only [List.set_cons_zero, List.set_cons_succ] at hs); (refine Sep.st hs 0 rfl rfl rfl fun h hs => ?_; simp only [List.set_cons_zero, List.set_cons_succ] at hs); refine Sep.ldI hs 0 rfl rfl ?_; simp only [add_mk, Nat.zero_add, mBind_ap])
    have hs2 : Ln h0 [aBlk nb (G.enc ref[i]), aRow encZ 1 az (ref.map (·.who)), aRow G.enc 3 rr ref] b step (cv T ref) h := ⟨x, hs.re [1, 2, 0, 3, 4] rfl⟩
    refine (Priority_s hs2 hst (by rw [cv_len]; omega) (hI.gok (by omega)) ref[i].who).mono ?_
    rintro v h ⟨rfl, x, hs⟩
    rw [fnd_cv, hf, if_pos (by omega), Int.toNat_natCast, hg]
    have hs : Sep h0 h [aBlk nb (G.enc ref[i]), aAg b step x, aRow G.enc 3 x (cv T ref), aRow encZ 1 az (ref.map (·.who)), aRow G.enc 3 rr ref] := hs.re [2, 0, 1, 3, 4] rfl
    have ih' := ih h ⟨x, hs.drop⟩
    rw [show IntKind.i64.wrap ((i : Int) + 1) = ((i + 1 : Nat) : Int) by rw [wrap64 _ (by omega)]; omega]
    (simp only [un2_tuple, unB_bool, Bool.not_true, Bool.or_false, unI_int]; (refine Sep.idx hs 3 rfl (by first | omega | (simp only [List.length_set, List.length_map, List.length_replicate, List.length_append, List.length_cons, List.length_nil, List.length_reverse, List.length_range]; omega) | (simp; omega)) (by first | omega | (simp only [List.length_set, List.length_map, List.length_replicate, List.length_append, List.length_cons, List.length_nil, List.length_reverse, List.length_range]; omega) | (simp; omega)) fun aa_1 haa_1 => ?_; try simp only [Int.toNat_natCast] at haa_1); refine Sep.rldI0 hs 3 rfl (fun _ => rfl) haa_1 (List.getElem?_eq_getElem (by first | omega | (simp only [List.length_set, List.length_map, List.length_replicate, List.length_append, List.length_cons, List.length_nil, List.length_reverse, List.length_range]; omega) | (simp; omega))) rfl ?_; refine Sep.ldI hs 0 rfl rfl ?_; simp only [mBind_ap])
    refine mIf_neg (by rw [hew]; simp) ?_
    (refine Sep.ldI hs 0 rfl rfl ?_; refine Sep.ldI hs 0 rfl rfl ?_)
    have hq : pri step (cvT T ref[i]) = ref[i].base + (T - ref[i].wt) / step := rfl
    have hd : (cvT T ref[i]).wt = T - ref[i].wt := rfl
    rw [hd] at hpb
    rw [hq] at hpb ⊢
    rw [wrap64 (T - ref[i].wt) (by omega), Int.tdiv_eq_ediv_of_nonneg (by omega), wrap64 ((T - ref[i].wt) / step) (by omega), wrap64 (ref[i].base + (T - ref[i].wt) / step) (by omega)]
    refine ⟨by omega, ?_⟩
    (rw [mRet_ap])
    refine mIf_neg (by simp) ?_
    exact ih'
theorem tail (hst : 1 ≤ step) (hk : k < 120) (hI : AInv (k + 1) T ref) (next : ∀ h, Ln h0 [aRow G.enc 3 rr ref] b step (cv T ref) h → K_signalboxlaw51_AgingPlays_13 step (some ⟨b, 0, none⟩) rr T ls (ls.n : Int) (IntKind.i64.wrap ((k : Int) + 1)) h (AFin h0)) (h : Hp)
    (hs : Ln h0 [aRow G.enc 3 rr ref] b step (cv T ref) h) :
    (mBind (N_aging_Line_All (some ⟨b, 0, none⟩)) fun r241 =>
    unL r241 fun (x241 : Sl) =>
    mIf ((x241.n : Int) != (rr.n : Int)) (
      mRet (.bool false)) (
      K_signalboxlaw51_AgingPlays_59 step (some ⟨b, 0, none⟩) rr T x241 ls (ls.n : Int) (k : Int) rr (rr.n : Int) (0 : Int))) h (AFin h0) := by
  have hlen := hI.len
  rw [mBind_ap]
  refine (All_s hs (by rw [cv_len]; omega)).mono ?_
  rintro v h ⟨o, rfl, x, hs⟩
  have e : (cv T ref).map (·.who) = ref.map (·.who) := by
    unfold cv; rw [List.map_map]; rfl
  rw [e] at hs
  have h1 := hs.rowLen 2 rfl
  have h2 := hs.rowLen 3 rfl
  rw [List.length_map] at h1
  simp only [unL_slice]
  refine mIf_neg (by rw [h1, h2]; simp) ?_
  exact k59 hst hk hI next ref.length 0 h (by omega) ⟨x, hs⟩
/-- what the reference finds to be the first in turn -/
theorem r35 (hst : 1 ≤ step ∧ step ≤ 1024) (hk : k < 120) (hI : AInv k T ref) {F : Nat}
    (hend : ∀ h, Sep h0 h [aAg b step x, aRow G.enc 3 x (cv T ref), aRow G.enc 3 rr ref] → K_signalboxlaw51_AgingPlays_35 step (some ⟨b, 0, none⟩) rr T (F : Int) ls (ls.n : Int) (k : Int) rr (rr.n : Int) (rr.n : Int) h (AFin h0)) : ∀ (d i best : Nat) (h : Hp), i + d = ref.length → best < ref.length → F = bst step (cv T ref) d i best → Sep h0 h [aAg b step x, aRow G.enc 3 x (cv T ref), aRow G.enc 3 rr ref] →
    K_signalboxlaw51_AgingPlays_35 step (some ⟨b, 0, none⟩) rr T (best : Int) ls (ls.n : Int) (k : Int) rr (rr.n : Int) (i : Int) h (AFin h0)
  | 0, i, best, h, hi, hb, hF, hs => by
    have hrr := hs.rowLen 2 rfl
    have := hend h hs
    rw [hF] at this
    rw [show (i : Int) = (rr.n : Int) by omega]
    exact this
  | d + 1, i, best, h, hi, hb, hF, hs => by
    have ih := fun best h => r35 hst hk hI hend d (i + 1) best h (by omega)
    have hrr := hs.rowLen 2 rfl
    have hlen := hI.len
    have htm := hI.tm
    have hil : i < ref.length := by omega
    have hoi := hI.ok _ (List.getElem_mem hil)
    have hob := hI.ok _ (List.getElem_mem hb)
    have hgi : gd (cv T ref) i = cvT T ref[i] := by
      rw [gd_at (by rw [cv_len]; exact hil)]; simp [cv]
    have hgb : gd (cv T ref) best = cvT T ref[best] := by
      rw [gd_at (by rw [cv_len]; exact hb)]; simp [cv]
    have hpi := pri_b hst.1 (hI.gok (by omega) (cvT T ref[i]) (List.mem_map_of_mem (List.getElem_mem hil)))
    have hpb := pri_b hst.1 (hI.gok (by omega) (cvT T ref[best]) (List.mem_map_of_mem (List.getElem_mem hb)))
    unfold bst at hF
    rw [hgi, hgb] at hF
    apply S_signalboxlaw51_AgingPlays_35
    unfold B_signalboxlaw51_AgingPlays_35
    refine mIf_pos (by simp; omega) ?_
    rw [show IntKind.i64.wrap ((i : Int) + 1) = ((i + 1 : Nat) : Int) by rw [wrap64 _ (by omega)]; omega]
    have hbe : bef step (cvT T ref[i]) (cvT T ref[best]) = (decide (ref[i].base + (T - ref[i].wt) / step > ref[best].base + (T - ref[best].wt) / step) || (ref[i].base + (T - ref[i].wt) / step == ref[best].base + (T - ref[best].wt) / step && decide (ref[i].wt < ref[best].wt))) := by
      show (_ || (_ && decide (T - ref[i].wt > T - ref[best].wt))) = _
      rw [show decide (T - ref[i].wt > T - ref[best].wt) = decide (ref[i].wt < ref[best].wt) from decide_eq_decide.2 (by omega)]
      rfl
    have hqi : pri step (cvT T ref[i]) = ref[i].base + (T - ref[i].wt) / step := rfl
    have hqb : pri step (cvT T ref[best]) = ref[best].base + (T - ref[best].wt) / step := rfl
    have hdi : (cvT T ref[i]).wt = T - ref[i].wt := rfl
    have hdb : (cvT T ref[best]).wt = T - ref[best].wt := rfl
    rw [hqi, hdi] at hpi
    rw [hqb, hdb] at hpb
    have fin : ∀ h (v : Bool), v = bef step (cvT T ref[i]) (cvT T ref[best]) → Sep h0 h [aAg b step x, aRow G.enc 3 x (cv T ref), aRow G.enc 3 rr ref] →
        mIf v (K_signalboxlaw51_AgingPlays_35 step (some ⟨b, 0, none⟩) rr T (i : Int) ls (ls.n : Int) (k : Int) rr (rr.n : Int) ((i + 1 : Nat) : Int)) (K_signalboxlaw51_AgingPlays_35 step (some ⟨b, 0, none⟩) rr T (best : Int) ls (ls.n : Int) (k : Int) rr (rr.n : Int) ((i + 1 : Nat) : Int)) h (AFin h0) := by
      intro h v hv hs
      rw [← hv] at hF
      refine mIf_intro (fun hc => ?_) (fun hc => ?_)
      · rw [if_pos hc] at hF
        exact ih i h hil hF hs
      · rw [if_neg (by rw [hc]; decide)] at hF
        exact ih best h hb hF hs
    rw [hbe] at fin
    ((refine Sep.idx hs 2 rfl (by first | omega | (simp only [List.length_set, List.length_map, List.length_replicate, List.length_append, List.length_cons, List.length_nil, List.length_reverse, List.length_range]; omega) | (simp; omega)) (by first | omega | (simp only [List.length_set, List.length_map, List.length_replicate, List.length_append, List.length_cons, List.length_nil, List.length_reverse, List.length_range]; omega) | (simp; omega)) fun aa haa => ?_; try simp only [Int.toNat_natCast] at haa); refine Sep.rldI0 hs 2 rfl (fun _ => rfl) haa (List.getElem?_eq_getElem (by first | omega | (simp only [List.length_set, List.length_map, List.length_replicate, List.length_append, List.length_cons, List.length_nil, List.length_reverse, List.length_range]; omega) | (simp; omega))) rfl ?_; refine Sep.rldI hs 2 rfl (fun _ => rfl) haa (List.getElem?_eq_getElem (by first | omega | (simp only [List.length_set, List.length_map, List.length_replicate, List.length_append, List.length_cons, List.length_nil, List.length_reverse, List.length_range]; omega) | (simp; omega))) rfl ?_; refine Sep.rldI hs 2 rfl (fun _ => rfl) haa (List.getElem?_eq_getElem (by first | omega | (simp only [List.length_set, List.length_map, List.length_replicate, List.length_append, List.length_cons, List.length_nil, List.length_reverse, List.length_range]; omega) | (simp; omega))) rfl ?_; (refine Sep.new hs fun nb h hs => ?_; try simp only [List.toList_toArray] at hs); (refine Sep.st hs 0 rfl rfl rfl fun h hs => ?_; simp only [List.set_cons_zero, List.set_cons_succ] at hs); (refine Sep.st hs 0 rfl rfl rfl fun h hs => ?_; simp only [List.set_cons_zero, List.set_cons_succ] at hs); (refine Sep.st hs 0 rfl rfl rfl fun h hs => ?_; simp only [List.set_cons_zero, List.set_cons_succ] at hs); simp only [add_mk, Nat.zero_add]; rw [decide_eq_false (by omega), mIf_false]; (refine Sep.idx hs 3 rfl (by first | omega | (simp only [List.length_set, List.length_map, List.length_replicate, List.length_append, List.length_cons, List.length_nil, List.length_reverse, List.length_range]; omega) | (simp; omega)) (by first | omega | (simp only [List.length_set, List.length_map, List.length_replicate, List.length_append, List.length_cons, List.length_nil, List.length_reverse, List.length_range]; omega) | (simp; omega)) fun aa_1 haa_1 => ?_; try simp only [Int.toNat_natCast] at haa_1); refine Sep.rldI0 hs 3 rfl (fun _ => rfl) haa_1 (List.getElem?_eq_getElem (by first | omega | (simp only [List.length_set, List.length_map, List.length_replicate, List.length_append, List.length_cons, List.length_nil, List.length_reverse, List.length_range]; omega) | (simp; omega))) rfl ?_; refine Sep.rldI hs 3 rfl (fun _ => rfl) haa_1 (List.getElem?_eq_getElem (by first | omega | (simp only [List.length_set, List.length_map, List.length_replicate, List.length_append, List.length_cons, List.length_nil, List.length_reverse, List.length_range]; omega) | (simp; omega))) rfl ?_; refine Sep.rldI hs 3 rfl (fun _ => rfl) haa_1 (List.getElem?_eq_getElem (by first | omega | (simp only [List.length_set, List.length_map, List.length_replicate, List.length_append, List.length_cons, List.length_nil, List.length_reverse, List.length_range]; omega) | (simp; omega))) rfl ?_; (refine Sep.new hs fun nb_1 h hs => ?_; try simp only [List.toList_toArray] at hs); (refine Sep.st hs 0 rfl rfl rfl fun h hs => ?_; simp only [List.set_cons_zero, List.set_cons_succ] at hs); (refine Sep.st hs 0 rfl rfl rfl fun h hs => ?_; simp only [List.set_cons_zero, List.set_cons_succ] at hs); (refine Sep.st hs 0 rfl rfl rfl fun h hs => ?_; simp only [List.set_cons_zero, List.set_cons_succ] at hs); refine Sep.ldI hs 1 rfl rfl ?_; refine Sep.ldI hs 1 rfl rfl ?_; simp only [add_mk, Nat.zero_add])
    refine ⟨by omega, ?_⟩
    (refine Sep.ldI hs 0 rfl rfl ?_; refine Sep.ldI hs 0 rfl rfl ?_)
    refine ⟨by omega, ?_⟩
    rw [wrap64 (T - ref[i].wt) (by omega), Int.tdiv_eq_ediv_of_nonneg (a := T - ref[i].wt) (by omega), wrap64 ((T - ref[i].wt) / step) (by omega), wrap64 (ref[i].base + (T - ref[i].wt) / step) (by omega)]
    rw [wrap64 (T - ref[best].wt) (by omega), Int.tdiv_eq_ediv_of_nonneg (a := T - ref[best].wt) (by omega), wrap64 ((T - ref[best].wt) / step) (by omega), wrap64 (ref[best].base + (T - ref[best].wt) / step) (by omega)]
    rw [mBind_ap]
    refine mIf_intro (fun hc => ?_) (fun hc => ?_)
    · exact fin h true (by rw [hc]; rfl) hs.drop.drop
    · rw [hc] at fin
      rw [mBind_ap]
      refine mIf_intro (fun hc2 => ?_) (fun hc2 => ?_)
      · rw [hc2] at fin
        (refine Sep.ldI hs 1 rfl rfl ?_; refine Sep.ldI hs 0 rfl rfl ?_; rw [mRet_ap]; rw [mRet_ap])
        exact fin h _ rfl hs.drop.drop
      · rw [hc2] at fin
        exact fin h false rfl hs.drop.drop
def NextA (h0 : Hp) (step : Int) (b : Nat) (ls : Sl) (k : Nat) : Prop := ∀ h rr T ref, AInv (k + 1) T ref → Ln h0 [aRow G.enc 3 rr ref] b step (cv T ref) h → K_signalboxlaw51_AgingPlays_13 step (some ⟨b, 0, none⟩) rr T ls (ls.n : Int) (IntKind.i64.wrap ((k : Int) + 1)) h (AFin h0)
theorem k30 {ref' : List G} {want : Int} (hst : 1 ≤ step ∧ step ≤ 1024) (hk : k < 120) (hlen : ref.length ≤ 1000) (hI : AInv (k + 1) T ref') (hj : joinR (cv T ref) a.who a.base = (want, cv T ref')) (next : NextA h0 step b ls k) (h : Hp)
    (hs : Sep h0 h [aBlk ab a.enc, aAg b step x, aRow G.enc 3 x (cv T ref), aRow G.enc 3 rr ref']) :
    K_signalboxlaw51_AgingPlays_30 step (some ⟨b, 0, none⟩) rr T ⟨ab, 0, none⟩ want ls (ls.n : Int) (k : Int) h (AFin h0) := by
  have htl := fun h hs => tail (rr := rr) hst.1 hk hI (fun h hs => next h rr T ref' hI hs) h hs
  obtain ⟨kd, who, base⟩ := a
  apply S_signalboxlaw51_AgingPlays_30
  unfold B_signalboxlaw51_AgingPlays_30
  (refine Sep.ldI hs 0 rfl rfl ?_; refine Sep.ldI hs 0 rfl rfl ?_; simp only [mBind_ap])
  have hs : Ln h0 [aBlk ab (AAct.enc ⟨kd, who, base⟩), aRow G.enc 3 rr ref'] b step (cv T ref) h := ⟨x, hs.re [1, 2, 0, 3] rfl⟩
  refine (Join_s hs (by rw [cv_len]; exact hlen) who base).mono ?_
  rintro v h ⟨rfl, hs⟩
  rw [hj] at hs ⊢
  simp only [unI_int]
  refine mIf_neg (by simp) ?_
  obtain ⟨x, hs⟩ := hs
  have hs : Sep h0 h [aBlk ab (AAct.enc ⟨kd, who, base⟩), aAg b step x, aRow G.enc 3 x (cv T ref'), aRow G.enc 3 rr ref'] := hs.re [2, 0, 1, 3] rfl
  exact htl h ⟨x, hs.drop⟩
theorem kturn (hst : 1 ≤ step ∧ step ≤ 1024) (hk : k < 120) (hI : AInv k T ref) (next : NextA h0 step b ls k) (h : Hp)
    (hs : Sep h0 h [aAg b step x, aRow G.enc 3 x (cv T ref), aRow G.enc 3 rr ref]) :
    K_signalboxlaw51_AgingPlays_35 step (some ⟨b, 0, none⟩) rr T (-1) ls (ls.n : Int) (k : Int) rr (rr.n : Int) 0 h (AFin h0) := by
  have hrr := hs.rowLen 2 rfl
  have hlen := hI.len
  have htm := hI.tm
  by_cases hr0 : ref.length = 0
  · have htl := fun h hs => tail (rr := rr) hst.1 hk hI.more (fun h hs => next h rr T ref hI.more hs) h hs
    have hr : ref = [] := List.length_eq_zero_iff.1 hr0
    subst hr
    apply S_signalboxlaw51_AgingPlays_35
    unfold B_signalboxlaw51_AgingPlays_35
    refine mIf_neg (by rw [hrr]; rfl) ?_
    have hs2 : Ln h0 [aRow G.enc 3 rr []] b step [] h := ⟨x, hs⟩
    rw [mBind_ap]
    refine (Turn_0 hs2).mono ?_
    rintro v h ⟨rfl, hs⟩
    have htl' := htl h hs
    simp only [un2_tuple, unI_int, unB_bool]
    rw [mBind_ap]
    refine mIf_neg rfl ?_
    rw [mBind_ap]
    refine mIf_neg rfl ?_
    (rw [mRet_ap]; rw [mRet_ap]; simp only [mIf_false, mBind_ap])
    exact htl'
  · have hF : bst step (cv T ref) (ref.length - 1) 1 0 = bst step (cv T ref) (cv T ref).length 0 0 := by
      rw [cv_len, show ref.length = (ref.length - 1) + 1 by omega]
      show bst step (cv T ref) (ref.length - 1 + 1 - 1) 1 0 = bst step (cv T ref) (ref.length - 1) 1 (if _ then 0 else 0)
      rw [ite_self]
      rfl
    have hFl : bst step (cv T ref) (ref.length - 1) 1 0 < ref.length := by
      have := bst_lt (step := step) (l := cv T ref) (ref.length - 1) 1 0 (by rw [cv_len]; omega) (by rw [cv_len]; omega)
      rwa [cv_len] at this
    have hend : ∀ h, Sep h0 h [aAg b step x, aRow G.enc 3 x (cv T ref), aRow G.enc 3 rr ref] → K_signalboxlaw51_AgingPlays_35 step (some ⟨b, 0, none⟩) rr T ((bst step (cv T ref) (ref.length - 1) 1 0 : Nat) : Int) ls (ls.n : Int) (k : Int) rr (rr.n : Int) (rr.n : Int) h (AFin h0) := by
      intro h hs
      apply S_signalboxlaw51_AgingPlays_35
      unfold B_signalboxlaw51_AgingPlays_35
      refine mIf_neg (by simp) ?_
      have hs2 : Ln h0 [aRow G.enc 3 rr ref] b step (cv T ref) h := ⟨x, hs⟩
      rw [mBind_ap]
      refine (Turn_s hs2 hst.1 (by rw [cv_len]; omega) (hI.gok (by omega)) (by rw [cv_len]; omega)).mono ?_
      rintro v h ⟨rfl, hs⟩
      rw [← hF] at hs ⊢
      generalize bst step (cv T ref) (ref.length - 1) 1 0 = F at *
      rw [gd_at (by rw [cv_len]; exact hFl), cv_erase, cv_bump] at *
      have hw : (cv T ref)[F]'(by rw [cv_len]; exact hFl) = cvT T ref[F] := by simp [cv]
      rw [hw]
      have hIe := hI.eraseT F
      obtain ⟨x, hs⟩ := hs
      simp only [un2_tuple, unI_int, unB_bool]
      rw [mBind_ap]
      refine mIf_neg (by simp) ?_
      rw [mBind_ap]
      refine mIf_pos rfl ?_
      ((refine Sep.idx hs 2 rfl (by first | omega | (simp only [List.length_set, List.length_map, List.length_replicate, List.length_append, List.length_cons, List.length_nil, List.length_reverse, List.length_range]; omega) | (simp; omega)) (by first | omega | (simp only [List.length_set, List.length_map, List.length_replicate, List.length_append, List.length_cons, List.length_nil, List.length_reverse, List.length_range]; omega) | (simp; omega)) fun aa haa => ?_; try simp only [Int.toNat_natCast] at haa); refine Sep.rldI0 hs 2 rfl (fun _ => rfl) haa (List.getElem?_eq_getElem (by first | omega | (simp only [List.length_set, List.length_map, List.length_replicate, List.length_append, List.length_cons, List.length_nil, List.length_reverse, List.length_range]; omega) | (simp; omega))) rfl ?_; rw [mRet_ap]; rw [mRet_ap]; simp only [mIf_true])
      refine mIf_neg (by show (ref[F].who != ref[F].who) = false; simp) ?_
      rw [wrap64 ((F : Int) + 1) (by omega), wrap64 (T + 1) (by omega)]
      refine refdel hs 2 rfl hFl (by omega) fun s' h hs => ?_
      have hs : Sep h0 h [aRow G.enc 3 rr ref, aAg b step x, aRow G.enc 3 x (cv (T + 1) (ref.eraseIdx F)), aRow G.enc 3 s' (ref.eraseIdx F)] := hs.re [3, 1, 2, 0] rfl
      exact tail hst.1 hk hIe (fun h hs => next h s' (T + 1) _ hIe hs) h ⟨x, hs.drop⟩
    apply S_signalboxlaw51_AgingPlays_35
    unfold B_signalboxlaw51_AgingPlays_35
    refine mIf_pos (by rw [hrr]; simp; omega) ?_
    have h0l : 0 < ref.length := by omega
    ((refine Sep.idx hs 2 rfl (by first | omega | (simp only [List.length_set, List.length_map, List.length_replicate, List.length_append, List.length_cons, List.length_nil, List.length_reverse, List.length_range]; omega) | (simp; omega)) (by first | omega | (simp only [List.length_set, List.length_map, List.length_replicate, List.length_append, List.length_cons, List.length_nil, List.length_reverse, List.length_range]; omega) | (simp; omega)) fun aa haa => ?_; try simp only [Int.toNat_natCast] at haa); refine Sep.rldI0 hs 2 rfl (fun _ => rfl) haa (List.getElem?_eq_getElem (by first | omega | (simp only [List.length_set, List.length_map, List.length_replicate, List.length_append, List.length_cons, List.length_nil, List.length_reverse, List.length_range]; omega) | (simp; omega))) rfl ?_; refine Sep.rldI hs 2 rfl (fun _ => rfl) haa (List.getElem?_eq_getElem (by first | omega | (simp only [List.length_set, List.length_map, List.length_replicate, List.length_append, List.length_cons, List.length_nil, List.length_reverse, List.length_range]; omega) | (simp; omega))) rfl ?_; refine Sep.rldI hs 2 rfl (fun _ => rfl) haa (List.getElem?_eq_getElem (by first | omega | (simp only [List.length_set, List.length_map, List.length_replicate, List.length_append, List.length_cons, List.length_nil, List.length_reverse, List.length_range]; omega) | (simp; omega))) rfl ?_; (refine Sep.new hs fun nb h hs => ?_; try simp only [List.toList_toArray] at hs); (refine Sep.st hs 0 rfl rfl rfl fun h hs => ?_; simp only [List.set_cons_zero, List.set_cons_succ] at hs); (refine Sep.st hs 0 rfl rfl rfl fun h hs => ?_; simp only [List.set_cons_zero, List.set_cons_succ] at hs); (refine Sep.st hs 0 rfl rfl rfl fun h hs => ?_; simp only [List.set_cons_zero, List.set_cons_succ] at hs); simp only [add_mk, Nat.zero_add]; rw [decide_eq_true (by omega), mIf_true])
    have := r35 hst hk hI hend (ref.length - 1) 1 0 h (by omega) h0l rfl hs.drop
    exact this
theorem kend {kd who base : Int} (hst : 1 ≤ step ∧ step ≤ 1024) (hk : k < 120) (hI : AInv k T ref) (hkd : 0 ≤ kd ∧ kd ≤ 255) (next : NextA h0 step b ls k) (h : Hp)
    (hs : Sep h0 h [aBlk ab (AAct.enc ⟨kd, who, base⟩), aAg b step x, aRow G.enc 3 x (cv T ref), aRow G.enc 3 rr ref]) :
    K_signalboxlaw51_AgingPlays_17 step (some ⟨b, 0, none⟩) rr T ⟨ab, 0, none⟩ (fnd who ref 0) ls (ls.n : Int) (k : Int) rr (rr.n : Int) (rr.n : Int) h (AFin h0) := by
  have hrr := hs.rowLen 3 rfl
  have hlen := hI.len
  have htm := hI.tm
  apply S_signalboxlaw51_AgingPlays_17
  unfold B_signalboxlaw51_AgingPlays_17
  refine mIf_neg (by simp) ?_
  (refine Sep.ldI hs 0 rfl rfl ?_; simp only [add_mk, Nat.zero_add])
  refine ⟨by omega, ?_⟩
  rw [Int.tmod_eq_emod_of_nonneg hkd.1]
  refine mIf_intro (fun hc => ?_) (fun hc => ?_)
  · -- joining
    have stay : ∀ want, joinR (cv T ref) who base = (want, cv T ref) → K_signalboxlaw51_AgingPlays_30 step (some ⟨b, 0, none⟩) rr T ⟨ab, 0, none⟩ want ls (ls.n : Int) (k : Int) h (AFin h0) := fun want hj => k30 (a := ⟨kd, who, base⟩) hst hk (by omega) hI.more hj next h hs
    (refine Sep.ldI hs 0 rfl rfl ?_; simp only [mBind_ap])
    have go : ∀ v : Bool, v = decide (base < 0 ∨ base > 63) → (mIf v (K_signalboxlaw51_AgingPlays_30 step (some ⟨b, 0, none⟩) rr T ⟨ab, 0, none⟩ 5 ls (ls.n : Int) (k : Int)) (
        mIf (decide ((fnd who ref 0) ≥ (0 : Int))) (
          K_signalboxlaw51_AgingPlays_30 step (some ⟨b, 0, none⟩) rr T ⟨ab, 0, none⟩ (10 : Int) ls (ls.n : Int) (k : Int)) (
          mLdI .i64 ⟨ab, 1, none⟩ fun (x107 : Int) =>
          mLdI .i64 ⟨ab, 2, none⟩ fun (x109 : Int) =>
          mNew #[.int .i64 x107, .int .i64 x109, .int .i64 T] 57 fun (x112 : Addr) =>
          mApp 57 3 24 #[.int .i64 (0 : Int), .int .i64 (0 : Int), .int .i64 (0 : Int)] rr ⟨(some x112), 1, 1⟩ fun (x113 : Sl) =>
          K_signalboxlaw51_AgingPlays_30 step (some ⟨b, 0, none⟩) x113 T ⟨ab, 0, none⟩ (0 : Int) ls (ls.n : Int) (k : Int)))) h (AFin h0) := by
      intro v hv
      refine mIf_intro (fun hc1 => ?_) (fun hc1 => ?_)
      · rw [hc1] at hv
        have hv := of_decide_eq_true hv.symm
        exact stay 5 (by unfold joinR; rw [if_pos hv])
      · rw [hc1] at hv
        have hv := of_decide_eq_false hv.symm
        refine mIf_dec (fun hc2 => ?_) (fun hc2 => ?_)
        · exact stay 10 (by unfold joinR; rw [if_neg hv, fnd_cv, if_pos hc2])
        · (refine Sep.ldI hs 0 rfl rfl ?_; refine Sep.ldI hs 0 rfl rfl ?_; (refine Sep.new hs fun nb h hs => ?_; try simp only [List.toList_toArray] at hs))
          refine hs.app1 4 0 ⟨who, base, T⟩ rfl rfl (fun _ => rfl) (G.one _) rfl (by omega) (by omega) fun s' h hn' hs => ?_
          simp only [List.set_cons_succ, List.set_cons_zero] at hs
          have hIa : AInv (k + 1) T (ref ++ [⟨who, base, T⟩]) := by
            refine ⟨?_, ?_, by omega, by simp; omega⟩
            · rw [List.map_append, List.nodup_append]
              refine ⟨hI.nd, by simp, ?_⟩
              intro z hz z' hz'
              obtain ⟨p, hp, rfl⟩ := List.mem_map.1 hz
              simp only [List.map_cons, List.map_nil, List.mem_singleton] at hz'
              rw [hz']
              intro hw
              exact hc2 (fnd_ge hp hw)
            · intro p hp
              rcases List.mem_append.1 hp with hp | hp
              · exact hI.ok p hp
              · simp only [List.mem_singleton] at hp
                subst hp
                exact ⟨by show 0 ≤ base; omega, by show base ≤ 63; omega, htm.1, Int.le_refl _⟩
          refine k30 (a := ⟨kd, who, base⟩) (ref := ref) hst hk (by omega) hIa ?_ next h hs.drop
          unfold joinR
          rw [if_neg hv, fnd_cv, if_neg hc2, if_neg (by rw [cv_len]; omega)]
          unfold cv
          rw [List.map_append]
          show ((0 : Int), _ ++ [(⟨who, base, 0⟩ : G)]) = (0, _ ++ [(⟨who, base, T - T⟩ : G)])
          rw [Int.sub_self]
    refine mIf_intro (fun hc1 => ?_) (fun hc1 => ?_)
    · exact go true (by simp only [decide_eq_true_eq] at hc1; rw [decide_eq_true (.inl hc1)])
    · (refine Sep.ldI hs 0 rfl rfl ?_; rw [mRet_ap]; simp only)
      refine go _ ?_
      simp only [decide_eq_false_iff_not] at hc1
      exact decide_eq_decide.2 (by omega)
  · refine mIf_intro (fun hc2 => ?_) (fun hc2 => ?_)
    · exact kturn hst hk hI next h hs.drop
    · have hk2 : kd % 3 = 2 := by
        have h1 : ¬ kd % 3 = 0 := by simpa using hc
        have h2 : ¬ kd % 3 = 1 := by simpa using hc2
        omega
      refine mIf_pos (by rw [hk2]; rfl) ?_
      (refine Sep.ldI hs 0 rfl rfl ?_; simp only [mBind_ap])
      have hs : Ln h0 [aBlk ab (AAct.enc ⟨kd, who, base⟩), aRow G.enc 3 rr ref] b step (cv T ref) h := ⟨x, hs.re [1, 2, 0, 3] rfl⟩
      refine (Leave_s hs (by rw [cv_len]; omega) who).mono ?_
      rintro v h ⟨rfl, x, hs⟩
      rw [fnd_cv] at hs ⊢
      simp only [unB_bool]
      refine mIf_neg (by simp) ?_
      refine mIf_dec (fun hc3 => ?_) (fun hc3 => ?_)
      · obtain ⟨i, hi, hf⟩ := fnd_nat hc3
        rw [if_pos hc3, hf, Int.toNat_natCast, cv_erase] at hs
        rw [hf, wrap64 ((i : Int) + 1) (by omega)]
        have hIe := hI.erase i
        refine refdel hs 3 rfl hi (by omega) fun s' h hs => ?_
        have hs : Sep h0 h [aRow G.enc 3 rr ref, aBlk ab (AAct.enc ⟨kd, who, base⟩), aAg b step x, aRow G.enc 3 x (cv T (ref.eraseIdx i)), aRow G.enc 3 s' (ref.eraseIdx i)] := hs.re [4, 3, 1, 2, 0] rfl
        exact tail hst.1 hk hIe (fun h hs => next h s' T _ hIe hs) h ⟨x, hs.drop.drop⟩
      · rw [if_neg hc3] at hs
        have hs : Sep h0 h [aBlk ab (AAct.enc ⟨kd, who, base⟩), aAg b step x, aRow G.enc 3 x (cv T ref), aRow G.enc 3 rr ref] := hs.re [2, 0, 1, 3] rfl
        exact tail hst.1 hk hI.more (fun h hs => next h rr T _ hI.more hs) h ⟨x, hs.drop⟩
theorem k17 {kd who base : Int} (hst : 1 ≤ step ∧ step ≤ 1024) (hk : k < 120) (hI : AInv k T ref) (hkd : 0 ≤ kd ∧ kd ≤ 255) (next : NextA h0 step b ls k) : ∀ (d i : Nat) (at_ : Int) (h : Hp), i + d = ref.length → lst who (ref.drop i) i at_ = fnd who ref 0 →
    Sep h0 h [aBlk ab (AAct.enc ⟨kd, who, base⟩), aAg b step x, aRow G.enc 3 x (cv T ref), aRow G.enc 3 rr ref] →
    K_signalboxlaw51_AgingPlays_17 step (some ⟨b, 0, none⟩) rr T ⟨ab, 0, none⟩ at_ ls (ls.n : Int) (k : Int) rr (rr.n : Int) (i : Int) h (AFin h0)
  | 0, i, at_, h, hi, hl, hs => by
    have hrr := hs.rowLen 3 rfl
    rw [List.drop_of_length_le (by omega)] at hl
    have hl : at_ = fnd who ref 0 := hl
    rw [hl, show (i : Int) = (rr.n : Int) by omega]
    exact kend hst hk hI hkd next h hs
  | d + 1, i, at_, h, hi, hl, hs => by
    have ih := fun at_ h => k17 (kd := kd) (who := who) (base := base) hst hk hI hkd next d (i + 1) at_ h (by omega)
    have hrr := hs.rowLen 3 rfl
    have hlen := hI.len
    have hil : i < ref.length := by omega
    rw [List.drop_eq_getElem_cons hil] at hl
    unfold lst at hl
    apply S_signalboxlaw51_AgingPlays_17
    unfold B_signalboxlaw51_AgingPlays_17
    refine mIf_pos (by simp; omega) ?_
    rw [show IntKind.i64.wrap ((i : Int) + 1) = ((i + 1 : Nat) : Int) by rw [wrap64 _ (by omega)]; omega]
    ((refine Sep.idx hs 3 rfl (by first | omega | (simp only [List.length_set, List.length_map, List.length_replicate, List.length_append, List.length_cons, List.length_nil, List.length_reverse, List.length_range]; omega) | (simp; omega)) (by first | omega | (simp only [List.length_set, List.length_map, List.length_replicate, List.length_append, List.length_cons, List.length_nil, List.length_reverse, List.length_range]; omega) | (simp; omega)) fun aa haa => ?_; try simp only [Int.toNat_natCast] at haa); refine Sep.rldI0 hs 3 rfl (fun _ => rfl) haa (List.getElem?_eq_getElem (by first | omega | (simp only [List.length_set, List.length_map, List.length_replicate, List.length_append, List.length_cons, List.length_nil, List.length_reverse, List.length_range]; omega) | (simp; omega))) rfl ?_; refine Sep.rldI hs 3 rfl (fun _ => rfl) haa (List.getElem?_eq_getElem (by first | omega | (simp only [List.length_set, List.length_map, List.length_replicate, List.length_append, List.length_cons, List.length_nil, List.length_reverse, List.length_range]; omega) | (simp; omega))) rfl ?_; refine Sep.rldI hs 3 rfl (fun _ => rfl) haa (List.getElem?_eq_getElem (by first | omega | (simp only [List.length_set, List.length_map, List.length_replicate, List.length_append, List.length_cons, List.length_nil, List.length_reverse, List.length_range]; omega) | (simp; omega))) rfl ?_; (refine Sep.new hs fun nb h hs => ?_; try simp only [List.toList_toArray] at hs); (refine Sep.st hs 0 rfl rfl rfl fun h hs => ?_; simp only [List.set_cons_zero, List.set_cons_succ] at hs); (refine Sep.st hs 0 rfl rfl rfl fun h hs => ?_; simp only [List.set_cons_zero, List.set_cons_succ] at hs); (refine Sep.st hs 0 rfl rfl rfl fun h hs => ?_; simp only [List.set_cons_zero, List.set_cons_succ] at hs); refine Sep.ldI hs 0 rfl rfl ?_; refine Sep.ldI hs 1 rfl rfl ?_; simp only)
    refine mIf_intro (fun hc => ?_) (fun hc => ?_)
    · rw [if_pos (by simpa using hc)] at hl
      exact ih _ h hl hs.drop
    · rw [if_neg (by simpa using hc)] at hl
      exact ih _ h hl hs.drop
theorem k13 (hst : 1 ≤ step ∧ step ≤ 1024) (hl : RdE h0.size h0 AAct.enc 3 ls l) (ho : ∀ x ∈ l, x.ok h0) (hlen : l.length ≤ 120) : ∀ (d k : Nat) (h : Hp) (rr : Sl) (T : Int) (ref : List G), k + d = l.length → AInv k T ref → Ln h0 [aRow G.enc 3 rr ref] b step (cv T ref) h →
    K_signalboxlaw51_AgingPlays_13 step (some ⟨b, 0, none⟩) rr T ls (ls.n : Int) (k : Int) h (AFin h0)
  | 0, k, h, rr, T, ref, hk, hI, ⟨x, hs⟩ => by
    have hln := hl.n
    apply S_signalboxlaw51_AgingPlays_13
    unfold B_signalboxlaw51_AgingPlays_13
    refine mIf_neg (by simp; omega) ?_
    exact ⟨rfl, hs.under⟩
  | d + 1, k, h, rr, T, ref, hk, hI, ⟨x, hs⟩ => by
    have ih := k13 hst hl ho hlen d (k + 1)
    have hln := hl.n
    have hkl : k < l.length := by omega
    have hok := ho l[k] (List.getElem_mem _)
    apply S_signalboxlaw51_AgingPlays_13
    unfold B_signalboxlaw51_AgingPlays_13
    refine mIf_pos (by simp; omega) ?_
    (refine Sep.argEn hs hl (by first | omega | (simp only [List.length_set, List.length_map, List.length_replicate, List.length_append, List.length_cons, List.length_nil, List.length_reverse, List.length_range]; omega) | (simp; omega)) fun aa haa => ?_; refine Arg.ldI0 haa rfl ?_; refine Arg.ldI haa rfl ?_; refine Arg.ldI haa rfl ?_; (refine Sep.new hs fun nb h hs => ?_; try simp only [List.toList_toArray] at hs); (refine Sep.st hs 0 rfl rfl rfl fun h hs => ?_; simp only [List.set_cons_zero, List.set_cons_succ] at hs); (refine Sep.st hs 0 rfl rfl rfl fun h hs => ?_; simp only [List.set_cons_zero, List.set_cons_succ] at hs); (refine Sep.st hs 0 rfl rfl rfl fun h hs => ?_; simp only [List.set_cons_zero, List.set_cons_succ] at hs))
    have hs : Sep h0 h [aBlk nb (AAct.enc ⟨l[k].kind, l[k].who, l[k].base⟩), aAg b step x, aRow G.enc 3 x (cv T ref), aRow G.enc 3 rr ref] := hs
    refine k17 hst (by omega) hI hok.1 ?_ ref.length 0 (-1) h (by omega) ?_ hs
    · intro h rr T ref hI hs
      rw [show IntKind.i64.wrap ((k : Int) + 1) = ((k + 1 : Nat) : Int) by rw [wrap64 _ (by omega)]; omega]
      exact ih h rr T ref (by omega) hI hs
    · rw [List.drop_zero]
      exact lst_fnd _ hI.nd
theorem AgingPlays_ok (_hst : -9223372036854775808 ≤ step ∧ step ≤ 9223372036854775807) (hl : RdE h0.size h0 AAct.enc 3 ls l) (ho : ∀ x ∈ l, x.ok h0) : N_signalboxlaw51_AgingPlays step ls h0 (AFin h0) := by
  have hs := Sep.init h0
  have hln := hl.n
  apply S_signalboxlaw51_AgingPlays
  unfold B_signalboxlaw51_AgingPlays
  rw [mBind_ap]
  refine (afixed_s hs).mono ?_
  rintro v h ⟨rfl, hs⟩
  simp only [unB_bool]
  refine mIf_neg (by simp) ?_
  refine mIf_dec (fun hc => ⟨rfl, hs.under⟩) (fun hc => ?_)
  rw [mBind_ap]
  by_cases hbad : step < 1 ∨ step > 1024
  · refine (New_bad _ hbad).mono ?_
    rintro v h' ⟨rfl, rfl⟩
    simp only [unP_pointer]
    refine mIf_pos (by simpa using hbad) ?_
    rw [mBind_ap]
    refine (Turn_nil _).mono ?_
    rintro v h' ⟨rfl, rfl⟩
    (simp only [Option.isNone_none, mIf_true, un2_tuple, unB_bool, Bool.not_false, Bool.and_true, unI_int, mBind_ap])
    refine (Bound_nil hs 0).mono ?_
    rintro v h ⟨rfl, hs⟩
    (simp only [un2_tuple, unB_bool, Bool.not_false, Bool.and_true, unI_int, mBind_ap])
    refine (Join_nil _ 0 0).mono ?_
    rintro v h' ⟨rfl, rfl⟩
    (simp only [unI_int]; rw [mRet_ap])
    refine mIf_pos rfl ?_
    rw [mBind_ap]
    refine (Leave_nil hs 0).mono ?_
    rintro v h ⟨rfl, hs⟩
    (simp only [unB_bool, Bool.not_false]; rw [mRet_ap]; simp only [mIf_true, mBind_ap])
    refine (All_nil _).mono ?_
    rintro v h' ⟨rfl, rfl⟩
    (simp only [unL_slice]; rw [mRet_ap])
    exact ⟨rfl, hs.under⟩
  · have hst : 1 ≤ step ∧ step ≤ 1024 := by omega
    have hs := hs.nilRow' G.enc 3 ⟨none, 0, 0⟩ rfl rfl
    refine (New_s hs hst).mono ?_
    rintro v h ⟨b, rfl, hs⟩
    simp only [unP_pointer]
    refine mIf_neg (by simpa using hbad) ?_
    exact k13 hst hl ho (by omega) l.length 0 h _ 0 [] (by omega) ⟨by simp, by simp, by simp, by simp⟩ hs
end
end Go.Proofs.Ytbpnpmknamghkaa
