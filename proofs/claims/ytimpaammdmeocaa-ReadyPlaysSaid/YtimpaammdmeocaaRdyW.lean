/- The law ReadyPlays: all acts. Conditions: none. -/
import Derived.Test.YtimpaammdmeocaaRdyV
import Derived.Test.YtimpaammdmeocaaSbW
namespace Go.Proofs.Ytimpaammdmeocaa
open Go Go.Sb
set_option linter.unusedSimpArgs false
set_option linter.unusedVariables false
section
variable {h0 h : Hp} {R : List As} {b c : Nat} {C : PCfg} {sm sc se st sl : Sl} {ts : List (PTask × Sl)} {rows nx ord ls : Sl} {l : List Nat} {acts : List RAct} {ys : List PQ} {k : Nat}
theorem k20 (hc : CRd h0 C sm sc se st sl ts) (hk : PrOk C) (hI : LInv C ys) (ho : OrdOk C C.tasks.length l) {a : RAct} {x17 : Nat} (next : Next h0 C sm sc se st sl rows nx ord ls b c l k)
    (hs : Sep h0 h (aBlk x17 [.bool a.take, .int .i64 a.task, .int .i64 a.at_] :: St C sm sc se st sl rows nx ord b c l ys R)) : ∀ (j : Nat), j ≤ l.length →
    K_signalboxlaw16_ReadyPlays_20 ⟨c, 0, none⟩ (some ⟨b, 0, none⟩) ord rows nx (sumQ ys : Int) ⟨x17, 0, none⟩ (fstL ys (l.drop j)) ((j : Int) - 1) ls (ls.n : Int) (k : Int) h (RFin h0)
  | 0, _ => k20x hc hk hI ho next hs
  | j + 1, hj => by
    have ih := k20 hc hk hI ho next hs j (by omega)
    have hlen := ho.len
    have hIl := hI.len
    have hfew := hk.few
    have hjl : j < l.length := by omega
    have hm := (ho.mem l[j]).1 (List.getElem_mem hjl)
    have hil : l[j] < ys.length := by omega
    have hiy := List.getElem?_eq_getElem hil
    have hd : l.drop j = l[j] :: l.drop (j + 1) := List.drop_eq_getElem_cons hjl
    rw [hd, fstL_cons, hasB_some hiy] at ih
    rw [show (((j + 1 : Nat) : Int) - 1) = (j : Int) by omega]
    apply S_signalboxlaw16_ReadyPlays_20
    unfold B_signalboxlaw16_ReadyPlays_20
    refine mIf_pos (by simp) ?_
    have hord : (l.map Int.ofNat)[j]? = some (l[j] : Int) := by rw [List.getElem?_map, List.getElem?_eq_getElem hjl]; rfl
    refine Sep.idx hs 4 rfl (by omega) (by rw [List.length_map]; omega) fun a1 ha1 => ?_
    rw [Int.toNat_natCast] at ha1
    refine hs.rldI0 4 rfl (fun _ => rfl) ha1 hord rfl ?_
    refine gridLd (hs.reT 2 [1, 0] rfl (by simp) : Sep h0 h (aGrid encJ 3 rows (ys.map PQ.q) :: _)) (i := l[j]) (by rw [List.length_map]; exact hil) fun x L' hxn _ => ?_
    rw [List.getElem_map] at hxn
    have e : IntKind.i64.wrap ((j : Int) - 1) = (j : Int) - 1 := wrap64 _ (by omega)
    refine mIf_dec (fun hcc => ?_) (fun hcc => ?_)
    · refine Sep.idx hs 4 rfl (by omega) (by rw [List.length_map]; omega) fun a2 ha2 => ?_
      rw [Int.toNat_natCast] at ha2
      refine hs.rldI0 4 rfl (fun _ => rfl) ha2 hord rfl ?_
      have hne : (ys[l[j]]).q ≠ [] := by
        intro h
        rw [h] at hxn
        simp at hxn
        omega
      rw [decide_eq_true hne, if_pos rfl] at ih
      rw [e]
      exact ih
    · have hne : ¬ (ys[l[j]]).q ≠ [] := by
        intro h
        have := List.length_pos_iff.2 h
        omega
      rw [decide_eq_false hne] at ih
      rw [e]
      exact ih
theorem k16 (hc : CRd h0 C sm sc se st sl ts) (hk : PrOk C) (ho : OrdOk C C.tasks.length l) (hr : RdE h0.size h0 RAct.enc 3 ls acts) (hal : acts.length ≤ 150) : ∀ (d k : Nat) (ys : List PQ) (R : List As) (h : Hp), k + d = acts.length → LInv C ys → Sep h0 h (St C sm sc se st sl rows nx ord b c l ys R) →
    K_signalboxlaw16_ReadyPlays_16 ⟨c, 0, none⟩ (some ⟨b, 0, none⟩) ord rows nx (sumQ ys : Int) ls (ls.n : Int) (k : Int) h (RFin h0)
  | 0, k, ys, R, h, hkd, hI, hs => by
    have hn := hr.n
    have hlen := hc.len.2.2.2.2
    have hIl := hI.len
    have hfew := hk.few
    apply S_signalboxlaw16_ReadyPlays_16
    unfold B_signalboxlaw16_ReadyPlays_16
    refine mIf_neg (decide_eq_false (by omega)) ?_
    simp only [add_mk, Nat.zero_add]
    refine Sep.ldL hs 4 rfl rfl ?_
    rw [show (st.n : Int) = (ys.length : Int) by omega]
    exact k50 hI (by omega) ys.length 0 R h (by omega) hs
  | d + 1, k, ys, R, h, hkd, hI, hs => by
    have ih := fun ys R h hI hs => k16 hc hk ho hr hal d (k + 1) ys R h (by omega) hI hs
    have hn := hr.n
    have hfew := hk.few
    have hlen := ho.len
    have hkl : k < acts.length := by omega
    have hon := hs.rowLen 3 rfl
    rw [List.length_map] at hon
    apply S_signalboxlaw16_ReadyPlays_16
    unfold B_signalboxlaw16_ReadyPlays_16
    refine mIf_pos (decide_eq_true (by omega)) ?_
    refine hr.ix hs hkl fun a ha => ?_
    generalize acts[k] = act at ha
    refine Arg.ldB0 ha rfl ?_
    refine Arg.ldI ha rfl ?_
    refine Arg.ldI ha rfl ?_
    refine Sep.new hs fun x17 h hs => ?_
    simp only [List.toList_toArray] at hs
    simp only [add_mk, Nat.zero_add]
    refine Sep.st hs 0 rfl rfl rfl fun h hs => ?_
    simp only [List.set_cons_zero] at hs
    refine Sep.st hs 0 rfl rfl rfl fun h hs => ?_
    simp only [List.set_cons_zero, List.set_cons_succ] at hs
    refine Sep.st hs 0 rfl rfl rfl fun h hs => ?_
    simp only [List.set_cons_zero, List.set_cons_succ] at hs
    have h20 := k20 (a := act) (k := k) (ls := ls) hc hk hI ho (fun ys R h hI hs => by rw [wrapS _ (by omega)]; exact ih ys R h hI hs) hs l.length (Nat.le_refl _)
    rw [List.drop_length] at h20
    rw [wrap64 _ (by omega), hon]
    exact h20
end
end Go.Proofs.Ytimpaammdmeocaa
