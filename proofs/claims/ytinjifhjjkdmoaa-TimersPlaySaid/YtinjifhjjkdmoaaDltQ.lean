/- Times told by gaps: ticks that go by, and all that is told. Conditions: none. -/
import Derived.Test.YtinjifhjjkdmoaaDltL
import Derived.Test.YtinjifhjjkdmoaaSbW
namespace Go.Proofs.Ytinjifhjjkdmoaa
open Go Go.Sb
set_option linter.unusedSimpArgs false
set_option linter.unusedVariables false
abbrev encI : Int → List Value := fun z => [.int .i64 z]
section
variable {h0 h : Hp} {R X : List As} {d : Nat} {a b : List Nd}
theorem cutL_zero (k : Int) (r : DL) : cutL ((k, 0) :: r) 0 = r := by
  cases r with
  | nil => rfl
  | cons x r => obtain ⟨k', g'⟩ := x; simp [cutL]
theorem adv4 : ∀ (b : List Nd) (t : Int) (out : Sl) (ks : List Int) (h : Hp), 0 ≤ t ∧ t ≤ 9223372036854775807 → DOk (b.map Nd.kg) → ks.length + b.length ≤ 1000 → Sep h0 h (aRow encI 1 out ks :: dq d (b.length : Int) [] (ptrO b none) (ndA b none ++ R)) →
    K_delta_List_Advance_4 (some ⟨d, 0, none⟩) t out h (fun v h' => ∃ o : Sl, v = .slice o.p o.n o.c ∧ Sep h0 h' (aRow encI 1 o (ks ++ (adv t (b.map Nd.kg)).1) :: aDl d (adv t (b.map Nd.kg)).2 :: R))
  | [], t, out, ks, h, ht, hok, hl, hs => by
    have hs' := hs.drop
    apply S_delta_List_Advance_4
    unfold B_delta_List_Advance_4
    rw [mNil_some]
    refine ldAt (a := []) hs' ?_
    rw [mBind_ap]
    refine mIf_neg rfl ?_
    rw [mRet_ap]
    refine mIf_neg rfl ?_
    rw [mNil_some]
    refine ldAt (a := []) hs' ?_
    refine mIf_neg rfl ?_
    refine ⟨out, rfl, ?_⟩
    rw [show ks ++ (adv t (([] : List Nd).map Nd.kg)).1 = ks by simp [adv]]
    exact (aDl_iff.2 ⟨[], rfl, (hs.swap.perm (.refl _) : Sep h0 h (aBlk d [.pointer none, .int .i64 0] :: aRow encI 1 out ks :: R))⟩).swap
  | m :: b, t, out, ks, h, ht, hok, hl, hs => by
    have hs0 := hs
    have hs' := hs.drop
    have hx := dqX (a := []) hs'
    obtain ⟨ok2, g0, gs, gn⟩ := hok.tail
    have g0 : 0 ≤ m.g := g0
    have gs : m.g + dsum (b.map Nd.kg) ≤ 16777216 := gs
    simp only [List.length_cons] at hl
    apply S_delta_List_Advance_4
    unfold B_delta_List_Advance_4
    rw [mNil_some]
    refine ldAt (a := []) hs' ?_
    rw [mBind_ap]
    refine mIf_pos rfl ?_
    rw [mNil_some]
    refine ldAt (a := []) hs' ?_
    simp only [ptrO, mNil_some, add_mk, Nat.zero_add]
    refine hx.ldI 0 rfl rfl ?_
    rw [mRet_ap]
    refine mIf_dec (fun hc => ?_) (fun hc => ?_)
    · refine ldAt (a := []) hs' ?_
      simp only [ptrO, mNil_some, add_mk, Nat.zero_add]
      refine hx.ldI 0 rfl rfl ?_
      refine ldAt (a := []) hs' ?_
      simp only [ptrO, mNil_some, add_mk, Nat.zero_add]
      refine hx.ldI 0 rfl rfl ?_
      have hs : Sep h0 h (aRow encI 1 out ks :: aBlk d [.pointer (some ⟨m.b, 0, none⟩), .int .i64 ((m :: b).length : Int)] :: aBlk m.b [.int .i64 m.k, .int .i64 m.g, .pointer (ptrO b none)] :: (ndA b none ++ R)) := hs0
      refine Sep.new hs fun nb h hs => ?_
      refine hs.app1 1 0 m.k rfl rfl (fun _ => rfl) (by intro v hv; simp only [List.mem_singleton] at hv; subst hv; rfl) rfl (by omega) (by omega) fun out' h _ hs => ?_
      simp only [List.set_cons_zero, List.set_cons_succ] at hs
      have hs := hs.drop
      refine hs.ldP 1 rfl rfl ?_
      simp only [ptrO, mNil_some, add_mk, Nat.zero_add]
      refine hs.st 2 rfl rfl rfl fun h hs => ?_
      rw [mBind_ap]
      have hs2 : Sep h0 h (dq d ((m :: b).length : Int) [] (ptrO ((⟨m.b, m.k, 0⟩ : Nd) :: b) none) (ndA ((⟨m.b, m.k, 0⟩ : Nd) :: b) none ++ (aRow encI 1 out' (ks ++ [m.k]) :: R))) := by
        have hs : Sep h0 h (aRow encI 1 out' (ks ++ [m.k]) :: aBlk d [.pointer (some ⟨m.b, 0, none⟩), .int .i64 ((m :: b).length : Int)] :: aBlk m.b [.int .i64 m.k, .int .i64 0, .pointer (ptrO b none)] :: (ndA b none ++ R)) := hs
        exact hs.perm (List.perm_middle (l₁ := aBlk d [.pointer (some ⟨m.b, 0, none⟩), .int .i64 ((m :: b).length : Int)] :: aBlk m.b [.int .i64 m.k, .int .i64 0, .pointer (ptrO b none)] :: ndA b none)).symm
      have hok3 : DOk (((⟨m.b, m.k, 0⟩ : Nd) :: b).map Nd.kg) := by
        refine ⟨?_, ?_⟩
        · intro p hp
          simp only [List.map_cons, List.mem_cons] at hp
          rcases hp with hp | hp
          · rw [hp]; exact Int.le_refl _
          · exact ok2.gap p hp
        · show 0 + dsum (b.map Nd.kg) ≤ 16777216
          omega
      refine (cut_s (a := []) hok3 (by simp only [List.length_cons]; omega) hs2).mono ?_
      rintro v h ⟨rfl, b', hb', hs⟩
      have hb' : b'.map Nd.kg = b.map Nd.kg := by rw [hb']; exact cutL_zero _ _
      have hbl : b'.length = b.length := by have := congrArg List.length hb'; simpa using this
      rw [wrap64 (t - m.g) (by omega)]
      rw [show ((m :: b).length : Int) - 1 = (b'.length : Int) by simp only [List.length_cons]; omega] at hs
      have hs3 : Sep h0 h (aRow encI 1 out' (ks ++ [m.k]) :: dq d (b'.length : Int) [] (ptrO b' none) (ndA b' none ++ R)) :=
        hs.perm (List.perm_middle (l₁ := aBlk d [.pointer (ptrO b' none), .int .i64 (b'.length : Int)] :: ndA b' none))
      have := adv4 b' (t - m.g) out' (ks ++ [m.k]) h (by omega) (by rw [hb']; exact ok2) (by simp; omega) hs3
      rw [hb', List.append_assoc] at this
      rw [show adv t ((m :: b).map Nd.kg) = (m.k :: (adv (t - m.g) (b.map Nd.kg)).1, (adv (t - m.g) (b.map Nd.kg)).2) from if_pos hc]
      exact this
    · refine ldAt (a := []) hs' ?_
      refine mIf_pos rfl ?_
      refine ldAt (a := []) hs' ?_
      simp only [ptrO, mNil_some, add_mk, Nat.zero_add]
      refine hx.ldI 0 rfl rfl ?_
      rw [wrap64 (m.g - t) (by omega)]
      have hs : Sep h0 h (aRow encI 1 out ks :: aBlk d [.pointer (some ⟨m.b, 0, none⟩), .int .i64 ((m :: b).length : Int)] :: aBlk m.b [.int .i64 m.k, .int .i64 m.g, .pointer (ptrO b none)] :: (ndA b none ++ R)) := hs0
      refine hs.st 2 rfl rfl rfl fun h hs => ?_
      refine ⟨out, rfl, ?_⟩
      rw [show adv t ((m :: b).map Nd.kg) = ([], (m.k, m.g - t) :: b.map Nd.kg) from if_neg hc, List.append_nil]
      refine (aDl_iff.2 ⟨⟨m.b, m.k, m.g - t⟩ :: b, rfl, ?_⟩).swap
      have hs : Sep h0 h (aRow encI 1 out ks :: aBlk d [.pointer (some ⟨m.b, 0, none⟩), .int .i64 ((m :: b).length : Int)] :: aBlk m.b [.int .i64 m.k, .int .i64 (m.g - t), .pointer (ptrO b none)] :: (ndA b none ++ R)) := hs
      have hs2 := hs.perm (List.perm_middle (l₁ := aBlk d [.pointer (some ⟨m.b, 0, none⟩), .int .i64 ((m :: b).length : Int)] :: aBlk m.b [.int .i64 m.k, .int .i64 (m.g - t), .pointer (ptrO b none)] :: ndA b none)).symm
      simpa [dq, ndA, ptrO] using hs2
  termination_by b => b.length
  decreasing_by
    all_goals simp_wf
    omega
theorem Advance_s {l : DL} {t : Int} (ht : 0 ≤ t ∧ t ≤ 9223372036854775807) (hok : DOk l) (hl : l.length ≤ 1000) (hs : Sep h0 h (aDl d l :: R)) : N_delta_List_Advance (some ⟨d, 0, none⟩) t h (fun v h' => ∃ o : Sl, v = .slice o.p o.n o.c ∧ Sep h0 h' (aRow encI 1 o (adv t l).1 :: aDl d (adv t l).2 :: R)) := by
  obtain ⟨ns, hm, hs⟩ := aDl_iff.1 hs
  subst hm
  rw [List.length_map] at hl hs
  apply S_delta_List_Advance
  unfold B_delta_List_Advance
  refine mIf_neg (by simp; omega) ?_
  have hs2 : Sep h0 h (dq d (ns.length : Int) [] (ptrO ns none) (ndA ns none ++ R)) := hs
  have := adv4 ns t ⟨none, 0, 0⟩ [] h ht hok (by simpa using hl) (hs2.nilRow encI 1)
  rw [List.nil_append] at this
  exact this
theorem Advance_neg {t : Int} (ht : t < 0) : N_delta_List_Advance (some ⟨d, 0, none⟩) t h (fun v h' => v = .slice none 0 0 ∧ h' = h) := by
  apply S_delta_List_Advance
  unfold B_delta_List_Advance
  refine mIf_pos (by simp; omega) ?_
  exact ⟨rfl, rfl⟩
/-! all -/
theorem keys1 {mb ob : Nat} {k g : Int} {p : Option Addr} {o : Sl} {ks : List Int} (hl : ks.length ≤ 1000) (hs : Sep h0 h (aBlk mb [.int .i64 k, .int .i64 g, .pointer p] :: aBlk ob [.slice o.p o.n o.c] :: aRow encI 1 o ks :: R)) :
    N_delta_List_Keys_1 (some ⟨mb, 0, none⟩) (some ⟨ob, 0, none⟩) h (fun _ h' => ∃ o : Sl, Sep h0 h' (aBlk mb [.int .i64 k, .int .i64 g, .pointer p] :: aBlk ob [.slice o.p o.n o.c] :: aRow encI 1 o (ks ++ [k]) :: R)) := by
  apply S_delta_List_Keys_1
  unfold B_delta_List_Keys_1
  rw [mNil_some]
  repeat' (first | with_reducible refine mAnd_intro ?_ ?_ | (first | ((simp only [mNil_some])) | (((with_reducible refine gd_mLdL ?_); refine Sep.ldL hs 1 rfl rfl ?_)) | (((with_reducible refine gd_mLdI ?_); refine Sep.ldI hs 0 rfl rfl ?_)) | (((with_reducible refine gd_mNew ?_); (refine Sep.new hs fun nb h hs => ?_; try simp only [List.toList_toArray] at hs))) | (((with_reducible refine gd_mApp ?_); (refine Sep.app1 hs 3 0 _ rfl rfl (fun _ => rfl) (by simp [Value.oneCell']) rfl (by omega) (by first | omega | (simp only [List.length_set, List.length_map, List.length_replicate, List.length_append, List.length_cons, List.length_nil, List.length_reverse, List.length_range]; omega) | (simp; omega)) fun sl h hn_sl hs => ?_; simp only [List.set_cons_zero, List.set_cons_succ] at hs))) | (((with_reducible refine gd_mSt ?_); (refine Sep.st hs 2 rfl rfl rfl fun h hs => ?_; simp only [List.set_cons_zero, List.set_cons_succ] at hs))) | (((with_reducible refine gd_mLdL ?_); refine Sep.ldL hs 2 rfl rfl ?_))))
  all_goals exact ⟨_, hs.drop⟩
theorem gaps1 {mb ob : Nat} {k g : Int} {p : Option Addr} {o : Sl} {ks : List Int} (hl : ks.length ≤ 1000) (hs : Sep h0 h (aBlk mb [.int .i64 k, .int .i64 g, .pointer p] :: aBlk ob [.slice o.p o.n o.c] :: aRow encI 1 o ks :: R)) :
    N_delta_List_Gaps_1 (some ⟨mb, 0, none⟩) (some ⟨ob, 0, none⟩) h (fun _ h' => ∃ o : Sl, Sep h0 h' (aBlk mb [.int .i64 k, .int .i64 g, .pointer p] :: aBlk ob [.slice o.p o.n o.c] :: aRow encI 1 o (ks ++ [g]) :: R)) := by
  apply S_delta_List_Gaps_1
  unfold B_delta_List_Gaps_1
  rw [mNil_some]
  repeat' (first | with_reducible refine mAnd_intro ?_ ?_ | (first | ((simp only [add_mk, Nat.zero_add, mNil_some])) | (((with_reducible refine gd_mLdL ?_); refine Sep.ldL hs 1 rfl rfl ?_)) | (((with_reducible refine gd_mLdI ?_); refine Sep.ldI hs 0 rfl rfl ?_)) | (((with_reducible refine gd_mNew ?_); (refine Sep.new hs fun nb h hs => ?_; try simp only [List.toList_toArray] at hs))) | (((with_reducible refine gd_mApp ?_); (refine Sep.app1 hs 3 0 _ rfl rfl (fun _ => rfl) (by simp [Value.oneCell']) rfl (by omega) (by first | omega | (simp only [List.length_set, List.length_map, List.length_replicate, List.length_append, List.length_cons, List.length_nil, List.length_reverse, List.length_range]; omega) | (simp; omega)) fun sl h hn_sl hs => ?_; simp only [List.set_cons_zero, List.set_cons_succ] at hs))) | (((with_reducible refine gd_mSt ?_); (refine Sep.st hs 2 rfl rfl rfl fun h hs => ?_; simp only [List.set_cons_zero, List.set_cons_succ] at hs))) | ((simp only [mNil_some])) | (((with_reducible refine gd_mLdL ?_); refine Sep.ldL hs 2 rfl rfl ?_))))
  all_goals exact ⟨_, hs.drop⟩
theorem each2 {gf : Nat} {ob : Nat} {n : Int} (f : Int × Int → Int) (hsee : ∀ (R : List As) (h : Hp) (mb : Nat) (k g : Int) (p : Option Addr) (o : Sl) (ks : List Int), ks.length ≤ 1000 → Sep h0 h (aBlk mb [.int .i64 k, .int .i64 g, .pointer p] :: aBlk ob [.slice o.p o.n o.c] :: aRow encI 1 o ks :: R) →
      Nf Try.prog gf (#[] ++ #[.pointer (some ⟨mb, 0, none⟩)] ++ #[.pointer (some ⟨ob, 0, none⟩)]) h (fun _ h' => ∃ o : Sl, Sep h0 h' (aBlk mb [.int .i64 k, .int .i64 g, .pointer p] :: aBlk ob [.slice o.p o.n o.c] :: aRow encI 1 o (ks ++ [f (k, g)]) :: R))) :
    ∀ (b a : List Nd) (o : Sl) (ks : List Int) (h : Hp), ks.length + b.length ≤ 1000 → Sep h0 h (aBlk ob [.slice o.p o.n o.c] :: aRow encI 1 o ks :: dq d n a (ptrO b none) (ndA b none ++ R)) →
      K_delta_List_each_2 gf #[] #[.pointer (some ⟨ob, 0, none⟩)] (ptrO b none) h (fun _ h' => ∃ o : Sl, Sep h0 h' (aBlk ob [.slice o.p o.n o.c] :: aRow encI 1 o (ks ++ b.map (fun m => f m.kg)) :: dq d n (a ++ b) none R))
  | [], a, o, ks, h, hl, hs => by
    apply S_delta_List_each_2
    unfold B_delta_List_each_2
    refine mIf_neg rfl ?_
    refine ⟨o, ?_⟩
    simp only [List.map_nil, List.append_nil]
    exact hs
  | m :: b, a, o, ks, h, hl, hs => by
    simp only [List.length_cons] at hl
    apply S_delta_List_each_2
    unfold B_delta_List_each_2
    refine mIf_pos rfl ?_
    rw [mBind_ap]
    have hs : Sep h0 h (aBlk m.b [.int .i64 m.k, .int .i64 m.g, .pointer (ptrO b none)] :: aBlk ob [.slice o.p o.n o.c] :: aRow encI 1 o ks :: dq d n a (some ⟨m.b, 0, none⟩) (ndA b none ++ R)) :=
      hs.perm (List.perm_middle (l₁ := aBlk ob [.slice o.p o.n o.c] :: aRow encI 1 o ks :: aBlk d [.pointer (ptrO a (some ⟨m.b, 0, none⟩)), .int .i64 n] :: ndA a (some ⟨m.b, 0, none⟩)))
    refine (hsee _ h m.b m.k m.g _ o ks (by omega) hs).mono ?_
    rintro v h ⟨o', hs⟩
    show mNil (some _) _ _ _
    simp only [mNil_some, add_mk, Nat.zero_add]
    refine hs.ldP 0 rfl rfl ?_
    have hs : Sep h0 h (aBlk ob [.slice o'.p o'.n o'.c] :: aRow encI 1 o' (ks ++ [f m.kg]) :: dq d n a (some ⟨m.b, 0, none⟩) (aBlk m.b [.int .i64 m.k, .int .i64 m.g, .pointer (ptrO b none)] :: (ndA b none ++ R))) :=
      hs.perm (List.perm_middle (l₁ := aBlk ob [.slice o'.p o'.n o'.c] :: aRow encI 1 o' (ks ++ [f m.kg]) :: aBlk d [.pointer (ptrO a (some ⟨m.b, 0, none⟩)), .int .i64 n] :: ndA a (some ⟨m.b, 0, none⟩))).symm
    rw [← dq_snoc] at hs
    have := each2 f hsee b (a ++ [m]) o' (ks ++ [f m.kg]) h (by simp; omega) hs
    rw [List.append_assoc, List.append_assoc] at this
    exact this
theorem each_s {gf : Nat} {ob : Nat} {l : DL} (f : Int × Int → Int) (hl : l.length ≤ 1000) (hsee : ∀ (R : List As) (h : Hp) (mb : Nat) (k g : Int) (p : Option Addr) (o : Sl) (ks : List Int), ks.length ≤ 1000 → Sep h0 h (aBlk mb [.int .i64 k, .int .i64 g, .pointer p] :: aBlk ob [.slice o.p o.n o.c] :: aRow encI 1 o ks :: R) →
      Nf Try.prog gf (#[] ++ #[.pointer (some ⟨mb, 0, none⟩)] ++ #[.pointer (some ⟨ob, 0, none⟩)]) h (fun _ h' => ∃ o : Sl, Sep h0 h' (aBlk mb [.int .i64 k, .int .i64 g, .pointer p] :: aBlk ob [.slice o.p o.n o.c] :: aRow encI 1 o (ks ++ [f (k, g)]) :: R)))
    (hs : Sep h0 h (aBlk ob [.slice none 0 0] :: aDl d l :: R)) : N_delta_List_each (some ⟨d, 0, none⟩) gf #[] #[.pointer (some ⟨ob, 0, none⟩)] h (fun _ h' => ∃ o : Sl, Sep h0 h' (aBlk ob [.slice o.p o.n o.c] :: aRow encI 1 o (l.map f) :: aDl d l :: R)) := by
  obtain ⟨ns, hm, hs⟩ := aDl_iff.1 hs.swap
  subst hm
  rw [List.length_map] at hl hs
  have hs : Sep h0 h (aBlk ob [.slice none 0 0] :: dq d (ns.length : Int) ns none R) := dqX hs
  apply S_delta_List_each
  unfold B_delta_List_each
  refine mIf_neg rfl ?_
  rw [mNil_some]
  refine ldAt (a := []) (q := ptrO ns none) (X := ndA ns none ++ R) hs.drop ?_
  have hs : Sep h0 h (aBlk ob [.slice (⟨none, 0, 0⟩ : Sl).p (⟨none, 0, 0⟩ : Sl).n (⟨none, 0, 0⟩ : Sl).c] :: aRow encI 1 ⟨none, 0, 0⟩ [] :: dq d (ns.length : Int) [] (ptrO ns none) (ndA ns none ++ R)) := (hs.nilRow encI 1).swap
  refine (each2 f hsee ns [] ⟨none, 0, 0⟩ [] h (by simpa using hl) hs).mono ?_
  rintro v h ⟨o, hs⟩
  refine ⟨o, ?_⟩
  rw [List.nil_append, List.nil_append] at hs
  have hs : Sep h0 h (dq d (ns.length : Int) ns none (aBlk ob [.slice o.p o.n o.c] :: aRow encI 1 o (ns.map (fun m => f m.kg)) :: R)) := by
    have h2 : Sep h0 h (aBlk ob [.slice o.p o.n o.c] :: aRow encI 1 o (ns.map (fun m => f m.kg)) :: dq d (ns.length : Int) ns none R) := hs
    refine dqX' (h2.perm (.cons _ ?_))
    exact (List.perm_middle (l₁ := aBlk d [.pointer (ptrO ns none), .int .i64 (ns.length : Int)] :: ndA ns none)).symm
  have hs := aDl_iff.2 ⟨ns, rfl, (by rw [List.length_map]; exact hs : Sep h0 h (dq d ((ns.map Nd.kg).length : Int) ns none _))⟩
  have hs := hs.reT 3 [1, 2, 0] rfl (by simp)
  rw [List.map_map]
  exact hs
theorem Keys_s {l : DL} (hl : l.length ≤ 1000) (hs : Sep h0 h (aDl d l :: R)) : N_delta_List_Keys (some ⟨d, 0, none⟩) h (fun v h' => ∃ o : Sl, v = .slice o.p o.n o.c ∧ Sep h0 h' (aRow encI 1 o (l.map (·.1)) :: aDl d l :: R)) := by
  apply S_delta_List_Keys
  unfold B_delta_List_Keys
  refine Sep.new hs fun ob h hs => ?_
  rw [mBind_ap]
  refine (each_s (·.1) hl (fun R h mb k g p o ks h1 hs => keys1 h1 hs) hs).mono ?_
  rintro v h ⟨o, hs⟩
  refine hs.ldL 0 rfl rfl ?_
  exact ⟨o, rfl, hs.drop⟩
theorem Gaps_s {l : DL} (hl : l.length ≤ 1000) (hs : Sep h0 h (aDl d l :: R)) : N_delta_List_Gaps (some ⟨d, 0, none⟩) h (fun v h' => ∃ o : Sl, v = .slice o.p o.n o.c ∧ Sep h0 h' (aRow encI 1 o (l.map (·.2)) :: aDl d l :: R)) := by
  apply S_delta_List_Gaps
  unfold B_delta_List_Gaps
  refine Sep.new hs fun ob h hs => ?_
  rw [mBind_ap]
  refine (each_s (·.2) hl (fun R h mb k g p o ks h1 hs => gaps1 h1 hs) hs).mono ?_
  rintro v h ⟨o, hs⟩
  refine hs.ldL 0 rfl rfl ?_
  exact ⟨o, rfl, hs.drop⟩
end
end Go.Proofs.Ytinjifhjjkdmoaa
