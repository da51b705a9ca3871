/- Rows in fewer bytes: RunsWorst and RunsLong. Conditions: none. -/
import Derived.Test.YtinjifhjjkdmoaaRunR
import Derived.Test.YtinjifhjjkdmoaaSbW
namespace Go.Proofs.Ytinjifhjjkdmoaa
open Go Go.Sb
set_option linter.unusedSimpArgs false
set_option linter.unusedVariables false
abbrev RFin (h0 : Hp) : Value → Hp → Prop := fun v h' => v = .bool true ∧ Under h0.size h0 h'
section
variable {h0 h : Hp} {R : List As} {B : Nat} {s x : Sl} {c : Int} {l zs : List Int}
theorem Read_err {e : Int} (he : e ≠ 0) (hs : Sep h0 h R) (hw : ∀ (b : Nat) (h' : Hp), Sep h0 h' (SRead b [] :: R) → N_runs_walk s 84 #[] #[.pointer (some ⟨b, 0, none⟩)] h' (fun v h'' => v = .int .i64 e ∧ ∃ row, Sep h0 h'' (SRead b row :: R))) :
    N_runs_Read s h (fun v h' => v = .tuple #[.slice none 0 0, .int .i64 e] ∧ Sep h0 h' R) := by
  apply S_runs_Read
  unfold B_runs_Read
  have hs := hs.nilRow encU 1
  refine Sep.new hs fun b h hs => ?_
  rw [mBind_ap]
  refine (hw b h (SRead_iff.2 ⟨⟨none, 0, 0⟩, hs⟩)).mono ?_
  rintro v h' ⟨rfl, row, hs⟩
  simp only [unI_int]
  refine mIf_pos (by simpa using he) ?_
  exact ⟨rfl, hs.drop⟩
theorem Size_err {e : Int} (he : e ≠ 0) (hs : Sep h0 h R) (hw : ∀ (b : Nat) (h' : Hp), Sep h0 h' (SSize b [] :: R) → N_runs_walk s 86 #[] #[.pointer (some ⟨b, 0, none⟩)] h' (fun v h'' => v = .int .i64 e ∧ ∃ row, Sep h0 h'' (SSize b row :: R))) :
    N_runs_Size s h (fun v h' => v = .tuple #[.int .i64 0, .int .i64 e] ∧ Sep h0 h' R) := by
  apply S_runs_Size
  unfold B_runs_Size
  ((refine Sep.new hs fun nb h hs => ?_; try simp only [List.toList_toArray] at hs); (refine Sep.st hs 0 rfl rfl rfl fun h hs => ?_; simp only [List.set_cons_zero, List.set_cons_succ] at hs); simp only [mBind_ap])
  refine (hw nb _ hs).mono ?_
  rintro v h' ⟨rfl, row, hs⟩
  simp only [unI_int]
  refine mIf_pos (by simpa using he) ?_
  exact ⟨rfl, hs.drop⟩
/-- a part that is cut -/
theorem walk_cut {g : Nat} {f cc : Array Value} {a : As} (hr : RdI h0.size h0 .u8 s [1, 5]) (hs : Sep h0 h (a :: R)) : N_runs_walk s g f cc h (fun v h' => v = .int .i64 2 ∧ Sep h0 h' (a :: R)) := by
  have hsn : s.n = 2 := hr.n
  apply S_runs_walk
  unfold B_runs_walk
  apply S_runs_walk_2
  unfold B_runs_walk_2
  refine mIf_pos (by rw [hsn]; rfl) ?_
  rw [mBind_ap]
  refine (next_s hr hs).mono ?_
  rintro v h ⟨rfl, hs⟩
  rw [if_neg (by omega), if_neg (by omega)]
  simp only [unT_tuple, unC_cons, unA_agg, unI_int, unB_bool, unE_nil]
  ((refine Sep.new hs fun nb h hs => ?_; try simp only [List.toList_toArray] at hs); (refine Sep.st hs 0 rfl rfl rfl fun h hs => ?_; simp only [List.set_cons_zero, List.set_cons_succ] at hs); (refine Sep.st hs 0 rfl rfl rfl fun h hs => ?_; simp only [List.set_cons_zero, List.set_cons_succ] at hs); simp only [add_mk, Nat.zero_add])
  refine mIf_pos (by rw [hsn]; rfl) ?_
  exact ⟨rfl, hs.drop⟩
/-- as many runs of 130 -/
def many (c : Int) : Nat → List Int
  | 0 => []
  | n + 1 => 255 :: c :: many c n
theorem many_len (c : Int) : ∀ n, (many c n).length = 2 * n
  | 0 => rfl
  | n + 1 => by simp [many, many_len c n]; omega
theorem many_snoc (c : Int) : ∀ n, many c n ++ [255, c] = many c (n + 1)
  | 0 => rfl
  | n + 1 => by
    rw [show many c (n + 1) = 255 :: c :: many c n from rfl, List.cons_append, List.cons_append, many_snoc c n]
    rfl
theorem many_parts (c : Int) : ∀ n, Parts (many c n) (List.replicate (130 * n) c)
  | 0 => .nil
  | n + 1 => by
    have h1 := Parts.run 130 c _ _ (by omega) (by omega) (many_parts c n)
    rw [List.replicate_append_replicate] at h1
    rw [show 130 * (n + 1) = 130 + 130 * n by omega]
    exact h1
theorem walk_long {g : Nat} {f cc : Array Value} {S : List Int → As} (hsee : See h0 g f cc S) : ∀ (n : Nat) (s : Sl) (h : Hp) (row : List Int), RdI h0.size h0 .u8 s (many c n) → s.n ≤ s.c → n ≤ 100000 → row.length ≤ 1048576 → 1048576 < row.length + 130 * n → Sep h0 h (S row :: R) →
    K_runs_walk_2 s g f cc (row.length : Int) h (fun v h' => v = .int .i64 3 ∧ ∃ row, Sep h0 h' (S row :: R))
  | 0, s, h, row, hr, hcap, hn, hl, hlong, hs => by omega
  | n + 1, s, h, row, hr, hcap, hn, hl, hlong, hs => by
    refine walk_run hsee (a := 130) (c := c) (w := many c n) (by omega) (by omega) hr hcap (by rw [many_len]; omega) hl hs _ (fun hle x h hx hxc hs => ?_) (fun hlt h hs => ⟨rfl, row, hs⟩)
    have := walk_long hsee n x h (row ++ List.replicate 130 c) hx hxc (by omega) (by simpa using hle) (by simp; omega) hs
    rw [List.length_append, List.length_replicate] at this
    exact this
theorem rfixed_s (hs : Sep h0 h R) : N_signalboxlaw53_fixed h (fun v h' => v = .bool true ∧ Sep h0 h' R) := by
  apply S_signalboxlaw53_fixed
  unfold B_signalboxlaw53_fixed
  refine Sep.new hs fun b1 h hs => ?_
  have h5 : RdI h.size h .u8 ⟨some ⟨b1, 0, none⟩, 5, 5⟩ [7, 7, 7, 7, 7] := hs.blkI 0 rfl (by intro z hz; rw [u8wf]; simp at hz; omega) rfl
  rw [mBind_ap]
  refine (Write_s h5 (Nat.le_refl _) (by simp)).mono ?_
  rintro v h ⟨o, rfl, hs'⟩
  have hs := hs.rebase hs'
  rw [show wr [(7 : Int), 7, 7, 7, 7].length [7, 7, 7, 7, 7] = [130, 7] by decide] at hs
  simp only [unL_slice, List.cons_append, List.nil_append] at hs ⊢
  refine Sep.new hs fun b2 h hs => ?_
  have h5 : RdI h.size h .u8 ⟨some ⟨b2, 0, none⟩, 5, 5⟩ [1, 5, 6, 128, 9] := hs.blkI 0 rfl (by intro z hz; rw [u8wf]; simp at hz; omega) rfl
  have hp : Parts [1, 5, 6, 128, 9] [5, 6, 9, 9, 9] := Parts.lit [5, 6] [128, 9] [9, 9, 9] (by decide) (by decide) (Parts.run 3 9 [] [] (by decide) (by decide) .nil)
  rw [mBind_ap]
  refine (Read_s hp h5 (Nat.le_refl _) (by simp) (by simp)).mono ?_
  rintro v h ⟨o2, rfl, hs'⟩
  have hs := hs.rebase hs'
  simp only [un2_tuple, unL_slice, unI_int, List.cons_append, List.nil_append] at hs ⊢
  refine Sep.new hs fun b3 h hs => ?_
  have h5 : RdI h.size h .u8 ⟨some ⟨b3, 0, none⟩, 2, 2⟩ [1, 5] := hs.blkI 0 rfl (by intro z hz; rw [u8wf]; simp at hz; omega) rfl
  rw [mBind_ap]
  refine (Read_err (e := 2) (by decide) (Sep.init h) fun b h' hs => (walk_cut h5 hs).mono fun v h'' ⟨e, hs⟩ => ⟨e, [], hs⟩).mono ?_
  rintro v h ⟨rfl, hs'⟩
  have hs := hs.rebase hs'
  simp only [un2_tuple, unL_slice, unI_int, List.cons_append, List.nil_append] at hs ⊢
  refine Sep.new hs fun b4 h hs => ?_
  have h5 : RdI h.size h .u8 ⟨some ⟨b4, 0, none⟩, 2, 2⟩ [255, 1] := hs.blkI 0 rfl (by intro z hz; rw [u8wf]; simp at hz; omega) rfl
  rw [mBind_ap]
  refine (Size_s (many_parts 1 1) h5 (Nat.le_refl _) (by simp [many]) (by simp)).mono ?_
  rintro v h ⟨rfl, hs'⟩
  have hs := hs.rebase hs'
  simp only [un2_tuple, unL_slice, unI_int, List.cons_append, List.nil_append, List.length_replicate] at hs ⊢
  have hon := hs.rowLen 4 rfl
  have hwf : ∀ z ∈ [(5 : Int), 6, 9, 9, 9], IntKind.u8.min ≤ z ∧ z ≤ IntKind.u8.max := by intro z hz; rw [u8wf]; simp at hz; omega
  have hI := hs.rowI 2 rfl hwf
  rw [mBind_ap]
  refine mIf_pos (by rw [hon]; rfl) ?_
  ((refine Sep.idx hs 4 rfl (by first | omega | (simp only [List.length_set, List.length_map, List.length_replicate, List.length_append, List.length_cons, List.length_nil, List.length_reverse, List.length_range]; omega) | (simp; omega)) (by first | omega | (simp only [List.length_set, List.length_map, List.length_replicate, List.length_append, List.length_cons, List.length_nil, List.length_reverse, List.length_range]; omega) | (simp; omega)) fun aa haa => ?_; try simp only [Int.toNat_natCast] at haa); refine Sep.rldI0 hs 4 rfl (fun _ => rfl) haa (List.getElem?_eq_getElem (by first | omega | (simp only [List.length_set, List.length_map, List.length_replicate, List.length_append, List.length_cons, List.length_nil, List.length_reverse, List.length_range]; omega) | (simp; omega))) rfl ?_; rw [mRet_ap]; simp only [mBind_ap])
  refine mIf_pos rfl ?_
  ((refine Sep.idx hs 4 rfl (by first | omega | (simp only [List.length_set, List.length_map, List.length_replicate, List.length_append, List.length_cons, List.length_nil, List.length_reverse, List.length_range]; omega) | (simp; omega)) (by first | omega | (simp only [List.length_set, List.length_map, List.length_replicate, List.length_append, List.length_cons, List.length_nil, List.length_reverse, List.length_range]; omega) | (simp; omega)) fun aa_1 haa_1 => ?_; try simp only [Int.toNat_natCast] at haa_1); refine Sep.rldI0 hs 4 rfl (fun _ => rfl) haa_1 (List.getElem?_eq_getElem (by first | omega | (simp only [List.length_set, List.length_map, List.length_replicate, List.length_append, List.length_cons, List.length_nil, List.length_reverse, List.length_range]; omega) | (simp; omega))) rfl ?_; rw [mRet_ap])
  refine mIf_pos rfl ?_
  refine hI.str ?_
  rw [mRet_ap]
  refine mIf_pos (by rw [show strOf [5, 6, 9, 9, 9] = (ByteArray.mk #[5, 6, 9, 9, 9]) from rfl]; simp) ?_
  rw [mBind_ap]
  refine (worst_s (n := 129) (by omega)).mono ?_
  rintro v h' ⟨rfl, rfl⟩
  simp only [unI_int]
  exact ⟨rfl, hs.drop.drop.drop.drop.drop.drop⟩
theorem RunsWorst_ok {n : Int} (hn : -9223372036854775808 ≤ n ∧ n ≤ 9223372036854775807) : N_signalboxlaw53_RunsWorst n h0 (RFin h0) := by
  apply S_signalboxlaw53_RunsWorst
  unfold B_signalboxlaw53_RunsWorst
  rw [mBind_ap]
  refine (rfixed_s (Sep.init h0)).mono ?_
  rintro v h ⟨rfl, hs⟩
  simp only [unB_bool]
  refine mIf_neg rfl ?_
  have e : (if (1099511627776 : Int) < (if (0 : Int) > n then (0 : Int) else n) then (1099511627776 : Int) else (if (0 : Int) > n then (0 : Int) else n)) = min (max n 0) 1099511627776 := by
    split <;> split <;> omega
  rw [e]
  have hw := worst_s (h := h) hn
  have h1 : 0 ≤ min (max n 0) 1099511627776 ∧ min (max n 0) 1099511627776 ≤ 1099511627776 := by omega
  generalize min (max n 0) 1099511627776 = m at *
  refine ⟨by omega, by omega, ?_⟩
  rw [Int.tmod_eq_emod_of_nonneg (by omega), Int.tdiv_eq_ediv_of_nonneg (by omega), wrap64 (m / 128) (by omega), wrap64 (m / 128 + 1) (by omega), wrap64 (m + (m / 128 + 1)) (by omega), wrap64 (m + m / 128) (by omega)]
  refine mIf_dec (fun hc => ?_) (fun hc => ?_)
  · rw [mBind_ap]
    refine hw.mono ?_
    rintro v h' ⟨rfl, rfl⟩
    simp only [unI_int]
    exact ⟨by congr 1; simp; omega, hs.under⟩
  · rw [mBind_ap]
    refine hw.mono ?_
    rintro v h' ⟨rfl, rfl⟩
    simp only [unI_int]
    exact ⟨by congr 1; simp; omega, hs.under⟩
theorem long5 {more : Int} (hc : 0 ≤ c ∧ c ≤ 255) (hm : 0 ≤ more ∧ more ≤ 255) : ∀ (d k : Nat) (b : Sl) (h : Hp), k + d = 8060 + (more % 12).toNat → Sep h0 h [aRow encU 1 b (many c k)] →
    K_signalboxlaw53_RunsLong_5 c more b ((8060 + (more % 12).toNat : Nat) : Int) (k : Int) h (RFin h0)
  | 0, k, b, h, hk, hs => by
    have hcap := hs.rowCap 0 rfl
    have hN : (IntKind.i64.wrap ((8060 : Int) + (IntKind.i64.wrap (Int.tmod more (12 : Int))))) = ((8060 + (more % 12).toNat : Nat) : Int) := by
      rw [Int.tmod_eq_emod_of_nonneg hm.1, wrap64 (more % 12) (by omega), wrap64 _ (by omega)]; omega
    have hwf : ∀ z ∈ many c k, IntKind.u8.min ≤ z ∧ z ≤ IntKind.u8.max := by
      have : ∀ n, ∀ z ∈ many c n, z = 255 ∨ z = c := by
        intro n
        induction n with
        | zero => simp [many]
        | succ n ih => intro z hz; simp only [many, List.mem_cons] at hz; rcases hz with h | h | h; exact .inl h; exact .inr h; exact ih z h
      intro z hz
      rw [u8wf]
      rcases this k z hz with h | h <;> omega
    have hI := hs.rowI 0 rfl hwf
    apply S_signalboxlaw53_RunsLong_5
    unfold B_signalboxlaw53_RunsLong_5
    rw [hN]
    have hm12 : (more % 12).toNat ≤ 11 := by omega
    generalize (more % 12).toNat = m at *
    refine mIf_neg (by simp; omega) ?_
    rw [wrap64 ((130 : Int) * ((8060 + m : Nat) : Int)) (by omega), mBind_ap]
    by_cases hlong : 1048576 < 130 * k
    · have hlong' : 1048576 < ([] : List Int).length + 130 * k := by simpa using hlong
      refine (Read_err (e := 3) (by decide) (Sep.init h) fun b' h' hs => ?_).mono ?_
      · apply S_runs_walk
        unfold B_runs_walk
        exact walk_long (see_read (b := b')) k b h' [] hI hcap (by omega) (by simp) hlong' hs
      · rintro v h1 ⟨rfl, hs1⟩
        simp only [un2_tuple, unL_slice, unI_int]
        have hs := hs.rebase hs1
        have hI := hs.rowI 0 rfl hwf
        rw [mBind_ap]
        refine (Size_err (e := 3) (by decide) (Sep.init h1) fun b' h' hs => ?_).mono ?_
        · apply S_runs_walk
          unfold B_runs_walk
          exact walk_long (see_size (b := b')) k b h' [] hI hcap (by omega) (by simp) hlong' hs
        · rintro v h2 ⟨rfl, hs2⟩
          have hs := hs.rebase hs2
          simp only [un2_tuple, unL_slice, unI_int]
          refine ⟨by omega, ?_⟩
          refine mIf_pos (by simp; omega) ?_
          exact ⟨rfl, hs.under⟩
    · have hshort : 130 * k ≤ 1048576 := by omega
      refine (Read_s (many_parts c k) hI hcap (by rw [many_len]; omega) (by rw [List.length_replicate]; omega)).mono ?_
      rintro v h1 ⟨o, rfl, hs1⟩
      simp only [un2_tuple, unL_slice, unI_int]
      have hs := hs.rebase hs1
      have hon := hs.rowLen 0 rfl
      rw [List.length_replicate] at hon
      have hI := hs.rowI 1 rfl hwf
      rw [mBind_ap]
      refine (Size_s (many_parts c k) hI hcap (by rw [many_len]; omega) (by rw [List.length_replicate]; omega)).mono ?_
      rintro v h2 ⟨rfl, hs2⟩
      have hs := hs.rebase hs2
      simp only [un2_tuple, unL_slice, unI_int, List.length_replicate]
      refine ⟨by omega, ?_⟩
      refine mIf_neg (by simp; omega) ?_
      refine ⟨by omega, ?_⟩
      refine ⟨?_, hs.under⟩
      congr 1
      simp
      omega
  | d + 1, k, b, h, hk, hs => by
    have ih := fun b h => long5 hc hm d (k + 1) b h (by omega)
    apply S_signalboxlaw53_RunsLong_5
    unfold B_signalboxlaw53_RunsLong_5
    refine mIf_pos (by simp; omega) ?_
    refine Sep.new hs fun nb h hs => ?_
    have hI : RdI h.size h .u8 ⟨some ⟨nb, 0, none⟩, 2, 2⟩ [255, c] := hs.blkI 0 rfl (by intro z hz; rw [u8wf]; simp at hz; omega) rfl
    refine hs.appI 1 rfl hI rfl (by omega) (by rw [many_len]; simp; omega) fun o h hn hs => ?_
    rw [wrap64 _ (by omega), show ((k : Int) + 1) = ((k + 1 : Nat) : Int) by omega]
    refine ih o h ?_
    rw [← many_snoc]
    exact hs.drop
theorem RunsLong_ok {more : Int} (hc : 0 ≤ c ∧ c ≤ 255) (hm : 0 ≤ more ∧ more ≤ 255) : N_signalboxlaw53_RunsLong c more h0 (RFin h0) := by
  apply S_signalboxlaw53_RunsLong
  unfold B_signalboxlaw53_RunsLong
  rw [mBind_ap]
  refine (rfixed_s (Sep.init h0)).mono ?_
  rintro v h ⟨rfl, hs⟩
  simp only [unB_bool]
  refine mIf_neg rfl ?_
  refine ⟨by omega, ?_⟩
  have hN : (IntKind.i64.wrap ((8060 : Int) + (IntKind.i64.wrap (Int.tmod more (12 : Int))))) = ((8060 + (more % 12).toNat : Nat) : Int) := by
    rw [Int.tmod_eq_emod_of_nonneg hm.1, wrap64 (more % 12) (by omega), wrap64 _ (by omega)]; omega
  rw [hN]
  exact long5 hc hm (8060 + (more % 12).toNat) 0 _ h (by omega) (hs.nilRow _ _)
end
end Go.Proofs.Ytinjifhjjkdmoaa
