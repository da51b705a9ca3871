/- Views of readable rows of numbers, and strings of them. Conditions: none. -/
import Derived.Test.YtimpaammdmeocaaSbW
namespace Go.Sb
open Go
set_option linter.unusedSimpArgs false
set_option linter.unusedVariables false
theorem RdI.slc {α : Type} {B : Nat} {g h : Hp} {k : IntKind} {s : Sl} {zs : List Int} (hr : RdI B g k s zs) (hc : s.n ≤ s.c) {lo hi mx : Int} {K : Sl → M α} {Q : α → Hp → Prop} (h1 : 0 ≤ lo) (h2 : lo ≤ hi) (h3 : hi ≤ zs.length) (hmx : mx = s.c)
    (hK : ∀ x : Sl, RdI B g k x ((zs.take hi.toNat).drop lo.toNat) → x.n ≤ x.c → K x h Q) : mSlc s 1 lo hi mx K h Q := by
  have hn := hr.n
  refine ⟨h1, h2, by omega, by omega, hK _ ⟨?_, ?_, ?_⟩ ?_⟩
  · show hi.toNat - lo.toNat = _
    rw [List.length_drop, List.length_take]; omega
  · intro i z hz
    have hil := (List.getElem?_eq_some_iff.1 hz).1
    rw [List.length_drop, List.length_take] at hil
    rw [List.getElem?_drop, List.getElem?_take, if_pos (by omega)] at hz
    obtain ⟨a, e1, e2, e3⟩ := hr.at_ _ z hz
    simp only []
    rw [if_neg (by omega), e1, Option.map_some]
    refine ⟨_, rfl, by rw [add_block]; exact e2, ?_⟩
    rw [Addr.add_add', Nat.mul_one]
    exact e3
  · intro z hz
    exact hr.wf z (List.mem_of_mem_take (List.mem_of_mem_drop hz))
  · show hi.toNat - lo.toNat ≤ mx.toNat - lo.toNat
    omega
theorem RdI.toE {B : Nat} {h : Hp} {k : IntKind} {s : Sl} {zs : List Int} (hr : RdI B h k s zs) : RdE B h (fun z => [.int k z]) 1 s zs :=
  ⟨hr.n, fun i z hz => by
    obtain ⟨a, e1, e2, e3⟩ := hr.at_ i z hz
    refine ⟨a, e1, e2, fun j v hv => ?_⟩
    cases j with
    | zero =>
      simp only [List.getElem?_cons_zero, Option.some.injEq] at hv
      subst hv
      rw [Addr.add_zero', Nat.mul_one]
      exact e3
    | succ j => simp at hv⟩
theorem RdI.cells {B : Nat} {h : Hp} {k : IntKind} {s : Sl} {zs : List Int} (hr : RdI B h k s zs) : slcells h s s.n 1 = some (zs.flatMap fun z => [.int k z]) := hr.toE.cells fun _ => rfl
theorem RdI.ix {α : Type} {B : Nat} {h : Hp} {k : IntKind} {s : Sl} {zs : List Int} (hr : RdI B h k s zs) {j : Nat} {K : Int → M α} {Q : α → Hp → Prop} (hj : j < zs.length) (hk : K (zs[j]'hj) h Q) : mIdx s (j : Int) 1 (fun a => mLdI k a K) h Q := by
  refine hr.idx (by omega) (by omega) fun a ha => mLdI_of ha ?_
  have : zs.getD (j : Int).toNat 0 = zs[j]'hj := by simp [hj]
  rw [this]; exact hk
/-- the bytes' string -/
def strOf (zs : List Int) : ByteArray := ⟨(zs.map fun z => UInt8.ofNat z.toNat).toArray⟩
theorem RdI.str {α : Type} {B : Nat} {h : Hp} {s : Sl} {zs : List Int} (hr : RdI B h .u8 s zs) {K : ByteArray → M α} {Q : α → Hp → Prop} (hk : K (strOf zs) h Q) : mStr s K h Q := by
  refine ⟨zs.map (fun z => UInt8.ofNat z.toNat), ?_, (show K ⟨(zs.map fun z => UInt8.ofNat z.toNat).toArray⟩ h Q from hk)⟩
  rw [hr.cells]
  congr 1
  have hwf := hr.wf
  clear hr hk
  induction zs with
  | nil => rfl
  | cons z zs ih =>
    have h1 := hwf z (by simp)
    rw [show IntKind.u8.min = 0 by decide, show IntKind.u8.max = 255 by decide] at h1
    rw [List.flatMap_cons, ih fun z hz => hwf z (by simp [hz])]
    simp only [List.map_cons, List.cons_append, List.nil_append]
    congr 2
    have : (UInt8.ofNat z.toNat).toNat = z.toNat := by
      rw [UInt8.toNat_ofNat']; omega
    rw [this]; omega
section
variable {α : Type} {h0 h : Hp} {L : List As} {Q : α → Hp → Prop} {s x : Sl} {kd : IntKind} {xs ys : List Int}
/-- numbers that can be read go behind a row of one's own -/
theorem Sep.appI {B : Nat} (hs : Sep h0 h L) (k : Nat) {T bytes : Nat} {zero : Array Value} {K : Sl → M α} (hk : L[k]? = some (aRow (fun z => [.int kd z]) 1 s xs)) (hr : RdI B h kd x ys)
    (hz : zero.size = 1) (hb : 0 < bytes) (hroom : (2 * (xs.length + ys.length) + 192) * bytes ≤ 2 ^ 48)
    (hK : ∀ s' h', s'.n = xs.length + ys.length → Sep h0 h' (L.set k (aRow (fun z => [.int kd z]) 1 s' (xs ++ ys))) → K s' h' Q) : mApp T 1 bytes zero s x K h Q :=
  hs.app_ k ys hk (fun _ => rfl) hr.cells hr.n (fun v hv => by obtain ⟨z, _, hz⟩ := List.mem_flatMap.1 hv; simp only [List.mem_singleton] at hz; subst hz; rfl) hz hb hroom hK
theorem Sep.rowI' (hs : Sep h0 h L) (i : Nat) (hk : L[i]? = some (aRow (fun z => [.int kd z]) 1 s xs)) (hwf : ∀ z ∈ xs, kd.min ≤ z ∧ z ≤ kd.max) : RdI h.size h kd s xs ∧ s.n ≤ s.c := ⟨hs.rowI i hk hwf, hs.rowCap i hk⟩
theorem Sep.blkI {b : Nat} (hs : Sep h0 h L) (i : Nat) (hk : L[i]? = some (aBlk b (xs.map (.int kd)))) (hwf : ∀ z ∈ xs, kd.min ≤ z ∧ z ≤ kd.max) {n c : Nat} (hn : n = xs.length) : RdI h.size h kd ⟨some ⟨b, 0, none⟩, n, c⟩ xs := by
  have hb := hs.blk i hk
  subst hn
  exact RdI.blk (rest := []) (by simpa using hb) hb.lt hwf
end
theorem RdT.cap {P : Program} {h : Hp} {t e : TypeId} {d : Nat} {a : Option Addr} {len cap : Nat} (hu : P.underlying t = some (.slice e)) (hr : RdT P h (d + 1) t [.slice a len cap]) : len ≤ cap := by
  unfold RdT at hr
  rw [hu] at hr
  simp only [] at hr
  rcases hr with h0 | ⟨ad, l, c, hcs, h1, h2, _⟩
  · simp only [List.cons.injEq, Value.slice.injEq, and_true] at h0
    omega
  · simp only [List.cons.injEq, Value.slice.injEq, and_true] at hcs
    omega
end Go.Sb
