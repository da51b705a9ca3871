/- How large an argument's slice can be. Conditions: none. -/
import Derived.Test.YtinjifhjjkdmoaaSbY
import Derived.SizedLaws
namespace Go.Sb
open Go
theorem RdT.sized {H : Type} {enc : TypeId × Value → H} {P : Program} {w : World} {base : Nat} {spare : Nat → Bool} {held : Bool} {t e : TypeId} {a : Option Addr} {len cap j : Nat} {d : DataW H} {p : List MemPlace} {ts : List TypeId} {ds : List (DataW H)}
    (hu : P.underlying t = some (.slice e)) (h : ∃ m, DataW.trod enc P w base spare held m t [.slice a len cap] = some (d, p)) (hsz : (DataW.weightsEach P ts ds).all (· ≤ reachBytes) = true) (ht : ts[j]? = some t) (hd : ds[j]? = some d) : len * P.bytesOf e ≤ 140737488351232 := by
  obtain ⟨m, h⟩ := h
  rcases Go.Deep.open_slice hu h with ⟨h0, _⟩ | ⟨a', len', cap', m', n, D, Pl, e1, _, hl, hm, hmm, e2, hi⟩
  · simp only [List.cons.injEq, Value.slice.injEq, and_true] at h0
    rw [h0.2.1]; omega
  · simp only [List.cons.injEq, Value.slice.injEq, and_true] at e1
    obtain ⟨_, rfl, _⟩ := e1
    simp only [Prod.mk.injEq] at e2
    have := sized_slice hsz ht (by rw [hd, e2.1]) hu
    simp only [List.length_map, List.length_range] at this
    have h2 : reachBytes = 140737488351232 := by decide
    rw [Nat.add_mul] at this
    omega
end Go.Sb
