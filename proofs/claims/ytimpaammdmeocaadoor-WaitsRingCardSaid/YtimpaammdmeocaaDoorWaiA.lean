/- The structs that the laws are told, row by row. Conditions: none. -/
import Derived.Test.YtimpaammdmeocaaDoorChecked
import Derived.Test.YtimpaammdmeocaaDoorSbW
import Derived.KernelRfl
set_option maxRecDepth 100000
set_option linter.unusedSimpArgs false
namespace Go.Proofs.YtimpaammdmeocaaDoor
open Go Go.Sb
structure WPair where
  a : Int
  b : Int
  stop : Bool
def WPair.enc (x : WPair) : List Value := [.int .i64 x.a, .int .i64 x.b, .bool x.stop]
def WPair.ok (_h : Hp) (x : WPair) : Prop := (-9223372036854775808 ≤ x.a ∧ x.a ≤ 9223372036854775807) ∧ (-9223372036854775808 ≤ x.b ∧ x.b ≤ 9223372036854775807)
theorem WPair.of_rd {h : Hp} {d : Nat} {cs : List Value} (hcs : RdT Tryd.prog h (d + 2) 44 cs) : ∃ x : WPair, cs = x.enc ∧ x.ok h := by
  obtain ⟨hlen, hf⟩ := RdT.fields (l := [(3, 0), (3, 1), (4, 2)]) (by kernel_rfl) hcs
  rw [show Tryd.prog.cellsOf 44 = 3 by kernel_rfl] at hlen
  obtain ⟨c0, c1, c2, rfl⟩ : ∃ c0 c1 c2, cs = [c0, c1, c2] := by
    match cs, hlen with
    | [c0, c1, c2], _ => exact ⟨c0, c1, c2, rfl⟩
  have g0 := hf 0 3 0 rfl
  rw [show Tryd.prog.cellsOf 3 = 1 by kernel_rfl] at g0
  simp only [List.drop_succ_cons, List.drop_zero, List.take_succ_cons, List.take_zero] at g0
  obtain ⟨n0, e0, l0, m0⟩ := RdT.int (show Tryd.prog.underlying 3 = some (.int .i64) by kernel_rfl) g0
  rw [show IntKind.i64.min = -9223372036854775808 by decide] at l0
  rw [show IntKind.i64.max = 9223372036854775807 by decide] at m0
  simp only [List.cons.injEq, and_true] at e0
  have g1 := hf 1 3 1 rfl
  rw [show Tryd.prog.cellsOf 3 = 1 by kernel_rfl] at g1
  simp only [List.drop_succ_cons, List.drop_zero, List.take_succ_cons, List.take_zero] at g1
  obtain ⟨n1, e1, l1, m1⟩ := RdT.int (show Tryd.prog.underlying 3 = some (.int .i64) by kernel_rfl) g1
  rw [show IntKind.i64.min = -9223372036854775808 by decide] at l1
  rw [show IntKind.i64.max = 9223372036854775807 by decide] at m1
  simp only [List.cons.injEq, and_true] at e1
  have g2 := hf 2 4 2 rfl
  rw [show Tryd.prog.cellsOf 4 = 1 by kernel_rfl] at g2
  simp only [List.drop_succ_cons, List.drop_zero, List.take_succ_cons, List.take_zero] at g2
  obtain ⟨n2, e2⟩ := RdT.bool (show Tryd.prog.underlying 4 = some .bool by kernel_rfl) g2
  simp only [List.cons.injEq, and_true] at e2
  exact ⟨⟨n0, n1, n2⟩, by simp [WPair.enc, e0, e1, e2], ⟨l0, m0⟩, ⟨l1, m1⟩⟩
theorem open_22 {h : Hp} {a : Option Addr} {len cap : Nat} (hr : RdT Tryd.prog h 12 22 [.slice a len cap]) : ∃ xs : List WPair, RdE h.size h WPair.enc 3 ⟨a, len, cap⟩ xs ∧ ∀ x ∈ xs, x.ok h :=
  open_rdEok (e := 44) (d := 11) (by kernel_rfl) (by kernel_rfl) (by intro x; simp [WPair.enc]) (fun cs hcs => WPair.of_rd hcs) hr
end Go.Proofs.YtimpaammdmeocaaDoor
