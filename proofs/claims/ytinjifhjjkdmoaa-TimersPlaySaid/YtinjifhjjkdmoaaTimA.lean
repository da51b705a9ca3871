/- The structs that the laws are told, row by row. Conditions: none. -/
import Derived.Test.YtinjifhjjkdmoaaChecked
import Derived.Test.YtinjifhjjkdmoaaSbW
import Derived.KernelRfl
set_option maxRecDepth 100000
set_option linter.unusedSimpArgs false
namespace Go.Proofs.Ytinjifhjjkdmoaa
open Go Go.Sb
structure TAct where
  kind : Int
  id : Int
  ticks : Int
  gap : Int
def TAct.enc (x : TAct) : List Value := [.int .u8 x.kind, .int .i64 x.id, .int .i64 x.ticks, .int .i64 x.gap]
def TAct.ok (_h : Hp) (x : TAct) : Prop := (0 ≤ x.kind ∧ x.kind ≤ 255) ∧ (-9223372036854775808 ≤ x.id ∧ x.id ≤ 9223372036854775807) ∧ (-9223372036854775808 ≤ x.ticks ∧ x.ticks ≤ 9223372036854775807) ∧ (-9223372036854775808 ≤ x.gap ∧ x.gap ≤ 9223372036854775807)
theorem TAct.of_rd {h : Hp} {d : Nat} {cs : List Value} (hcs : RdT Try.prog h (d + 2) 83 cs) : ∃ x : TAct, cs = x.enc ∧ x.ok h := by
  obtain ⟨hlen, hf⟩ := RdT.fields (l := [(5, 0), (3, 1), (3, 2), (3, 3)]) (by kernel_rfl) hcs
  rw [show Try.prog.cellsOf 83 = 4 by kernel_rfl] at hlen
  obtain ⟨c0, c1, c2, c3, rfl⟩ : ∃ c0 c1 c2 c3, cs = [c0, c1, c2, c3] := by
    match cs, hlen with
    | [c0, c1, c2, c3], _ => exact ⟨c0, c1, c2, c3, rfl⟩
  have g0 := hf 0 5 0 rfl
  rw [show Try.prog.cellsOf 5 = 1 by kernel_rfl] at g0
  simp only [List.drop_succ_cons, List.drop_zero, List.take_succ_cons, List.take_zero] at g0
  obtain ⟨n0, e0, l0, m0⟩ := RdT.int (show Try.prog.underlying 5 = some (.int .u8) by kernel_rfl) g0
  rw [show IntKind.u8.min = 0 by decide] at l0
  rw [show IntKind.u8.max = 255 by decide] at m0
  simp only [List.cons.injEq, and_true] at e0
  have g1 := hf 1 3 1 rfl
  rw [show Try.prog.cellsOf 3 = 1 by kernel_rfl] at g1
  simp only [List.drop_succ_cons, List.drop_zero, List.take_succ_cons, List.take_zero] at g1
  obtain ⟨n1, e1, l1, m1⟩ := RdT.int (show Try.prog.underlying 3 = some (.int .i64) by kernel_rfl) g1
  rw [show IntKind.i64.min = -9223372036854775808 by decide] at l1
  rw [show IntKind.i64.max = 9223372036854775807 by decide] at m1
  simp only [List.cons.injEq, and_true] at e1
  have g2 := hf 2 3 2 rfl
  rw [show Try.prog.cellsOf 3 = 1 by kernel_rfl] at g2
  simp only [List.drop_succ_cons, List.drop_zero, List.take_succ_cons, List.take_zero] at g2
  obtain ⟨n2, e2, l2, m2⟩ := RdT.int (show Try.prog.underlying 3 = some (.int .i64) by kernel_rfl) g2
  rw [show IntKind.i64.min = -9223372036854775808 by decide] at l2
  rw [show IntKind.i64.max = 9223372036854775807 by decide] at m2
  simp only [List.cons.injEq, and_true] at e2
  have g3 := hf 3 3 3 rfl
  rw [show Try.prog.cellsOf 3 = 1 by kernel_rfl] at g3
  simp only [List.drop_succ_cons, List.drop_zero, List.take_succ_cons, List.take_zero] at g3
  obtain ⟨n3, e3, l3, m3⟩ := RdT.int (show Try.prog.underlying 3 = some (.int .i64) by kernel_rfl) g3
  rw [show IntKind.i64.min = -9223372036854775808 by decide] at l3
  rw [show IntKind.i64.max = 9223372036854775807 by decide] at m3
  simp only [List.cons.injEq, and_true] at e3
  exact ⟨⟨n0, n1, n2, n3⟩, by simp [TAct.enc, e0, e1, e2, e3], ⟨l0, m0⟩, ⟨l1, m1⟩, ⟨l2, m2⟩, ⟨l3, m3⟩⟩
theorem open_78 {h : Hp} {a : Option Addr} {len cap : Nat} (hr : RdT Try.prog h 12 78 [.slice a len cap]) : ∃ xs : List TAct, RdE h.size h TAct.enc 4 ⟨a, len, cap⟩ xs ∧ ∀ x ∈ xs, x.ok h :=
  open_rdEok (e := 83) (d := 11) (by kernel_rfl) (by kernel_rfl) (by intro x; simp [TAct.enc]) (fun cs hcs => TAct.of_rd hcs) hr
end Go.Proofs.Ytinjifhjjkdmoaa
