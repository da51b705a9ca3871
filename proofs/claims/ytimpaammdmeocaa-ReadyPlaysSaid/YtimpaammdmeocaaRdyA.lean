/- The structs that the laws are told, row by row. Conditions: none. -/
import Derived.Test.YtimpaammdmeocaaChecked
import Derived.Test.YtimpaammdmeocaaSbW
import Derived.KernelRfl
set_option maxRecDepth 100000
set_option linter.unusedSimpArgs false
namespace Go.Proofs.Ytimpaammdmeocaa
open Go Go.Sb
structure RAct where
  take : Bool
  task : Int
  at_ : Int
def RAct.enc (x : RAct) : List Value := [.bool x.take, .int .i64 x.task, .int .i64 x.at_]
def RAct.ok (_h : Hp) (x : RAct) : Prop := (-9223372036854775808 ≤ x.task ∧ x.task ≤ 9223372036854775807) ∧ (-9223372036854775808 ≤ x.at_ ∧ x.at_ ≤ 9223372036854775807)
theorem RAct.of_rd {h : Hp} {d : Nat} {cs : List Value} (hcs : RdT Try.prog h (d + 2) 62 cs) : ∃ x : RAct, cs = x.enc ∧ x.ok h := by
  obtain ⟨hlen, hf⟩ := RdT.fields (l := [(4, 0), (3, 1), (3, 2)]) (by kernel_rfl) hcs
  rw [show Try.prog.cellsOf 62 = 3 by kernel_rfl] at hlen
  obtain ⟨c0, c1, c2, rfl⟩ : ∃ c0 c1 c2, cs = [c0, c1, c2] := by
    match cs, hlen with
    | [c0, c1, c2], _ => exact ⟨c0, c1, c2, rfl⟩
  have g0 := hf 0 4 0 rfl
  rw [show Try.prog.cellsOf 4 = 1 by kernel_rfl] at g0
  simp only [List.drop_succ_cons, List.drop_zero, List.take_succ_cons, List.take_zero] at g0
  obtain ⟨n0, e0⟩ := RdT.bool (show Try.prog.underlying 4 = some .bool by kernel_rfl) g0
  simp only [List.cons.injEq, and_true] at e0
  have g1 := hf 1 3 1 rfl
  rw [show Try.prog.cellsOf 3 = 1 by kernel_rfl] at g1
  simp only [List.drop_succ_cons, List.drop_zero, List.take_succ_cons, List.take_zero] at g1
  obtain ⟨n1, e1, l1, m1⟩ := RdT.int (show Try.prog.underlying 3 = some (.int .i64) by kernel_rfl) g1
  rw [show IntKind.i64.min = -9223372036854775808 by decide] at l1
  rw [show IntKind.i64.max = 9223372036854775807 by decide] at m1
  simp only [List.cons.injEq, and_true] at e1
  have g2 := hf 2 3 2 rfl
  rw [show Try.prog.cellsOf 3 = 1 by kernel_rfl] at g2
  simp only [List.drop_succ_cons, List.drop_zero, List.take_succ_cons, List.take_zero] at g2
  obtain ⟨n2, e2, l2, m2⟩ := RdT.int (show Try.prog.underlying 3 = some (.int .i64) by kernel_rfl) g2
  rw [show IntKind.i64.min = -9223372036854775808 by decide] at l2
  rw [show IntKind.i64.max = 9223372036854775807 by decide] at m2
  simp only [List.cons.injEq, and_true] at e2
  exact ⟨⟨n0, n1, n2⟩, by simp [RAct.enc, e0, e1, e2], ⟨l1, m1⟩, ⟨l2, m2⟩⟩
theorem open_46 {h : Hp} {a : Option Addr} {len cap : Nat} (hr : RdT Try.prog h 12 46 [.slice a len cap]) : ∃ xs : List RAct, RdE h.size h RAct.enc 3 ⟨a, len, cap⟩ xs ∧ ∀ x ∈ xs, x.ok h :=
  open_rdEok (e := 62) (d := 11) (by kernel_rfl) (by kernel_rfl) (by intro x; simp [RAct.enc]) (fun cs hcs => RAct.of_rd hcs) hr
end Go.Proofs.Ytimpaammdmeocaa
