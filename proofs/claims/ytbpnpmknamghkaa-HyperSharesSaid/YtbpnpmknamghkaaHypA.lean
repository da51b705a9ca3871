/- The structs that the laws are told, row by row. Conditions: none. -/
import Derived.Test.YtbpnpmknamghkaaChecked
import Derived.Test.YtbpnpmknamghkaaSbW
import Derived.KernelRfl
set_option maxRecDepth 100000
set_option linter.unusedSimpArgs false
namespace Go.Proofs.Ytbpnpmknamghkaa
open Go Go.Sb
structure Share where
  over : Int
  under : Int
def Share.enc (x : Share) : List Value := [.int .u64 x.over, .int .u64 x.under]
def Share.ok (_h : Hp) (x : Share) : Prop := (0 ≤ x.over ∧ x.over ≤ 18446744073709551615) ∧ (0 ≤ x.under ∧ x.under ≤ 18446744073709551615)
theorem Share.of_rd {h : Hp} {d : Nat} {cs : List Value} (hcs : RdT Try.prog h (d + 2) 29 cs) : ∃ x : Share, cs = x.enc ∧ x.ok h := by
  obtain ⟨hlen, hf⟩ := RdT.fields (l := [(22, 0), (22, 1)]) (by kernel_rfl) hcs
  rw [show Try.prog.cellsOf 29 = 2 by kernel_rfl] at hlen
  obtain ⟨c0, c1, rfl⟩ : ∃ c0 c1, cs = [c0, c1] := by
    match cs, hlen with
    | [c0, c1], _ => exact ⟨c0, c1, rfl⟩
  have g0 := hf 0 22 0 rfl
  rw [show Try.prog.cellsOf 22 = 1 by kernel_rfl] at g0
  simp only [List.drop_succ_cons, List.drop_zero, List.take_succ_cons, List.take_zero] at g0
  obtain ⟨n0, e0, l0, m0⟩ := RdT.int (show Try.prog.underlying 22 = some (.int .u64) by kernel_rfl) g0
  rw [show IntKind.u64.min = 0 by decide] at l0
  rw [show IntKind.u64.max = 18446744073709551615 by decide] at m0
  simp only [List.cons.injEq, and_true] at e0
  have g1 := hf 1 22 1 rfl
  rw [show Try.prog.cellsOf 22 = 1 by kernel_rfl] at g1
  simp only [List.drop_succ_cons, List.drop_zero, List.take_succ_cons, List.take_zero] at g1
  obtain ⟨n1, e1, l1, m1⟩ := RdT.int (show Try.prog.underlying 22 = some (.int .u64) by kernel_rfl) g1
  rw [show IntKind.u64.min = 0 by decide] at l1
  rw [show IntKind.u64.max = 18446744073709551615 by decide] at m1
  simp only [List.cons.injEq, and_true] at e1
  exact ⟨⟨n0, n1⟩, by simp [Share.enc, e0, e1], ⟨l0, m0⟩, ⟨l1, m1⟩⟩
end Go.Proofs.Ytbpnpmknamghkaa
