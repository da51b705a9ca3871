/- The structs that the laws are told, row by row. Conditions: none. -/
import Derived.Test.YtbpnpmknamghkaaChecked
import Derived.Test.YtbpnpmknamghkaaSbW
import Derived.KernelRfl
set_option maxRecDepth 100000
set_option linter.unusedSimpArgs false
namespace Go.Proofs.Ytbpnpmknamghkaa
open Go Go.Sb
structure AAct where
  kind : Int
  who : Int
  base : Int
def AAct.enc (x : AAct) : List Value := [.int .u8 x.kind, .int .i64 x.who, .int .i64 x.base]
def AAct.ok (_h : Hp) (x : AAct) : Prop := (0 ≤ x.kind ∧ x.kind ≤ 255) ∧ (-9223372036854775808 ≤ x.who ∧ x.who ≤ 9223372036854775807) ∧ (-9223372036854775808 ≤ x.base ∧ x.base ≤ 9223372036854775807)
theorem AAct.of_rd {h : Hp} {d : Nat} {cs : List Value} (hcs : RdT Try.prog h (d + 2) 55 cs) : ∃ x : AAct, cs = x.enc ∧ x.ok h := by
  obtain ⟨hlen, hf⟩ := RdT.fields (l := [(5, 0), (3, 1), (3, 2)]) (by kernel_rfl) hcs
  rw [show Try.prog.cellsOf 55 = 3 by kernel_rfl] at hlen
  obtain ⟨c0, c1, c2, rfl⟩ : ∃ c0 c1 c2, cs = [c0, c1, c2] := by
    match cs, hlen with
    | [c0, c1, c2], _ => exact ⟨c0, c1, c2, rfl⟩
  have g0 := hf 0 5 0 rfl
  rw [show Try.prog.cellsOf 5 = 1 by kernel_rfl] at g0
  simp only [List.drop_succ_cons, List.drop_zero, List.take_succ_cons, List.take_zero] at g0
  obtain ⟨n0, e0, l0, m0⟩ := RdT.int (show Try.prog.underlying 5 = some (.int .u8) by kernel_rfl) g0
  rw [show IntKind.u8.min = 0 by decide] at l0
  rw [show IntKind.u8.max = 255 by decide] at m0
  simp only [List.cons.injEq, and_true] at e0
  have g1 := hf 1 3 1 rfl
  rw [show Try.prog.cellsOf 3 = 1 by kernel_rfl] at g1
  simp only [List.drop_succ_cons, List.drop_zero, List.take_succ_cons, List.take_zero] at g1
  obtain ⟨n1, e1, l1, m1⟩ := RdT.int (show Try.prog.underlying 3 = some (.int .i64) by kernel_rfl) g1
  rw [show IntKind.i64.min = -9223372036854775808 by decide] at l1
  rw [show IntKind.i64.max = 9223372036854775807 by decide] at m1
  simp only [List.cons.injEq, and_true] at e1
  have g2 := hf 2 3 2 rfl
  rw [show Try.prog.cellsOf 3 = 1 by kernel_rfl] at g2
  simp only [List.drop_succ_cons, List.drop_zero, List.take_succ_cons, List.take_zero] at g2
  obtain ⟨n2, e2, l2, m2⟩ := RdT.int (show Try.prog.underlying 3 = some (.int .i64) by kernel_rfl) g2
  rw [show IntKind.i64.min = -9223372036854775808 by decide] at l2
  rw [show IntKind.i64.max = 9223372036854775807 by decide] at m2
  simp only [List.cons.injEq, and_true] at e2
  exact ⟨⟨n0, n1, n2⟩, by simp [AAct.enc, e0, e1, e2], ⟨l0, m0⟩, ⟨l1, m1⟩, ⟨l2, m2⟩⟩
theorem open_49 {h : Hp} {a : Option Addr} {len cap : Nat} (hr : RdT Try.prog h 12 49 [.slice a len cap]) : ∃ xs : List AAct, RdE h.size h AAct.enc 3 ⟨a, len, cap⟩ xs ∧ ∀ x ∈ xs, x.ok h :=
  open_rdEok (e := 55) (d := 11) (by kernel_rfl) (by kernel_rfl) (by intro x; simp [AAct.enc]) (fun cs hcs => AAct.of_rd hcs) hr
end Go.Proofs.Ytbpnpmknamghkaa
