/- The structs that the laws are told, row by row. Conditions: none. -/
import Derived.Test.YtjifoicncenfpaaChecked
import Derived.Test.YtjifoicncenfpaaSbW
import Derived.KernelRfl
set_option maxRecDepth 100000
set_option linter.unusedSimpArgs false
namespace Go.Proofs.Ytjifoicncenfpaa
open Go Go.Sb
structure Ld where
  cost : Int
  period : Int
def Ld.enc (x : Ld) : List Value := [.int .u64 x.cost, .int .u64 x.period]
def Ld.ok (_h : Hp) (x : Ld) : Prop := (0 ≤ x.cost ∧ x.cost ≤ 18446744073709551615) ∧ (0 ≤ x.period ∧ x.period ≤ 18446744073709551615)
theorem Ld.of_rd {h : Hp} {d : Nat} {cs : List Value} (hcs : RdT Try.prog h (d + 2) 95 cs) : ∃ x : Ld, cs = x.enc ∧ x.ok h := by
  obtain ⟨hlen, hf⟩ := RdT.fields (l := [(81, 0), (81, 1)]) (by kernel_rfl) hcs
  rw [show Try.prog.cellsOf 95 = 2 by kernel_rfl] at hlen
  obtain ⟨c0, c1, rfl⟩ : ∃ c0 c1, cs = [c0, c1] := by
    match cs, hlen with
    | [c0, c1], _ => exact ⟨c0, c1, rfl⟩
  have g0 := hf 0 81 0 rfl
  rw [show Try.prog.cellsOf 81 = 1 by kernel_rfl] at g0
  simp only [List.drop_succ_cons, List.drop_zero, List.take_succ_cons, List.take_zero] at g0
  obtain ⟨n0, e0, l0, m0⟩ := RdT.int (show Try.prog.underlying 81 = some (.int .u64) by kernel_rfl) g0
  rw [show IntKind.u64.min = 0 by decide] at l0
  rw [show IntKind.u64.max = 18446744073709551615 by decide] at m0
  simp only [List.cons.injEq, and_true] at e0
  have g1 := hf 1 81 1 rfl
  rw [show Try.prog.cellsOf 81 = 1 by kernel_rfl] at g1
  simp only [List.drop_succ_cons, List.drop_zero, List.take_succ_cons, List.take_zero] at g1
  obtain ⟨n1, e1, l1, m1⟩ := RdT.int (show Try.prog.underlying 81 = some (.int .u64) by kernel_rfl) g1
  rw [show IntKind.u64.min = 0 by decide] at l1
  rw [show IntKind.u64.max = 18446744073709551615 by decide] at m1
  simp only [List.cons.injEq, and_true] at e1
  exact ⟨⟨n0, n1⟩, by simp [Ld.enc, e0, e1], ⟨l0, m0⟩, ⟨l1, m1⟩⟩
theorem open_82 {h : Hp} {a : Option Addr} {len cap : Nat} (hr : RdT Try.prog h 12 82 [.slice a len cap]) : ∃ xs : List Ld, RdE h.size h Ld.enc 2 ⟨a, len, cap⟩ xs ∧ ∀ x ∈ xs, x.ok h :=
  open_rdEok (e := 95) (d := 11) (by kernel_rfl) (by kernel_rfl) (by intro x; simp [Ld.enc]) (fun cs hcs => Ld.of_rd hcs) hr
end Go.Proofs.Ytjifoicncenfpaa
