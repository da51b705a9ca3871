/- The structs that the laws are told, row by row. Conditions: none. -/
import Derived.Test.YtinjifhjjkdmoaaChecked
import Derived.Test.YtinjifhjjkdmoaaSbW
import Derived.KernelRfl
set_option maxRecDepth 100000
set_option linter.unusedSimpArgs false
namespace Go.Proofs.Ytinjifhjjkdmoaa
open Go Go.Sb
structure DAct where
  kind : Int
  key : Int
  ticks : Int
def DAct.enc (x : DAct) : List Value := [.int .u8 x.kind, .int .i64 x.key, .int .i64 x.ticks]
def DAct.ok (_h : Hp) (x : DAct) : Prop := (0 ≤ x.kind ∧ x.kind ≤ 255) ∧ (-9223372036854775808 ≤ x.key ∧ x.key ≤ 9223372036854775807) ∧ (-9223372036854775808 ≤ x.ticks ∧ x.ticks ≤ 9223372036854775807)
theorem DAct.of_rd {h : Hp} {d : Nat} {cs : List Value} (hcs : RdT Try.prog h (d + 2) 39 cs) : ∃ x : DAct, cs = x.enc ∧ x.ok h := by
  obtain ⟨hlen, hf⟩ := RdT.fields (l := [(5, 0), (3, 1), (3, 2)]) (by kernel_rfl) hcs
  rw [show Try.prog.cellsOf 39 = 3 by kernel_rfl] at hlen
  obtain ⟨c0, c1, c2, rfl⟩ : ∃ c0 c1 c2, cs = [c0, c1, c2] := by
    match cs, hlen with
    | [c0, c1, c2], _ => exact ⟨c0, c1, c2, rfl⟩
  have g0 := hf 0 5 0 rfl
  rw [show Try.prog.cellsOf 5 = 1 by kernel_rfl] at g0
  simp only [List.drop_succ_cons, List.drop_zero, List.take_succ_cons, List.take_zero] at g0
  obtain ⟨n0, e0, l0, m0⟩ := RdT.int (show Try.prog.underlying 5 = some (.int .u8) by kernel_rfl) g0
  rw [show IntKind.u8.min = 0 by decide] at l0
  rw [show IntKind.u8.max = 255 by decide] at m0
  simp only [List.cons.injEq, and_true] at e0
  have g1 := hf 1 3 1 rfl
  rw [show Try.prog.cellsOf 3 = 1 by kernel_rfl] at g1
  simp only [List.drop_succ_cons, List.drop_zero, List.take_succ_cons, List.take_zero] at g1
  obtain ⟨n1, e1, l1, m1⟩ := RdT.int (show Try.prog.underlying 3 = some (.int .i64) by kernel_rfl) g1
  rw [show IntKind.i64.min = -9223372036854775808 by decide] at l1
  rw [show IntKind.i64.max = 9223372036854775807 by decide] at m1
  simp only [List.cons.injEq, and_true] at e1
  have g2 := hf 2 3 2 rfl
  rw [show Try.prog.cellsOf 3 = 1 by kernel_rfl] at g2
  simp only [List.drop_succ_cons, List.drop_zero, List.take_succ_cons, List.take_zero] at g2
  obtain ⟨n2, e2, l2, m2⟩ := RdT.int (show Try.prog.underlying 3 = some (.int .i64) by kernel_rfl) g2
  rw [show IntKind.i64.min = -9223372036854775808 by decide] at l2
  rw [show IntKind.i64.max = 9223372036854775807 by decide] at m2
  simp only [List.cons.injEq, and_true] at e2
  exact ⟨⟨n0, n1, n2⟩, by simp [DAct.enc, e0, e1, e2], ⟨l0, m0⟩, ⟨l1, m1⟩, ⟨l2, m2⟩⟩
theorem open_34 {h : Hp} {a : Option Addr} {len cap : Nat} (hr : RdT Try.prog h 12 34 [.slice a len cap]) : ∃ xs : List DAct, RdE h.size h DAct.enc 3 ⟨a, len, cap⟩ xs ∧ ∀ x ∈ xs, x.ok h :=
  open_rdEok (e := 39) (d := 11) (by kernel_rfl) (by kernel_rfl) (by intro x; simp [DAct.enc]) (fun cs hcs => DAct.of_rd hcs) hr
end Go.Proofs.Ytinjifhjjkdmoaa
