/- The structs that the laws are told, row by row. Conditions: none. -/
import Derived.Test.YtjifoicncenfpaaChecked
import Derived.Test.YtjifoicncenfpaaSbW
import Derived.KernelRfl
set_option maxRecDepth 100000
set_option linter.unusedSimpArgs false
namespace Go.Proofs.Ytjifoicncenfpaa
open Go Go.Sb
structure COp where
  kind : Int
  a : Int
  b : Int
def COp.enc (x : COp) : List Value := [.int .i64 x.kind, .int .i64 x.a, .int .i64 x.b]
def COp.ok (_h : Hp) (x : COp) : Prop := (-9223372036854775808 ≤ x.kind ∧ x.kind ≤ 9223372036854775807) ∧ (-9223372036854775808 ≤ x.a ∧ x.a ≤ 9223372036854775807) ∧ (-9223372036854775808 ≤ x.b ∧ x.b ≤ 9223372036854775807)
theorem COp.of_rd {h : Hp} {d : Nat} {cs : List Value} (hcs : RdT Try.prog h (d + 2) 52 cs) : ∃ x : COp, cs = x.enc ∧ x.ok h := by
  obtain ⟨hlen, hf⟩ := RdT.fields (l := [(3, 0), (3, 1), (3, 2)]) (by kernel_rfl) hcs
  rw [show Try.prog.cellsOf 52 = 3 by kernel_rfl] at hlen
  obtain ⟨c0, c1, c2, rfl⟩ : ∃ c0 c1 c2, cs = [c0, c1, c2] := by
    match cs, hlen with
    | [c0, c1, c2], _ => exact ⟨c0, c1, c2, rfl⟩
  have g0 := hf 0 3 0 rfl
  rw [show Try.prog.cellsOf 3 = 1 by kernel_rfl] at g0
  simp only [List.drop_succ_cons, List.drop_zero, List.take_succ_cons, List.take_zero] at g0
  obtain ⟨n0, e0, l0, m0⟩ := RdT.int (show Try.prog.underlying 3 = some (.int .i64) by kernel_rfl) g0
  rw [show IntKind.i64.min = -9223372036854775808 by decide] at l0
  rw [show IntKind.i64.max = 9223372036854775807 by decide] at m0
  simp only [List.cons.injEq, and_true] at e0
  have g1 := hf 1 3 1 rfl
  rw [show Try.prog.cellsOf 3 = 1 by kernel_rfl] at g1
  simp only [List.drop_succ_cons, List.drop_zero, List.take_succ_cons, List.take_zero] at g1
  obtain ⟨n1, e1, l1, m1⟩ := RdT.int (show Try.prog.underlying 3 = some (.int .i64) by kernel_rfl) g1
  rw [show IntKind.i64.min = -9223372036854775808 by decide] at l1
  rw [show IntKind.i64.max = 9223372036854775807 by decide] at m1
  simp only [List.cons.injEq, and_true] at e1
  have g2 := hf 2 3 2 rfl
  rw [show Try.prog.cellsOf 3 = 1 by kernel_rfl] at g2
  simp only [List.drop_succ_cons, List.drop_zero, List.take_succ_cons, List.take_zero] at g2
  obtain ⟨n2, e2, l2, m2⟩ := RdT.int (show Try.prog.underlying 3 = some (.int .i64) by kernel_rfl) g2
  rw [show IntKind.i64.min = -9223372036854775808 by decide] at l2
  rw [show IntKind.i64.max = 9223372036854775807 by decide] at m2
  simp only [List.cons.injEq, and_true] at e2
  exact ⟨⟨n0, n1, n2⟩, by simp [COp.enc, e0, e1, e2], ⟨l0, m0⟩, ⟨l1, m1⟩, ⟨l2, m2⟩⟩
structure CTask where
  priority : Int
  threshold : Int
  period : Int
  deadline : Int
  frame : Int
  float : Int
  program : Sl
def CTask.enc (x : CTask) : List Value := [.int .i64 x.priority, .int .i64 x.threshold, .int .i64 x.period, .int .i64 x.deadline, .int .i64 x.frame, .int .i64 x.float, .slice x.program.p x.program.n x.program.c]
def CTask.ok (h : Hp) (x : CTask) : Prop := (-9223372036854775808 ≤ x.priority ∧ x.priority ≤ 9223372036854775807) ∧ (-9223372036854775808 ≤ x.threshold ∧ x.threshold ≤ 9223372036854775807) ∧ (-9223372036854775808 ≤ x.period ∧ x.period ≤ 9223372036854775807) ∧ (-9223372036854775808 ≤ x.deadline ∧ x.deadline ≤ 9223372036854775807) ∧ (-9223372036854775808 ≤ x.frame ∧ x.frame ≤ 9223372036854775807) ∧ (-9223372036854775808 ≤ x.float ∧ x.float ≤ 9223372036854775807) ∧ ((x.program.n : Int) ≤ 9223372036854775807) ∧ (∃ xs : List COp, RdE h.size h COp.enc 3 x.program xs ∧ ∀ y ∈ xs, y.ok h)
theorem CTask.of_rd {h : Hp} {d : Nat} {cs : List Value} (hcs : RdT Try.prog h (d + 4) 40 cs) : ∃ x : CTask, cs = x.enc ∧ x.ok h := by
  obtain ⟨hlen, hf⟩ := RdT.fields (l := [(3, 0), (3, 1), (3, 2), (3, 3), (3, 4), (3, 5), (38, 6)]) (by kernel_rfl) hcs
  rw [show Try.prog.cellsOf 40 = 7 by kernel_rfl] at hlen
  obtain ⟨c0, c1, c2, c3, c4, c5, c6, rfl⟩ : ∃ c0 c1 c2 c3 c4 c5 c6, cs = [c0, c1, c2, c3, c4, c5, c6] := by
    match cs, hlen with
    | [c0, c1, c2, c3, c4, c5, c6], _ => exact ⟨c0, c1, c2, c3, c4, c5, c6, rfl⟩
  have g0 := hf 0 3 0 rfl
  rw [show Try.prog.cellsOf 3 = 1 by kernel_rfl] at g0
  simp only [List.drop_succ_cons, List.drop_zero, List.take_succ_cons, List.take_zero] at g0
  obtain ⟨n0, e0, l0, m0⟩ := RdT.int (show Try.prog.underlying 3 = some (.int .i64) by kernel_rfl) g0
  rw [show IntKind.i64.min = -9223372036854775808 by decide] at l0
  rw [show IntKind.i64.max = 9223372036854775807 by decide] at m0
  simp only [List.cons.injEq, and_true] at e0
  have g1 := hf 1 3 1 rfl
  rw [show Try.prog.cellsOf 3 = 1 by kernel_rfl] at g1
  simp only [List.drop_succ_cons, List.drop_zero, List.take_succ_cons, List.take_zero] at g1
  obtain ⟨n1, e1, l1, m1⟩ := RdT.int (show Try.prog.underlying 3 = some (.int .i64) by kernel_rfl) g1
  rw [show IntKind.i64.min = -9223372036854775808 by decide] at l1
  rw [show IntKind.i64.max = 9223372036854775807 by decide] at m1
  simp only [List.cons.injEq, and_true] at e1
  have g2 := hf 2 3 2 rfl
  rw [show Try.prog.cellsOf 3 = 1 by kernel_rfl] at g2
  simp only [List.drop_succ_cons, List.drop_zero, List.take_succ_cons, List.take_zero] at g2
  obtain ⟨n2, e2, l2, m2⟩ := RdT.int (show Try.prog.underlying 3 = some (.int .i64) by kernel_rfl) g2
  rw [show IntKind.i64.min = -9223372036854775808 by decide] at l2
  rw [show IntKind.i64.max = 9223372036854775807 by decide] at m2
  simp only [List.cons.injEq, and_true] at e2
  have g3 := hf 3 3 3 rfl
  rw [show Try.prog.cellsOf 3 = 1 by kernel_rfl] at g3
  simp only [List.drop_succ_cons, List.drop_zero, List.take_succ_cons, List.take_zero] at g3
  obtain ⟨n3, e3, l3, m3⟩ := RdT.int (show Try.prog.underlying 3 = some (.int .i64) by kernel_rfl) g3
  rw [show IntKind.i64.min = -9223372036854775808 by decide] at l3
  rw [show IntKind.i64.max = 9223372036854775807 by decide] at m3
  simp only [List.cons.injEq, and_true] at e3
  have g4 := hf 4 3 4 rfl
  rw [show Try.prog.cellsOf 3 = 1 by kernel_rfl] at g4
  simp only [List.drop_succ_cons, List.drop_zero, List.take_succ_cons, List.take_zero] at g4
  obtain ⟨n4, e4, l4, m4⟩ := RdT.int (show Try.prog.underlying 3 = some (.int .i64) by kernel_rfl) g4
  rw [show IntKind.i64.min = -9223372036854775808 by decide] at l4
  rw [show IntKind.i64.max = 9223372036854775807 by decide] at m4
  simp only [List.cons.injEq, and_true] at e4
  have g5 := hf 5 3 5 rfl
  rw [show Try.prog.cellsOf 3 = 1 by kernel_rfl] at g5
  simp only [List.drop_succ_cons, List.drop_zero, List.take_succ_cons, List.take_zero] at g5
  obtain ⟨n5, e5, l5, m5⟩ := RdT.int (show Try.prog.underlying 3 = some (.int .i64) by kernel_rfl) g5
  rw [show IntKind.i64.min = -9223372036854775808 by decide] at l5
  rw [show IntKind.i64.max = 9223372036854775807 by decide] at m5
  simp only [List.cons.injEq, and_true] at e5
  have g6 := hf 6 38 6 rfl
  rw [show Try.prog.cellsOf 38 = 1 by kernel_rfl] at g6
  simp only [List.drop_succ_cons, List.drop_zero, List.take_succ_cons, List.take_zero] at g6
  obtain ⟨n6, e6⟩ := RdT.slice (show Try.prog.underlying 38 = some (.slice 52) by kernel_rfl) g6
  rw [e6] at g6
  simp only [List.cons.injEq, and_true] at e6
  exact ⟨⟨n0, n1, n2, n3, n4, n5, n6⟩, by simp [CTask.enc, e0, e1, e2, e3, e4, e5, e6], ⟨l0, m0⟩, ⟨l1, m1⟩, ⟨l2, m2⟩, ⟨l3, m3⟩, ⟨l4, m4⟩, ⟨l5, m5⟩, (RdT.len (show Try.prog.underlying 38 = some (.slice 52) by kernel_rfl) g6), (open_rdEok (t := 38) (e := 52) (by kernel_rfl) (by kernel_rfl) (by intro x; simp [COp.enc]) (fun cs hcs => COp.of_rd hcs) g6)⟩
end Go.Proofs.Ytjifoicncenfpaa
