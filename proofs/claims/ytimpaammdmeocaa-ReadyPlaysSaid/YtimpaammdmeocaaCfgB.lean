/- The structs that the laws are told, row by row. Conditions: none. -/
import Derived.Test.YtimpaammdmeocaaChecked
import Derived.Test.YtimpaammdmeocaaSbY
import Derived.KernelRfl
set_option maxRecDepth 100000
set_option linter.unusedSimpArgs false
namespace Go.Proofs.Ytimpaammdmeocaa
open Go Go.Sb
structure CMachine where
  sets : Int
  ways : Int
  hit : Int
  miss : Int
def CMachine.enc (x : CMachine) : List Value := [.int .i64 x.sets, .int .i64 x.ways, .int .i64 x.hit, .int .i64 x.miss]
def CMachine.ok (_h : Hp) (x : CMachine) : Prop := (-9223372036854775808 ≤ x.sets ∧ x.sets ≤ 9223372036854775807) ∧ (-9223372036854775808 ≤ x.ways ∧ x.ways ≤ 9223372036854775807) ∧ (-9223372036854775808 ≤ x.hit ∧ x.hit ≤ 9223372036854775807) ∧ (-9223372036854775808 ≤ x.miss ∧ x.miss ≤ 9223372036854775807)
theorem CMachine.of_rd {h : Hp} {d : Nat} {cs : List Value} (hcs : RdT Try.prog h (d + 2) 30 cs) : ∃ x : CMachine, cs = x.enc ∧ x.ok h := by
  obtain ⟨hlen, hf⟩ := RdT.fields (l := [(3, 0), (3, 1), (3, 2), (3, 3)]) (by kernel_rfl) hcs
  rw [show Try.prog.cellsOf 30 = 4 by kernel_rfl] at hlen
  obtain ⟨c0, c1, c2, c3, rfl⟩ : ∃ c0 c1 c2 c3, cs = [c0, c1, c2, c3] := by
    match cs, hlen with
    | [c0, c1, c2, c3], _ => exact ⟨c0, c1, c2, c3, rfl⟩
  have g0 := hf 0 3 0 rfl
  rw [show Try.prog.cellsOf 3 = 1 by kernel_rfl] at g0
  simp only [List.drop_succ_cons, List.drop_zero, List.take_succ_cons, List.take_zero] at g0
  obtain ⟨n0, e0, l0, m0⟩ := RdT.int (show Try.prog.underlying 3 = some (.int .i64) by kernel_rfl) g0
  rw [show IntKind.i64.min = -9223372036854775808 by decide] at l0
  rw [show IntKind.i64.max = 9223372036854775807 by decide] at m0
  simp only [List.cons.injEq, and_true] at e0
  have g1 := hf 1 3 1 rfl
  rw [show Try.prog.cellsOf 3 = 1 by kernel_rfl] at g1
  simp only [List.drop_succ_cons, List.drop_zero, List.take_succ_cons, List.take_zero] at g1
  obtain ⟨n1, e1, l1, m1⟩ := RdT.int (show Try.prog.underlying 3 = some (.int .i64) by kernel_rfl) g1
  rw [show IntKind.i64.min = -9223372036854775808 by decide] at l1
  rw [show IntKind.i64.max = 9223372036854775807 by decide] at m1
  simp only [List.cons.injEq, and_true] at e1
  have g2 := hf 2 3 2 rfl
  rw [show Try.prog.cellsOf 3 = 1 by kernel_rfl] at g2
  simp only [List.drop_succ_cons, List.drop_zero, List.take_succ_cons, List.take_zero] at g2
  obtain ⟨n2, e2, l2, m2⟩ := RdT.int (show Try.prog.underlying 3 = some (.int .i64) by kernel_rfl) g2
  rw [show IntKind.i64.min = -9223372036854775808 by decide] at l2
  rw [show IntKind.i64.max = 9223372036854775807 by decide] at m2
  simp only [List.cons.injEq, and_true] at e2
  have g3 := hf 3 3 3 rfl
  rw [show Try.prog.cellsOf 3 = 1 by kernel_rfl] at g3
  simp only [List.drop_succ_cons, List.drop_zero, List.take_succ_cons, List.take_zero] at g3
  obtain ⟨n3, e3, l3, m3⟩ := RdT.int (show Try.prog.underlying 3 = some (.int .i64) by kernel_rfl) g3
  rw [show IntKind.i64.min = -9223372036854775808 by decide] at l3
  rw [show IntKind.i64.max = 9223372036854775807 by decide] at m3
  simp only [List.cons.injEq, and_true] at e3
  exact ⟨⟨n0, n1, n2, n3⟩, by simp [CMachine.enc, e0, e1, e2, e3], ⟨l0, m0⟩, ⟨l1, m1⟩, ⟨l2, m2⟩, ⟨l3, m3⟩⟩
structure COp where
  kind : Int
  a : Int
  b : Int
def COp.enc (x : COp) : List Value := [.int .i64 x.kind, .int .i64 x.a, .int .i64 x.b]
def COp.ok (_h : Hp) (x : COp) : Prop := (-9223372036854775808 ≤ x.kind ∧ x.kind ≤ 9223372036854775807) ∧ (-9223372036854775808 ≤ x.a ∧ x.a ≤ 9223372036854775807) ∧ (-9223372036854775808 ≤ x.b ∧ x.b ≤ 9223372036854775807)
theorem COp.of_rd {h : Hp} {d : Nat} {cs : List Value} (hcs : RdT Try.prog h (d + 2) 78 cs) : ∃ x : COp, cs = x.enc ∧ x.ok h := by
  obtain ⟨hlen, hf⟩ := RdT.fields (l := [(3, 0), (3, 1), (3, 2)]) (by kernel_rfl) hcs
  rw [show Try.prog.cellsOf 78 = 3 by kernel_rfl] at hlen
  obtain ⟨c0, c1, c2, rfl⟩ : ∃ c0 c1 c2, cs = [c0, c1, c2] := by
    match cs, hlen with
    | [c0, c1, c2], _ => exact ⟨c0, c1, c2, rfl⟩
  have g0 := hf 0 3 0 rfl
  rw [show Try.prog.cellsOf 3 = 1 by kernel_rfl] at g0
  simp only [List.drop_succ_cons, List.drop_zero, List.take_succ_cons, List.take_zero] at g0
  obtain ⟨n0, e0, l0, m0⟩ := RdT.int (show Try.prog.underlying 3 = some (.int .i64) by kernel_rfl) g0
  rw [show IntKind.i64.min = -9223372036854775808 by decide] at l0
  rw [show IntKind.i64.max = 9223372036854775807 by decide] at m0
  simp only [List.cons.injEq, and_true] at e0
  have g1 := hf 1 3 1 rfl
  rw [show Try.prog.cellsOf 3 = 1 by kernel_rfl] at g1
  simp only [List.drop_succ_cons, List.drop_zero, List.take_succ_cons, List.take_zero] at g1
  obtain ⟨n1, e1, l1, m1⟩ := RdT.int (show Try.prog.underlying 3 = some (.int .i64) by kernel_rfl) g1
  rw [show IntKind.i64.min = -9223372036854775808 by decide] at l1
  rw [show IntKind.i64.max = 9223372036854775807 by decide] at m1
  simp only [List.cons.injEq, and_true] at e1
  have g2 := hf 2 3 2 rfl
  rw [show Try.prog.cellsOf 3 = 1 by kernel_rfl] at g2
  simp only [List.drop_succ_cons, List.drop_zero, List.take_succ_cons, List.take_zero] at g2
  obtain ⟨n2, e2, l2, m2⟩ := RdT.int (show Try.prog.underlying 3 = some (.int .i64) by kernel_rfl) g2
  rw [show IntKind.i64.min = -9223372036854775808 by decide] at l2
  rw [show IntKind.i64.max = 9223372036854775807 by decide] at m2
  simp only [List.cons.injEq, and_true] at e2
  exact ⟨⟨n0, n1, n2⟩, by simp [COp.enc, e0, e1, e2], ⟨l0, m0⟩, ⟨l1, m1⟩, ⟨l2, m2⟩⟩
structure CTask where
  priority : Int
  threshold : Int
  period : Int
  deadline : Int
  frame : Int
  float : Int
  program : Sl
def CTask.enc (x : CTask) : List Value := [.int .i64 x.priority, .int .i64 x.threshold, .int .i64 x.period, .int .i64 x.deadline, .int .i64 x.frame, .int .i64 x.float, .slice x.program.p x.program.n x.program.c]
def CTask.ok (h : Hp) (x : CTask) : Prop := (-9223372036854775808 ≤ x.priority ∧ x.priority ≤ 9223372036854775807) ∧ (-9223372036854775808 ≤ x.threshold ∧ x.threshold ≤ 9223372036854775807) ∧ (-9223372036854775808 ≤ x.period ∧ x.period ≤ 9223372036854775807) ∧ (-9223372036854775808 ≤ x.deadline ∧ x.deadline ≤ 9223372036854775807) ∧ (-9223372036854775808 ≤ x.frame ∧ x.frame ≤ 9223372036854775807) ∧ (-9223372036854775808 ≤ x.float ∧ x.float ≤ 9223372036854775807) ∧ ((x.program.n : Int) ≤ 9223372036854775807) ∧ (x.program.n ≤ x.program.c) ∧ (∃ xs : List COp, RdE h.size h COp.enc 3 x.program xs ∧ ∀ y ∈ xs, y.ok h)
theorem CTask.of_rd {h : Hp} {d : Nat} {cs : List Value} (hcs : RdT Try.prog h (d + 4) 67 cs) : ∃ x : CTask, cs = x.enc ∧ x.ok h := by
  obtain ⟨hlen, hf⟩ := RdT.fields (l := [(3, 0), (3, 1), (3, 2), (3, 3), (3, 4), (3, 5), (65, 6)]) (by kernel_rfl) hcs
  rw [show Try.prog.cellsOf 67 = 7 by kernel_rfl] at hlen
  obtain ⟨c0, c1, c2, c3, c4, c5, c6, rfl⟩ : ∃ c0 c1 c2 c3 c4 c5 c6, cs = [c0, c1, c2, c3, c4, c5, c6] := by
    match cs, hlen with
    | [c0, c1, c2, c3, c4, c5, c6], _ => exact ⟨c0, c1, c2, c3, c4, c5, c6, rfl⟩
  have g0 := hf 0 3 0 rfl
  rw [show Try.prog.cellsOf 3 = 1 by kernel_rfl] at g0
  simp only [List.drop_succ_cons, List.drop_zero, List.take_succ_cons, List.take_zero] at g0
  obtain ⟨n0, e0, l0, m0⟩ := RdT.int (show Try.prog.underlying 3 = some (.int .i64) by kernel_rfl) g0
  rw [show IntKind.i64.min = -9223372036854775808 by decide] at l0
  rw [show IntKind.i64.max = 9223372036854775807 by decide] at m0
  simp only [List.cons.injEq, and_true] at e0
  have g1 := hf 1 3 1 rfl
  rw [show Try.prog.cellsOf 3 = 1 by kernel_rfl] at g1
  simp only [List.drop_succ_cons, List.drop_zero, List.take_succ_cons, List.take_zero] at g1
  obtain ⟨n1, e1, l1, m1⟩ := RdT.int (show Try.prog.underlying 3 = some (.int .i64) by kernel_rfl) g1
  rw [show IntKind.i64.min = -9223372036854775808 by decide] at l1
  rw [show IntKind.i64.max = 9223372036854775807 by decide] at m1
  simp only [List.cons.injEq, and_true] at e1
  have g2 := hf 2 3 2 rfl
  rw [show Try.prog.cellsOf 3 = 1 by kernel_rfl] at g2
  simp only [List.drop_succ_cons, List.drop_zero, List.take_succ_cons, List.take_zero] at g2
  obtain ⟨n2, e2, l2, m2⟩ := RdT.int (show Try.prog.underlying 3 = some (.int .i64) by kernel_rfl) g2
  rw [show IntKind.i64.min = -9223372036854775808 by decide] at l2
  rw [show IntKind.i64.max = 9223372036854775807 by decide] at m2
  simp only [List.cons.injEq, and_true] at e2
  have g3 := hf 3 3 3 rfl
  rw [show Try.prog.cellsOf 3 = 1 by kernel_rfl] at g3
  simp only [List.drop_succ_cons, List.drop_zero, List.take_succ_cons, List.take_zero] at g3
  obtain ⟨n3, e3, l3, m3⟩ := RdT.int (show Try.prog.underlying 3 = some (.int .i64) by kernel_rfl) g3
  rw [show IntKind.i64.min = -9223372036854775808 by decide] at l3
  rw [show IntKind.i64.max = 9223372036854775807 by decide] at m3
  simp only [List.cons.injEq, and_true] at e3
  have g4 := hf 4 3 4 rfl
  rw [show Try.prog.cellsOf 3 = 1 by kernel_rfl] at g4
  simp only [List.drop_succ_cons, List.drop_zero, List.take_succ_cons, List.take_zero] at g4
  obtain ⟨n4, e4, l4, m4⟩ := RdT.int (show Try.prog.underlying 3 = some (.int .i64) by kernel_rfl) g4
  rw [show IntKind.i64.min = -9223372036854775808 by decide] at l4
  rw [show IntKind.i64.max = 9223372036854775807 by decide] at m4
  simp only [List.cons.injEq, and_true] at e4
  have g5 := hf 5 3 5 rfl
  rw [show Try.prog.cellsOf 3 = 1 by kernel_rfl] at g5
  simp only [List.drop_succ_cons, List.drop_zero, List.take_succ_cons, List.take_zero] at g5
  obtain ⟨n5, e5, l5, m5⟩ := RdT.int (show Try.prog.underlying 3 = some (.int .i64) by kernel_rfl) g5
  rw [show IntKind.i64.min = -9223372036854775808 by decide] at l5
  rw [show IntKind.i64.max = 9223372036854775807 by decide] at m5
  simp only [List.cons.injEq, and_true] at e5
  have g6 := hf 6 65 6 rfl
  rw [show Try.prog.cellsOf 65 = 1 by kernel_rfl] at g6
  simp only [List.drop_succ_cons, List.drop_zero, List.take_succ_cons, List.take_zero] at g6
  obtain ⟨n6, e6⟩ := RdT.slice (show Try.prog.underlying 65 = some (.slice 78) by kernel_rfl) g6
  rw [e6] at g6
  simp only [List.cons.injEq, and_true] at e6
  exact ⟨⟨n0, n1, n2, n3, n4, n5, n6⟩, by simp [CTask.enc, e0, e1, e2, e3, e4, e5, e6], ⟨l0, m0⟩, ⟨l1, m1⟩, ⟨l2, m2⟩, ⟨l3, m3⟩, ⟨l4, m4⟩, ⟨l5, m5⟩, (RdT.len (show Try.prog.underlying 65 = some (.slice 78) by kernel_rfl) g6), (RdT.cap (show Try.prog.underlying 65 = some (.slice 78) by kernel_rfl) g6), (open_rdEok (t := 65) (e := 78) (by kernel_rfl) (by kernel_rfl) (by intro x; simp [COp.enc]) (fun cs hcs => COp.of_rd hcs) g6)⟩
structure CConf where
  machine : CMachine
  mailboxes : Sl
  groups : Int
  counts : Sl
  ceilings : Sl
  tasks : Sl
  lines : Sl
def CConf.enc (x : CConf) : List Value := [.int .i64 x.machine.sets, .int .i64 x.machine.ways, .int .i64 x.machine.hit, .int .i64 x.machine.miss, .slice x.mailboxes.p x.mailboxes.n x.mailboxes.c, .int .i64 x.groups, .slice x.counts.p x.counts.n x.counts.c, .slice x.ceilings.p x.ceilings.n x.ceilings.c, .slice x.tasks.p x.tasks.n x.tasks.c, .slice x.lines.p x.lines.n x.lines.c]
def CConf.ok (h : Hp) (x : CConf) : Prop := x.machine.ok h ∧ ((x.mailboxes.n : Int) ≤ 9223372036854775807) ∧ (x.mailboxes.n ≤ x.mailboxes.c) ∧ (∃ zs, RdI h.size h .i64 x.mailboxes zs) ∧ (-9223372036854775808 ≤ x.groups ∧ x.groups ≤ 9223372036854775807) ∧ ((x.counts.n : Int) ≤ 9223372036854775807) ∧ (x.counts.n ≤ x.counts.c) ∧ (∃ zs, RdI h.size h .i64 x.counts zs) ∧ ((x.ceilings.n : Int) ≤ 9223372036854775807) ∧ (x.ceilings.n ≤ x.ceilings.c) ∧ (∃ zs, RdI h.size h .i64 x.ceilings zs) ∧ ((x.tasks.n : Int) ≤ 9223372036854775807) ∧ (x.tasks.n ≤ x.tasks.c) ∧ (∃ xs : List CTask, RdE h.size h CTask.enc 7 x.tasks xs ∧ ∀ y ∈ xs, y.ok h) ∧ ((x.lines.n : Int) ≤ 9223372036854775807) ∧ (x.lines.n ≤ x.lines.c) ∧ (∃ zs, RdI h.size h .i64 x.lines zs)
theorem CConf.of_rd {h : Hp} {d : Nat} {cs : List Value} (hcs : RdT Try.prog h (d + 6) 34 cs) : ∃ x : CConf, cs = x.enc ∧ x.ok h := by
  obtain ⟨hlen, hf⟩ := RdT.fields (l := [(30, 0), (31, 4), (3, 5), (31, 6), (31, 7), (32, 8), (31, 9)]) (by kernel_rfl) hcs
  rw [show Try.prog.cellsOf 34 = 10 by kernel_rfl] at hlen
  obtain ⟨c0, c1, c2, c3, c4, c5, c6, c7, c8, c9, rfl⟩ : ∃ c0 c1 c2 c3 c4 c5 c6 c7 c8 c9, cs = [c0, c1, c2, c3, c4, c5, c6, c7, c8, c9] := by
    match cs, hlen with
    | [c0, c1, c2, c3, c4, c5, c6, c7, c8, c9], _ => exact ⟨c0, c1, c2, c3, c4, c5, c6, c7, c8, c9, rfl⟩
  have g0 := hf 0 30 0 rfl
  rw [show Try.prog.cellsOf 30 = 4 by kernel_rfl] at g0
  simp only [List.drop_succ_cons, List.drop_zero, List.take_succ_cons, List.take_zero] at g0
  obtain ⟨n0, e0, o0⟩ := CMachine.of_rd g0
  simp only [CMachine.enc, List.cons.injEq, and_true] at e0
  obtain ⟨f0_0, f0_1, f0_2, f0_3⟩ := e0
  have g1 := hf 1 31 4 rfl
  rw [show Try.prog.cellsOf 31 = 1 by kernel_rfl] at g1
  simp only [List.drop_succ_cons, List.drop_zero, List.take_succ_cons, List.take_zero] at g1
  obtain ⟨n1, e1⟩ := RdT.slice (show Try.prog.underlying 31 = some (.slice 3) by kernel_rfl) g1
  rw [e1] at g1
  simp only [List.cons.injEq, and_true] at e1
  have g2 := hf 2 3 5 rfl
  rw [show Try.prog.cellsOf 3 = 1 by kernel_rfl] at g2
  simp only [List.drop_succ_cons, List.drop_zero, List.take_succ_cons, List.take_zero] at g2
  obtain ⟨n2, e2, l2, m2⟩ := RdT.int (show Try.prog.underlying 3 = some (.int .i64) by kernel_rfl) g2
  rw [show IntKind.i64.min = -9223372036854775808 by decide] at l2
  rw [show IntKind.i64.max = 9223372036854775807 by decide] at m2
  simp only [List.cons.injEq, and_true] at e2
  have g3 := hf 3 31 6 rfl
  rw [show Try.prog.cellsOf 31 = 1 by kernel_rfl] at g3
  simp only [List.drop_succ_cons, List.drop_zero, List.take_succ_cons, List.take_zero] at g3
  obtain ⟨n3, e3⟩ := RdT.slice (show Try.prog.underlying 31 = some (.slice 3) by kernel_rfl) g3
  rw [e3] at g3
  simp only [List.cons.injEq, and_true] at e3
  have g4 := hf 4 31 7 rfl
  rw [show Try.prog.cellsOf 31 = 1 by kernel_rfl] at g4
  simp only [List.drop_succ_cons, List.drop_zero, List.take_succ_cons, List.take_zero] at g4
  obtain ⟨n4, e4⟩ := RdT.slice (show Try.prog.underlying 31 = some (.slice 3) by kernel_rfl) g4
  rw [e4] at g4
  simp only [List.cons.injEq, and_true] at e4
  have g5 := hf 5 32 8 rfl
  rw [show Try.prog.cellsOf 32 = 1 by kernel_rfl] at g5
  simp only [List.drop_succ_cons, List.drop_zero, List.take_succ_cons, List.take_zero] at g5
  obtain ⟨n5, e5⟩ := RdT.slice (show Try.prog.underlying 32 = some (.slice 67) by kernel_rfl) g5
  rw [e5] at g5
  simp only [List.cons.injEq, and_true] at e5
  have g6 := hf 6 31 9 rfl
  rw [show Try.prog.cellsOf 31 = 1 by kernel_rfl] at g6
  simp only [List.drop_succ_cons, List.drop_zero, List.take_succ_cons, List.take_zero] at g6
  obtain ⟨n6, e6⟩ := RdT.slice (show Try.prog.underlying 31 = some (.slice 3) by kernel_rfl) g6
  rw [e6] at g6
  simp only [List.cons.injEq, and_true] at e6
  exact ⟨⟨n0, n1, n2, n3, n4, n5, n6⟩, by simp [CConf.enc, f0_0, f0_1, f0_2, f0_3, e1, e2, e3, e4, e5, e6], o0, (RdT.len (show Try.prog.underlying 31 = some (.slice 3) by kernel_rfl) g1), (RdT.cap (show Try.prog.underlying 31 = some (.slice 3) by kernel_rfl) g1), (open_rdI (t := 31) (e := 3) (by kernel_rfl) (by kernel_rfl) (by kernel_rfl) g1), ⟨l2, m2⟩, (RdT.len (show Try.prog.underlying 31 = some (.slice 3) by kernel_rfl) g3), (RdT.cap (show Try.prog.underlying 31 = some (.slice 3) by kernel_rfl) g3), (open_rdI (t := 31) (e := 3) (by kernel_rfl) (by kernel_rfl) (by kernel_rfl) g3), (RdT.len (show Try.prog.underlying 31 = some (.slice 3) by kernel_rfl) g4), (RdT.cap (show Try.prog.underlying 31 = some (.slice 3) by kernel_rfl) g4), (open_rdI (t := 31) (e := 3) (by kernel_rfl) (by kernel_rfl) (by kernel_rfl) g4), (RdT.len (show Try.prog.underlying 32 = some (.slice 67) by kernel_rfl) g5), (RdT.cap (show Try.prog.underlying 32 = some (.slice 67) by kernel_rfl) g5), (open_rdEok (t := 32) (e := 67) (by kernel_rfl) (by kernel_rfl) (by intro x; simp [CTask.enc]) (fun cs hcs => CTask.of_rd hcs) g5), (RdT.len (show Try.prog.underlying 31 = some (.slice 3) by kernel_rfl) g6), (RdT.cap (show Try.prog.underlying 31 = some (.slice 3) by kernel_rfl) g6), (open_rdI (t := 31) (e := 3) (by kernel_rfl) (by kernel_rfl) (by kernel_rfl) g6)⟩
end Go.Proofs.Ytimpaammdmeocaa
