/- The structs that the laws are told, row by row. Conditions: none. -/
import Derived.Test.YtkoenpliddhhoaaChecked
import Derived.Test.YtkoenpliddhhoaaSbW
import Derived.KernelRfl
set_option maxRecDepth 100000
set_option linter.unusedSimpArgs false
namespace Go.Proofs.Ytkoenpliddhhoaa
open Go Go.Sb
structure CMachine where
  sets : Int
  ways : Int
  hit : Int
  miss : Int
def CMachine.enc (x : CMachine) : List Value := [.int .i64 x.sets, .int .i64 x.ways, .int .i64 x.hit, .int .i64 x.miss]
def CMachine.ok (_h : Hp) (x : CMachine) : Prop := (-9223372036854775808 ≤ x.sets ∧ x.sets ≤ 9223372036854775807) ∧ (-9223372036854775808 ≤ x.ways ∧ x.ways ≤ 9223372036854775807) ∧ (-9223372036854775808 ≤ x.hit ∧ x.hit ≤ 9223372036854775807) ∧ (-9223372036854775808 ≤ x.miss ∧ x.miss ≤ 9223372036854775807)
theorem CMachine.of_rd {h : Hp} {d : Nat} {cs : List Value} (hcs : RdT Try.prog h (d + 2) 23 cs) : ∃ x : CMachine, cs = x.enc ∧ x.ok h := by
  obtain ⟨hlen, hf⟩ := RdT.fields (l := [(3, 0), (3, 1), (3, 2), (3, 3)]) (by kernel_rfl) hcs
  rw [show Try.prog.cellsOf 23 = 4 by kernel_rfl] at hlen
  obtain ⟨c0, c1, c2, c3, rfl⟩ : ∃ c0 c1 c2 c3, cs = [c0, c1, c2, c3] := by
    match cs, hlen with
    | [c0, c1, c2, c3], _ => exact ⟨c0, c1, c2, c3, rfl⟩
  have g0 := hf 0 3 0 rfl
  rw [show Try.prog.cellsOf 3 = 1 by kernel_rfl] at g0
  simp only [List.drop_succ_cons, List.drop_zero, List.take_succ_cons, List.take_zero] at g0
  obtain ⟨n0, e0, l0, m0⟩ := RdT.int (show Try.prog.underlying 3 = some (.int .i64) by kernel_rfl) g0
  rw [show IntKind.i64.min = -9223372036854775808 by decide] at l0
  rw [show IntKind.i64.max = 9223372036854775807 by decide] at m0
  simp only [List.cons.injEq, and_true] at e0
  have g1 := hf 1 3 1 rfl
  rw [show Try.prog.cellsOf 3 = 1 by kernel_rfl] at g1
  simp only [List.drop_succ_cons, List.drop_zero, List.take_succ_cons, List.take_zero] at g1
  obtain ⟨n1, e1, l1, m1⟩ := RdT.int (show Try.prog.underlying 3 = some (.int .i64) by kernel_rfl) g1
  rw [show IntKind.i64.min = -9223372036854775808 by decide] at l1
  rw [show IntKind.i64.max = 9223372036854775807 by decide] at m1
  simp only [List.cons.injEq, and_true] at e1
  have g2 := hf 2 3 2 rfl
  rw [show Try.prog.cellsOf 3 = 1 by kernel_rfl] at g2
  simp only [List.drop_succ_cons, List.drop_zero, List.take_succ_cons, List.take_zero] at g2
  obtain ⟨n2, e2, l2, m2⟩ := RdT.int (show Try.prog.underlying 3 = some (.int .i64) by kernel_rfl) g2
  rw [show IntKind.i64.min = -9223372036854775808 by decide] at l2
  rw [show IntKind.i64.max = 9223372036854775807 by decide] at m2
  simp only [List.cons.injEq, and_true] at e2
  have g3 := hf 3 3 3 rfl
  rw [show Try.prog.cellsOf 3 = 1 by kernel_rfl] at g3
  simp only [List.drop_succ_cons, List.drop_zero, List.take_succ_cons, List.take_zero] at g3
  obtain ⟨n3, e3, l3, m3⟩ := RdT.int (show Try.prog.underlying 3 = some (.int .i64) by kernel_rfl) g3
  rw [show IntKind.i64.min = -9223372036854775808 by decide] at l3
  rw [show IntKind.i64.max = 9223372036854775807 by decide] at m3
  simp only [List.cons.injEq, and_true] at e3
  exact ⟨⟨n0, n1, n2, n3⟩, by simp [CMachine.enc, e0, e1, e2, e3], ⟨l0, m0⟩, ⟨l1, m1⟩, ⟨l2, m2⟩, ⟨l3, m3⟩⟩
structure COp where
  kind : Int
  a : Int
  b : Int
def COp.enc (x : COp) : List Value := [.int .i64 x.kind, .int .i64 x.a, .int .i64 x.b]
def COp.ok (_h : Hp) (x : COp) : Prop := (-9223372036854775808 ≤ x.kind ∧ x.kind ≤ 9223372036854775807) ∧ (-9223372036854775808 ≤ x.a ∧ x.a ≤ 9223372036854775807) ∧ (-9223372036854775808 ≤ x.b ∧ x.b ≤ 9223372036854775807)
theorem COp.of_rd {h : Hp} {d : Nat} {cs : List Value} (hcs : RdT Try.prog h (d + 2) 149 cs) : ∃ x : COp, cs = x.enc ∧ x.ok h := by
  obtain ⟨hlen, hf⟩ := RdT.fields (l := [(3, 0), (3, 1), (3, 2)]) (by kernel_rfl) hcs
  rw [show Try.prog.cellsOf 149 = 3 by kernel_rfl] at hlen
  obtain ⟨c0, c1, c2, rfl⟩ : ∃ c0 c1 c2, cs = [c0, c1, c2] := by
    match cs, hlen with
    | [c0, c1, c2], _ => exact ⟨c0, c1, c2, rfl⟩
  have g0 := hf 0 3 0 rfl
  rw [show Try.prog.cellsOf 3 = 1 by kernel_rfl] at g0
  simp only [List.drop_succ_cons, List.drop_zero, List.take_succ_cons, List.take_zero] at g0
  obtain ⟨n0, e0, l0, m0⟩ := RdT.int (show Try.prog.underlying 3 = some (.int .i64) by kernel_rfl) g0
  rw [show IntKind.i64.min = -9223372036854775808 by decide] at l0
  rw [show IntKind.i64.max = 9223372036854775807 by decide] at m0
  simp only [List.cons.injEq, and_true] at e0
  have g1 := hf 1 3 1 rfl
  rw [show Try.prog.cellsOf 3 = 1 by kernel_rfl] at g1
  simp only [List.drop_succ_cons, List.drop_zero, List.take_succ_cons, List.take_zero] at g1
  obtain ⟨n1, e1, l1, m1⟩ := RdT.int (show Try.prog.underlying 3 = some (.int .i64) by kernel_rfl) g1
  rw [show IntKind.i64.min = -9223372036854775808 by decide] at l1
  rw [show IntKind.i64.max = 9223372036854775807 by decide] at m1
  simp only [List.cons.injEq, and_true] at e1
  have g2 := hf 2 3 2 rfl
  rw [show Try.prog.cellsOf 3 = 1 by kernel_rfl] at g2
  simp only [List.drop_succ_cons, List.drop_zero, List.take_succ_cons, List.take_zero] at g2
  obtain ⟨n2, e2, l2, m2⟩ := RdT.int (show Try.prog.underlying 3 = some (.int .i64) by kernel_rfl) g2
  rw [show IntKind.i64.min = -9223372036854775808 by decide] at l2
  rw [show IntKind.i64.max = 9223372036854775807 by decide] at m2
  simp only [List.cons.injEq, and_true] at e2
  exact ⟨⟨n0, n1, n2⟩, by simp [COp.enc, e0, e1, e2], ⟨l0, m0⟩, ⟨l1, m1⟩, ⟨l2, m2⟩⟩
structure CTask where
  priority : Int
  threshold : Int
  period : Int
  deadline : Int
  frame : Int
  float : Int
  program : Sl
def CTask.enc (x : CTask) : List Value := [.int .i64 x.priority, .int .i64 x.threshold, .int .i64 x.period, .int .i64 x.deadline, .int .i64 x.frame, .int .i64 x.float, .slice x.program.p x.program.n x.program.c]
def CTask.ok (h : Hp) (x : CTask) : Prop := (-9223372036854775808 ≤ x.priority ∧ x.priority ≤ 9223372036854775807) ∧ (-9223372036854775808 ≤ x.threshold ∧ x.threshold ≤ 9223372036854775807) ∧ (-9223372036854775808 ≤ x.period ∧ x.period ≤ 9223372036854775807) ∧ (-9223372036854775808 ≤ x.deadline ∧ x.deadline ≤ 9223372036854775807) ∧ (-9223372036854775808 ≤ x.frame ∧ x.frame ≤ 9223372036854775807) ∧ (-9223372036854775808 ≤ x.float ∧ x.float ≤ 9223372036854775807) ∧ (∃ xs : List COp, RdE h.size h COp.enc 3 x.program xs ∧ ∀ y ∈ xs, y.ok h)
theorem CTask.of_rd {h : Hp} {d : Nat} {cs : List Value} (hcs : RdT Try.prog h (d + 4) 37 cs) : ∃ x : CTask, cs = x.enc ∧ x.ok h := by
  obtain ⟨hlen, hf⟩ := RdT.fields (l := [(3, 0), (3, 1), (3, 2), (3, 3), (3, 4), (3, 5), (35, 6)]) (by kernel_rfl) hcs
  rw [show Try.prog.cellsOf 37 = 7 by kernel_rfl] at hlen
  obtain ⟨c0, c1, c2, c3, c4, c5, c6, rfl⟩ : ∃ c0 c1 c2 c3 c4 c5 c6, cs = [c0, c1, c2, c3, c4, c5, c6] := by
    match cs, hlen with
    | [c0, c1, c2, c3, c4, c5, c6], _ => exact ⟨c0, c1, c2, c3, c4, c5, c6, rfl⟩
  have g0 := hf 0 3 0 rfl
  rw [show Try.prog.cellsOf 3 = 1 by kernel_rfl] at g0
  simp only [List.drop_succ_cons, List.drop_zero, List.take_succ_cons, List.take_zero] at g0
  obtain ⟨n0, e0, l0, m0⟩ := RdT.int (show Try.prog.underlying 3 = some (.int .i64) by kernel_rfl) g0
  rw [show IntKind.i64.min = -9223372036854775808 by decide] at l0
  rw [show IntKind.i64.max = 9223372036854775807 by decide] at m0
  simp only [List.cons.injEq, and_true] at e0
  have g1 := hf 1 3 1 rfl
  rw [show Try.prog.cellsOf 3 = 1 by kernel_rfl] at g1
  simp only [List.drop_succ_cons, List.drop_zero, List.take_succ_cons, List.take_zero] at g1
  obtain ⟨n1, e1, l1, m1⟩ := RdT.int (show Try.prog.underlying 3 = some (.int .i64) by kernel_rfl) g1
  rw [show IntKind.i64.min = -9223372036854775808 by decide] at l1
  rw [show IntKind.i64.max = 9223372036854775807 by decide] at m1
  simp only [List.cons.injEq, and_true] at e1
  have g2 := hf 2 3 2 rfl
  rw [show Try.prog.cellsOf 3 = 1 by kernel_rfl] at g2
  simp only [List.drop_succ_cons, List.drop_zero, List.take_succ_cons, List.take_zero] at g2
  obtain ⟨n2, e2, l2, m2⟩ := RdT.int (show Try.prog.underlying 3 = some (.int .i64) by kernel_rfl) g2
  rw [show IntKind.i64.min = -9223372036854775808 by decide] at l2
  rw [show IntKind.i64.max = 9223372036854775807 by decide] at m2
  simp only [List.cons.injEq, and_true] at e2
  have g3 := hf 3 3 3 rfl
  rw [show Try.prog.cellsOf 3 = 1 by kernel_rfl] at g3
  simp only [List.drop_succ_cons, List.drop_zero, List.take_succ_cons, List.take_zero] at g3
  obtain ⟨n3, e3, l3, m3⟩ := RdT.int (show Try.prog.underlying 3 = some (.int .i64) by kernel_rfl) g3
  rw [show IntKind.i64.min = -9223372036854775808 by decide] at l3
  rw [show IntKind.i64.max = 9223372036854775807 by decide] at m3
  simp only [List.cons.injEq, and_true] at e3
  have g4 := hf 4 3 4 rfl
  rw [show Try.prog.cellsOf 3 = 1 by kernel_rfl] at g4
  simp only [List.drop_succ_cons, List.drop_zero, List.take_succ_cons, List.take_zero] at g4
  obtain ⟨n4, e4, l4, m4⟩ := RdT.int (show Try.prog.underlying 3 = some (.int .i64) by kernel_rfl) g4
  rw [show IntKind.i64.min = -9223372036854775808 by decide] at l4
  rw [show IntKind.i64.max = 9223372036854775807 by decide] at m4
  simp only [List.cons.injEq, and_true] at e4
  have g5 := hf 5 3 5 rfl
  rw [show Try.prog.cellsOf 3 = 1 by kernel_rfl] at g5
  simp only [List.drop_succ_cons, List.drop_zero, List.take_succ_cons, List.take_zero] at g5
  obtain ⟨n5, e5, l5, m5⟩ := RdT.int (show Try.prog.underlying 3 = some (.int .i64) by kernel_rfl) g5
  rw [show IntKind.i64.min = -9223372036854775808 by decide] at l5
  rw [show IntKind.i64.max = 9223372036854775807 by decide] at m5
  simp only [List.cons.injEq, and_true] at e5
  have g6 := hf 6 35 6 rfl
  rw [show Try.prog.cellsOf 35 = 1 by kernel_rfl] at g6
  simp only [List.drop_succ_cons, List.drop_zero, List.take_succ_cons, List.take_zero] at g6
  obtain ⟨n6, e6⟩ := RdT.slice (show Try.prog.underlying 35 = some (.slice 149) by kernel_rfl) g6
  rw [e6] at g6
  simp only [List.cons.injEq, and_true] at e6
  exact ⟨⟨n0, n1, n2, n3, n4, n5, n6⟩, by simp [CTask.enc, e0, e1, e2, e3, e4, e5, e6], ⟨l0, m0⟩, ⟨l1, m1⟩, ⟨l2, m2⟩, ⟨l3, m3⟩, ⟨l4, m4⟩, ⟨l5, m5⟩, (open_rdEok (t := 35) (e := 149) (by kernel_rfl) (by kernel_rfl) (by intro x; simp [COp.enc]) (fun cs hcs => COp.of_rd hcs) g6)⟩
structure Conf where
  machine : CMachine
  mailboxes : Sl
  groups : Int
  counts : Sl
  ceilings : Sl
  tasks : Sl
  lines : Sl
def Conf.enc (x : Conf) : List Value := [.int .i64 x.machine.sets, .int .i64 x.machine.ways, .int .i64 x.machine.hit, .int .i64 x.machine.miss, .slice x.mailboxes.p x.mailboxes.n x.mailboxes.c, .int .i64 x.groups, .slice x.counts.p x.counts.n x.counts.c, .slice x.ceilings.p x.ceilings.n x.ceilings.c, .slice x.tasks.p x.tasks.n x.tasks.c, .slice x.lines.p x.lines.n x.lines.c]
def Conf.ok (h : Hp) (x : Conf) : Prop := x.machine.ok h ∧ (∃ zs, RdI h.size h .i64 x.mailboxes zs) ∧ (-9223372036854775808 ≤ x.groups ∧ x.groups ≤ 9223372036854775807) ∧ (∃ zs, RdI h.size h .i64 x.counts zs) ∧ (∃ zs, RdI h.size h .i64 x.ceilings zs) ∧ (∃ xs : List CTask, RdE h.size h CTask.enc 7 x.tasks xs ∧ ∀ y ∈ xs, y.ok h) ∧ (∃ zs, RdI h.size h .i64 x.lines zs)
theorem Conf.of_rd {h : Hp} {d : Nat} {cs : List Value} (hcs : RdT Try.prog h (d + 6) 27 cs) : ∃ x : Conf, cs = x.enc ∧ x.ok h := by
  obtain ⟨hlen, hf⟩ := RdT.fields (l := [(23, 0), (24, 4), (3, 5), (24, 6), (24, 7), (25, 8), (24, 9)]) (by kernel_rfl) hcs
  rw [show Try.prog.cellsOf 27 = 10 by kernel_rfl] at hlen
  obtain ⟨c0, c1, c2, c3, c4, c5, c6, c7, c8, c9, rfl⟩ : ∃ c0 c1 c2 c3 c4 c5 c6 c7 c8 c9, cs = [c0, c1, c2, c3, c4, c5, c6, c7, c8, c9] := by
    match cs, hlen with
    | [c0, c1, c2, c3, c4, c5, c6, c7, c8, c9], _ => exact ⟨c0, c1, c2, c3, c4, c5, c6, c7, c8, c9, rfl⟩
  have g0 := hf 0 23 0 rfl
  rw [show Try.prog.cellsOf 23 = 4 by kernel_rfl] at g0
  simp only [List.drop_succ_cons, List.drop_zero, List.take_succ_cons, List.take_zero] at g0
  obtain ⟨n0, e0, o0⟩ := CMachine.of_rd g0
  simp only [CMachine.enc, List.cons.injEq, and_true] at e0
  obtain ⟨f0_0, f0_1, f0_2, f0_3⟩ := e0
  have g1 := hf 1 24 4 rfl
  rw [show Try.prog.cellsOf 24 = 1 by kernel_rfl] at g1
  simp only [List.drop_succ_cons, List.drop_zero, List.take_succ_cons, List.take_zero] at g1
  obtain ⟨n1, e1⟩ := RdT.slice (show Try.prog.underlying 24 = some (.slice 3) by kernel_rfl) g1
  rw [e1] at g1
  simp only [List.cons.injEq, and_true] at e1
  have g2 := hf 2 3 5 rfl
  rw [show Try.prog.cellsOf 3 = 1 by kernel_rfl] at g2
  simp only [List.drop_succ_cons, List.drop_zero, List.take_succ_cons, List.take_zero] at g2
  obtain ⟨n2, e2, l2, m2⟩ := RdT.int (show Try.prog.underlying 3 = some (.int .i64) by kernel_rfl) g2
  rw [show IntKind.i64.min = -9223372036854775808 by decide] at l2
  rw [show IntKind.i64.max = 9223372036854775807 by decide] at m2
  simp only [List.cons.injEq, and_true] at e2
  have g3 := hf 3 24 6 rfl
  rw [show Try.prog.cellsOf 24 = 1 by kernel_rfl] at g3
  simp only [List.drop_succ_cons, List.drop_zero, List.take_succ_cons, List.take_zero] at g3
  obtain ⟨n3, e3⟩ := RdT.slice (show Try.prog.underlying 24 = some (.slice 3) by kernel_rfl) g3
  rw [e3] at g3
  simp only [List.cons.injEq, and_true] at e3
  have g4 := hf 4 24 7 rfl
  rw [show Try.prog.cellsOf 24 = 1 by kernel_rfl] at g4
  simp only [List.drop_succ_cons, List.drop_zero, List.take_succ_cons, List.take_zero] at g4
  obtain ⟨n4, e4⟩ := RdT.slice (show Try.prog.underlying 24 = some (.slice 3) by kernel_rfl) g4
  rw [e4] at g4
  simp only [List.cons.injEq, and_true] at e4
  have g5 := hf 5 25 8 rfl
  rw [show Try.prog.cellsOf 25 = 1 by kernel_rfl] at g5
  simp only [List.drop_succ_cons, List.drop_zero, List.take_succ_cons, List.take_zero] at g5
  obtain ⟨n5, e5⟩ := RdT.slice (show Try.prog.underlying 25 = some (.slice 37) by kernel_rfl) g5
  rw [e5] at g5
  simp only [List.cons.injEq, and_true] at e5
  have g6 := hf 6 24 9 rfl
  rw [show Try.prog.cellsOf 24 = 1 by kernel_rfl] at g6
  simp only [List.drop_succ_cons, List.drop_zero, List.take_succ_cons, List.take_zero] at g6
  obtain ⟨n6, e6⟩ := RdT.slice (show Try.prog.underlying 24 = some (.slice 3) by kernel_rfl) g6
  rw [e6] at g6
  simp only [List.cons.injEq, and_true] at e6
  exact ⟨⟨n0, n1, n2, n3, n4, n5, n6⟩, by simp [Conf.enc, f0_0, f0_1, f0_2, f0_3, e1, e2, e3, e4, e5, e6], o0, (open_rdI (t := 24) (e := 3) (by kernel_rfl) (by kernel_rfl) (by kernel_rfl) g1), ⟨l2, m2⟩, (open_rdI (t := 24) (e := 3) (by kernel_rfl) (by kernel_rfl) (by kernel_rfl) g3), (open_rdI (t := 24) (e := 3) (by kernel_rfl) (by kernel_rfl) (by kernel_rfl) g4), (open_rdEok (t := 25) (e := 37) (by kernel_rfl) (by kernel_rfl) (by intro x; simp [CTask.enc]) (fun cs hcs => CTask.of_rd hcs) g5), (open_rdI (t := 24) (e := 3) (by kernel_rfl) (by kernel_rfl) (by kernel_rfl) g6)⟩
structure Rec where
  at_ : Int
  kind : Int
  task : Int
  job : Int
  op : Int
  code : Int
  value : Int
def Rec.enc (x : Rec) : List Value := [.int .i64 x.at_, .int .i64 x.kind, .int .i64 x.task, .int .i64 x.job, .int .i64 x.op, .int .i64 x.code, .int .i64 x.value]
def Rec.ok (_h : Hp) (x : Rec) : Prop := (-9223372036854775808 ≤ x.at_ ∧ x.at_ ≤ 9223372036854775807) ∧ (-9223372036854775808 ≤ x.kind ∧ x.kind ≤ 9223372036854775807) ∧ (-9223372036854775808 ≤ x.task ∧ x.task ≤ 9223372036854775807) ∧ (-9223372036854775808 ≤ x.job ∧ x.job ≤ 9223372036854775807) ∧ (-9223372036854775808 ≤ x.op ∧ x.op ≤ 9223372036854775807) ∧ (-9223372036854775808 ≤ x.code ∧ x.code ≤ 9223372036854775807) ∧ (-9223372036854775808 ≤ x.value ∧ x.value ≤ 9223372036854775807)
theorem Rec.of_rd {h : Hp} {d : Nat} {cs : List Value} (hcs : RdT Try.prog h (d + 2) 33 cs) : ∃ x : Rec, cs = x.enc ∧ x.ok h := by
  obtain ⟨hlen, hf⟩ := RdT.fields (l := [(3, 0), (3, 1), (3, 2), (3, 3), (3, 4), (31, 5), (3, 6)]) (by kernel_rfl) hcs
  rw [show Try.prog.cellsOf 33 = 7 by kernel_rfl] at hlen
  obtain ⟨c0, c1, c2, c3, c4, c5, c6, rfl⟩ : ∃ c0 c1 c2 c3 c4 c5 c6, cs = [c0, c1, c2, c3, c4, c5, c6] := by
    match cs, hlen with
    | [c0, c1, c2, c3, c4, c5, c6], _ => exact ⟨c0, c1, c2, c3, c4, c5, c6, rfl⟩
  have g0 := hf 0 3 0 rfl
  rw [show Try.prog.cellsOf 3 = 1 by kernel_rfl] at g0
  simp only [List.drop_succ_cons, List.drop_zero, List.take_succ_cons, List.take_zero] at g0
  obtain ⟨n0, e0, l0, m0⟩ := RdT.int (show Try.prog.underlying 3 = some (.int .i64) by kernel_rfl) g0
  rw [show IntKind.i64.min = -9223372036854775808 by decide] at l0
  rw [show IntKind.i64.max = 9223372036854775807 by decide] at m0
  simp only [List.cons.injEq, and_true] at e0
  have g1 := hf 1 3 1 rfl
  rw [show Try.prog.cellsOf 3 = 1 by kernel_rfl] at g1
  simp only [List.drop_succ_cons, List.drop_zero, List.take_succ_cons, List.take_zero] at g1
  obtain ⟨n1, e1, l1, m1⟩ := RdT.int (show Try.prog.underlying 3 = some (.int .i64) by kernel_rfl) g1
  rw [show IntKind.i64.min = -9223372036854775808 by decide] at l1
  rw [show IntKind.i64.max = 9223372036854775807 by decide] at m1
  simp only [List.cons.injEq, and_true] at e1
  have g2 := hf 2 3 2 rfl
  rw [show Try.prog.cellsOf 3 = 1 by kernel_rfl] at g2
  simp only [List.drop_succ_cons, List.drop_zero, List.take_succ_cons, List.take_zero] at g2
  obtain ⟨n2, e2, l2, m2⟩ := RdT.int (show Try.prog.underlying 3 = some (.int .i64) by kernel_rfl) g2
  rw [show IntKind.i64.min = -9223372036854775808 by decide] at l2
  rw [show IntKind.i64.max = 9223372036854775807 by decide] at m2
  simp only [List.cons.injEq, and_true] at e2
  have g3 := hf 3 3 3 rfl
  rw [show Try.prog.cellsOf 3 = 1 by kernel_rfl] at g3
  simp only [List.drop_succ_cons, List.drop_zero, List.take_succ_cons, List.take_zero] at g3
  obtain ⟨n3, e3, l3, m3⟩ := RdT.int (show Try.prog.underlying 3 = some (.int .i64) by kernel_rfl) g3
  rw [show IntKind.i64.min = -9223372036854775808 by decide] at l3
  rw [show IntKind.i64.max = 9223372036854775807 by decide] at m3
  simp only [List.cons.injEq, and_true] at e3
  have g4 := hf 4 3 4 rfl
  rw [show Try.prog.cellsOf 3 = 1 by kernel_rfl] at g4
  simp only [List.drop_succ_cons, List.drop_zero, List.take_succ_cons, List.take_zero] at g4
  obtain ⟨n4, e4, l4, m4⟩ := RdT.int (show Try.prog.underlying 3 = some (.int .i64) by kernel_rfl) g4
  rw [show IntKind.i64.min = -9223372036854775808 by decide] at l4
  rw [show IntKind.i64.max = 9223372036854775807 by decide] at m4
  simp only [List.cons.injEq, and_true] at e4
  have g5 := hf 5 31 5 rfl
  rw [show Try.prog.cellsOf 31 = 1 by kernel_rfl] at g5
  simp only [List.drop_succ_cons, List.drop_zero, List.take_succ_cons, List.take_zero] at g5
  obtain ⟨n5, e5, l5, m5⟩ := RdT.int (show Try.prog.underlying 31 = some (.int .i64) by kernel_rfl) g5
  rw [show IntKind.i64.min = -9223372036854775808 by decide] at l5
  rw [show IntKind.i64.max = 9223372036854775807 by decide] at m5
  simp only [List.cons.injEq, and_true] at e5
  have g6 := hf 6 3 6 rfl
  rw [show Try.prog.cellsOf 3 = 1 by kernel_rfl] at g6
  simp only [List.drop_succ_cons, List.drop_zero, List.take_succ_cons, List.take_zero] at g6
  obtain ⟨n6, e6, l6, m6⟩ := RdT.int (show Try.prog.underlying 3 = some (.int .i64) by kernel_rfl) g6
  rw [show IntKind.i64.min = -9223372036854775808 by decide] at l6
  rw [show IntKind.i64.max = 9223372036854775807 by decide] at m6
  simp only [List.cons.injEq, and_true] at e6
  exact ⟨⟨n0, n1, n2, n3, n4, n5, n6⟩, by simp [Rec.enc, e0, e1, e2, e3, e4, e5, e6], ⟨l0, m0⟩, ⟨l1, m1⟩, ⟨l2, m2⟩, ⟨l3, m3⟩, ⟨l4, m4⟩, ⟨l5, m5⟩, ⟨l6, m6⟩⟩
theorem open_28 {h : Hp} {a : Option Addr} {len cap : Nat} (hr : RdT Try.prog h 12 28 [.slice a len cap]) : ∃ xs : List Rec, RdE h.size h Rec.enc 7 ⟨a, len, cap⟩ xs ∧ ∀ x ∈ xs, x.ok h :=
  open_rdEok (e := 33) (d := 11) (by kernel_rfl) (by kernel_rfl) (by intro x; simp [Rec.enc]) (fun cs hcs => Rec.of_rd hcs) hr
structure Rep where
  task : Int
  job : Int
  release : Int
  start : Int
  end_ : Int
  fault : Bool
  displaced : Int
  hits : Int
  misses : Int
  withheld : Int
  base : Int
def Rep.enc (x : Rep) : List Value := [.int .i64 x.task, .int .i64 x.job, .int .i64 x.release, .int .i64 x.start, .int .i64 x.end_, .bool x.fault, .int .i64 x.displaced, .int .i64 x.hits, .int .i64 x.misses, .int .i64 x.withheld, .int .i64 x.base]
def Rep.ok (_h : Hp) (x : Rep) : Prop := (-9223372036854775808 ≤ x.task ∧ x.task ≤ 9223372036854775807) ∧ (-9223372036854775808 ≤ x.job ∧ x.job ≤ 9223372036854775807) ∧ (-9223372036854775808 ≤ x.release ∧ x.release ≤ 9223372036854775807) ∧ (-9223372036854775808 ≤ x.start ∧ x.start ≤ 9223372036854775807) ∧ (-9223372036854775808 ≤ x.end_ ∧ x.end_ ≤ 9223372036854775807) ∧ (-9223372036854775808 ≤ x.displaced ∧ x.displaced ≤ 9223372036854775807) ∧ (-9223372036854775808 ≤ x.hits ∧ x.hits ≤ 9223372036854775807) ∧ (-9223372036854775808 ≤ x.misses ∧ x.misses ≤ 9223372036854775807) ∧ (-9223372036854775808 ≤ x.withheld ∧ x.withheld ≤ 9223372036854775807) ∧ (-9223372036854775808 ≤ x.base ∧ x.base ≤ 9223372036854775807)
theorem Rep.of_rd {h : Hp} {d : Nat} {cs : List Value} (hcs : RdT Try.prog h (d + 2) 48 cs) : ∃ x : Rep, cs = x.enc ∧ x.ok h := by
  obtain ⟨hlen, hf⟩ := RdT.fields (l := [(3, 0), (3, 1), (3, 2), (3, 3), (3, 4), (4, 5), (3, 6), (3, 7), (3, 8), (3, 9), (3, 10)]) (by kernel_rfl) hcs
  rw [show Try.prog.cellsOf 48 = 11 by kernel_rfl] at hlen
  obtain ⟨c0, c1, c2, c3, c4, c5, c6, c7, c8, c9, c10, rfl⟩ : ∃ c0 c1 c2 c3 c4 c5 c6 c7 c8 c9 c10, cs = [c0, c1, c2, c3, c4, c5, c6, c7, c8, c9, c10] := by
    match cs, hlen with
    | [c0, c1, c2, c3, c4, c5, c6, c7, c8, c9, c10], _ => exact ⟨c0, c1, c2, c3, c4, c5, c6, c7, c8, c9, c10, rfl⟩
  have g0 := hf 0 3 0 rfl
  rw [show Try.prog.cellsOf 3 = 1 by kernel_rfl] at g0
  simp only [List.drop_succ_cons, List.drop_zero, List.take_succ_cons, List.take_zero] at g0
  obtain ⟨n0, e0, l0, m0⟩ := RdT.int (show Try.prog.underlying 3 = some (.int .i64) by kernel_rfl) g0
  rw [show IntKind.i64.min = -9223372036854775808 by decide] at l0
  rw [show IntKind.i64.max = 9223372036854775807 by decide] at m0
  simp only [List.cons.injEq, and_true] at e0
  have g1 := hf 1 3 1 rfl
  rw [show Try.prog.cellsOf 3 = 1 by kernel_rfl] at g1
  simp only [List.drop_succ_cons, List.drop_zero, List.take_succ_cons, List.take_zero] at g1
  obtain ⟨n1, e1, l1, m1⟩ := RdT.int (show Try.prog.underlying 3 = some (.int .i64) by kernel_rfl) g1
  rw [show IntKind.i64.min = -9223372036854775808 by decide] at l1
  rw [show IntKind.i64.max = 9223372036854775807 by decide] at m1
  simp only [List.cons.injEq, and_true] at e1
  have g2 := hf 2 3 2 rfl
  rw [show Try.prog.cellsOf 3 = 1 by kernel_rfl] at g2
  simp only [List.drop_succ_cons, List.drop_zero, List.take_succ_cons, List.take_zero] at g2
  obtain ⟨n2, e2, l2, m2⟩ := RdT.int (show Try.prog.underlying 3 = some (.int .i64) by kernel_rfl) g2
  rw [show IntKind.i64.min = -9223372036854775808 by decide] at l2
  rw [show IntKind.i64.max = 9223372036854775807 by decide] at m2
  simp only [List.cons.injEq, and_true] at e2
  have g3 := hf 3 3 3 rfl
  rw [show Try.prog.cellsOf 3 = 1 by kernel_rfl] at g3
  simp only [List.drop_succ_cons, List.drop_zero, List.take_succ_cons, List.take_zero] at g3
  obtain ⟨n3, e3, l3, m3⟩ := RdT.int (show Try.prog.underlying 3 = some (.int .i64) by kernel_rfl) g3
  rw [show IntKind.i64.min = -9223372036854775808 by decide] at l3
  rw [show IntKind.i64.max = 9223372036854775807 by decide] at m3
  simp only [List.cons.injEq, and_true] at e3
  have g4 := hf 4 3 4 rfl
  rw [show Try.prog.cellsOf 3 = 1 by kernel_rfl] at g4
  simp only [List.drop_succ_cons, List.drop_zero, List.take_succ_cons, List.take_zero] at g4
  obtain ⟨n4, e4, l4, m4⟩ := RdT.int (show Try.prog.underlying 3 = some (.int .i64) by kernel_rfl) g4
  rw [show IntKind.i64.min = -9223372036854775808 by decide] at l4
  rw [show IntKind.i64.max = 9223372036854775807 by decide] at m4
  simp only [List.cons.injEq, and_true] at e4
  have g5 := hf 5 4 5 rfl
  rw [show Try.prog.cellsOf 4 = 1 by kernel_rfl] at g5
  simp only [List.drop_succ_cons, List.drop_zero, List.take_succ_cons, List.take_zero] at g5
  obtain ⟨n5, e5⟩ := RdT.bool (show Try.prog.underlying 4 = some .bool by kernel_rfl) g5
  simp only [List.cons.injEq, and_true] at e5
  have g6 := hf 6 3 6 rfl
  rw [show Try.prog.cellsOf 3 = 1 by kernel_rfl] at g6
  simp only [List.drop_succ_cons, List.drop_zero, List.take_succ_cons, List.take_zero] at g6
  obtain ⟨n6, e6, l6, m6⟩ := RdT.int (show Try.prog.underlying 3 = some (.int .i64) by kernel_rfl) g6
  rw [show IntKind.i64.min = -9223372036854775808 by decide] at l6
  rw [show IntKind.i64.max = 9223372036854775807 by decide] at m6
  simp only [List.cons.injEq, and_true] at e6
  have g7 := hf 7 3 7 rfl
  rw [show Try.prog.cellsOf 3 = 1 by kernel_rfl] at g7
  simp only [List.drop_succ_cons, List.drop_zero, List.take_succ_cons, List.take_zero] at g7
  obtain ⟨n7, e7, l7, m7⟩ := RdT.int (show Try.prog.underlying 3 = some (.int .i64) by kernel_rfl) g7
  rw [show IntKind.i64.min = -9223372036854775808 by decide] at l7
  rw [show IntKind.i64.max = 9223372036854775807 by decide] at m7
  simp only [List.cons.injEq, and_true] at e7
  have g8 := hf 8 3 8 rfl
  rw [show Try.prog.cellsOf 3 = 1 by kernel_rfl] at g8
  simp only [List.drop_succ_cons, List.drop_zero, List.take_succ_cons, List.take_zero] at g8
  obtain ⟨n8, e8, l8, m8⟩ := RdT.int (show Try.prog.underlying 3 = some (.int .i64) by kernel_rfl) g8
  rw [show IntKind.i64.min = -9223372036854775808 by decide] at l8
  rw [show IntKind.i64.max = 9223372036854775807 by decide] at m8
  simp only [List.cons.injEq, and_true] at e8
  have g9 := hf 9 3 9 rfl
  rw [show Try.prog.cellsOf 3 = 1 by kernel_rfl] at g9
  simp only [List.drop_succ_cons, List.drop_zero, List.take_succ_cons, List.take_zero] at g9
  obtain ⟨n9, e9, l9, m9⟩ := RdT.int (show Try.prog.underlying 3 = some (.int .i64) by kernel_rfl) g9
  rw [show IntKind.i64.min = -9223372036854775808 by decide] at l9
  rw [show IntKind.i64.max = 9223372036854775807 by decide] at m9
  simp only [List.cons.injEq, and_true] at e9
  have g10 := hf 10 3 10 rfl
  rw [show Try.prog.cellsOf 3 = 1 by kernel_rfl] at g10
  simp only [List.drop_succ_cons, List.drop_zero, List.take_succ_cons, List.take_zero] at g10
  obtain ⟨n10, e10, l10, m10⟩ := RdT.int (show Try.prog.underlying 3 = some (.int .i64) by kernel_rfl) g10
  rw [show IntKind.i64.min = -9223372036854775808 by decide] at l10
  rw [show IntKind.i64.max = 9223372036854775807 by decide] at m10
  simp only [List.cons.injEq, and_true] at e10
  exact ⟨⟨n0, n1, n2, n3, n4, n5, n6, n7, n8, n9, n10⟩, by simp [Rep.enc, e0, e1, e2, e3, e4, e5, e6, e7, e8, e9, e10], ⟨l0, m0⟩, ⟨l1, m1⟩, ⟨l2, m2⟩, ⟨l3, m3⟩, ⟨l4, m4⟩, ⟨l6, m6⟩, ⟨l7, m7⟩, ⟨l8, m8⟩, ⟨l9, m9⟩, ⟨l10, m10⟩⟩
theorem open_45 {h : Hp} {a : Option Addr} {len cap : Nat} (hr : RdT Try.prog h 12 45 [.slice a len cap]) : ∃ xs : List Rep, RdE h.size h Rep.enc 11 ⟨a, len, cap⟩ xs ∧ ∀ x ∈ xs, x.ok h :=
  open_rdEok (e := 48) (d := 11) (by kernel_rfl) (by kernel_rfl) (by intro x; simp [Rep.enc]) (fun cs hcs => Rep.of_rd hcs) hr
end Go.Proofs.Ytkoenpliddhhoaa
